/- The arguments, read: terms, binds. -/
import Derived.ProofKit
import Derived.ChangeSame
import Derived.ChangeArms
import Derived.Test.YtneecjikdghchaaDoorOwn
set_option linter.unusedSimpArgs false
set_option linter.unusedVariables false
namespace Go.Proofs.YtneecjikdghchaaDoor
open Go.RowKit Go.ChangeShapes Go.WideShapes Go.ChangeAt

section
variable {H : Type} {enc : TypeId × Value → H} {P : Program} {W : World} {sp : Nat → Bool} {held : Bool}
theorem cells_get {base : Nat} {a : Addr} {n : Nat} {cs : List Value} (h : W.cells? base a n = some cs) : cs.length = n ∧ ∀ i, i < n → W.cell? (a.add i) = cs[i]? := by
  unfold World.cells? at h
  split at h
  · refine ⟨by simpa using mapM_some_length h, fun i hi => ?_⟩
    have := mapM_some_get h i i (by simp [hi])
    exact this
  · cases h
/-- A slice that is read, each of its elements being read so. -/
theorem read_slice {t e k : Nat} {fuel : Nat} {cs : List Value} {x : DataW H × List MemPlace} (ht : P.underlying t = some (.slice e)) (hk : P.cellsOf e = k) (hk0 : 0 < k) {α : Type} (f : α → D)
    (h : DataW.trod enc P W 0 sp held fuel t cs = some x) (hel : ∀ n cs y, n < fuel → DataW.trod enc P W 0 sp held n e cs = some y → ∃ u : α, RepD (fun _ => False) W (f u) cs) :
    ∃ us : List α, RepD (fun _ => False) W (.row k (us.map f)) cs := by
  rcases DataW.trod_slice ht h with ⟨rfl, _⟩ | ⟨a, len, cap, elems, rest, n, hn, rfl, _, _, hl, hm, hlen, hget, _, _⟩
  · exact ⟨[], by simp only [RepD]; exact ⟨none, 0, 0, rfl, rfl, by omega, by omega, by omega⟩⟩
  · have hx : ∀ i : Fin len, ∃ (u : α) (cs : List Value), cs.length = k ∧ (∀ j, j < k → W.cell? ((a.add (i * k)).add j) = cs[j]?) ∧ RepD (fun _ => False) W (f u) cs := by
      intro i
      have h1 := hget i i.2
      have h2 : elems[i.1]? = some (elems[i.1]'(by omega)) := List.getElem?_eq_getElem _
      rw [h2, hk] at h1
      obtain ⟨cs', h3, h4⟩ := Option.bind_eq_some_iff.1 h1
      obtain ⟨u, hu⟩ := hel n cs' _ (by omega) h4
      obtain ⟨g1, g2⟩ := cells_get h3
      exact ⟨u, cs', g1, g2, hu⟩
    refine ⟨List.ofFn fun i => Classical.choose (hx i), ?_⟩
    simp only [RepD]
    refine ⟨some a, len, cap, rfl, by simp, hl, Nat.le_trans hl (by simpa [maxLen] using hm), fun h0 => ?_⟩
    obtain ⟨cs0, hc1, hc2, _⟩ := Classical.choose_spec (hx ⟨0, h0⟩)
    have hc0 := hc2 0 hk0
    have hcell : W.cell? a = some (cs0[0]'(by omega)) := by
      rw [List.getElem?_eq_getElem (by omega)] at hc0
      simpa [Addr.add] using hc0
    have hspot := World.cell?_spot hcell
    obtain ⟨b, off, spot⟩ := a
    simp only at hspot
    subst hspot
    refine ⟨b, off, rfl, World.block_lt_of_cell? W _ hcell, id, ?_⟩
    have hadd : ∀ i j : Nat, ((⟨b, off, none⟩ : Addr).add i).add j = ⟨b, off + i + j, none⟩ := fun i j => by
      unfold Addr.add
      split <;> split <;> simp_all
    have main : ∀ (m : Nat) (us : List α) (o : Nat), (∀ i (hi : i < us.length), ∃ cs : List Value, cs.length = k ∧ (∀ j, j < k → W.cell? ⟨b, o + i * k + j, none⟩ = cs[j]?) ∧ RepD (fun _ => False) W (f us[i]) cs) → RepR (fun _ => False) W b k o (us.map f) := by
      intro _ us
      induction us with
      | nil => intro o _; simp only [List.map_nil, RepR]
      | cons u us ih =>
        intro o hu
        simp only [List.map_cons, RepR]
        refine ⟨?_, ih (o + k) fun i hi => ?_⟩
        · obtain ⟨cs, g1, g2, g3⟩ := hu 0 (by simp)
          exact ⟨cs, g1, fun j hj => by have := g2 j hj; simpa using this, g3⟩
        · obtain ⟨cs, g1, g2, g3⟩ := hu (i + 1) (by simpa using hi)
          exact ⟨cs, g1, fun j hj => by have := g2 j hj; rwa [show o + k + i * k + j = o + (i + 1) * k + j by rw [Nat.succ_mul]; omega], by simpa using g3⟩
    refine main 0 _ off fun i hi => ?_
    have hi' : i < len := by simpa using hi
    obtain ⟨cs, g1, g2, g3⟩ := Classical.choose_spec (hx ⟨i, hi'⟩)
    exact ⟨cs, g1, fun j hj => by have := g2 j hj; rwa [hadd] at this, by simpa using g3⟩
end
end Go.Proofs.YtneecjikdghchaaDoor
