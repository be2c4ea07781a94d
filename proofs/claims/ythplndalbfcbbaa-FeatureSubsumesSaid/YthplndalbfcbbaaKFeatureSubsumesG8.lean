/- What the proof of the law rests on: contracts of the functions, plain laws, and words. -/
import Derived.ProofKit
import Derived.ChangeSame
import Derived.ChangeArms
import Derived.Test.YthplndalbfcbbaaRows
import Derived.JoinedOf
import Derived.WalkKit
import Derived.Test.YthplndalbfcbbaaKFeatureSubsumesG2
set_option linter.unusedSimpArgs false
set_option linter.unusedVariables false
namespace Go.Proofs.Ythplndalbfcbbaa
open Go.RowKit Go.ChangeShapes Go.WideShapes Go.ChangeAt
section
variable {H : Type} {enc : TypeId × Value → H} {P : Program} {W : World} {sp : Nat → Bool} {held : Bool}
theorem cells_get {base : Nat} {a : Addr} {n : Nat} {cs : List Value} (h : W.cells? base a n = some cs) : cs.length = n ∧ ∀ i, i < n → W.cell? (a.add i) = cs[i]? := by
  unfold World.cells? at h
  split at h
  · refine ⟨by simpa using mapM_some_length h, fun i hi => ?_⟩
    have := mapM_some_get h i i (by simp [hi])
    exact this
  · cases h
theorem read_slice {t e k : Nat} {fuel : Nat} {cs : List Value} {x : DataW H × List MemPlace} (ht : P.underlying t = some (.slice e)) (hk : P.cellsOf e = k) (hk0 : 0 < k) {α : Type} (f : α → D)
    (h : DataW.trod enc P W 0 sp held fuel t cs = some x) (hel : ∀ n cs y, n < fuel → DataW.trod enc P W 0 sp held n e cs = some y → ∃ u : α, RepD (fun _ => False) W (f u) cs) :
    ∃ us : List α, RepD (fun _ => False) W (.row k (us.map f)) cs := by
  rcases DataW.trod_slice ht h with ⟨rfl, _⟩ | ⟨a, len, cap, elems, rest, n, hn, rfl, _, _, hl, hm, hlen, hget, _, _⟩
  · exact ⟨[], by simp only [RepD]; exact ⟨none, 0, 0, rfl, rfl, by omega, by omega, by omega⟩⟩
  · have hx : ∀ i : Fin len, ∃ (u : α) (cs : List Value), cs.length = k ∧ (∀ j, j < k → W.cell? ((a.add (i * k)).add j) = cs[j]?) ∧ RepD (fun _ => False) W (f u) cs := by
      intro i
      have h1 := hget i i.2
      have h2 : elems[i.1]? = some (elems[i.1]'(by omega)) := List.getElem?_eq_getElem _
      rw [h2, hk] at h1
      obtain ⟨cs', h3, h4⟩ := Option.bind_eq_some_iff.1 h1
      obtain ⟨u, hu⟩ := hel n cs' _ (by omega) h4
      obtain ⟨g1, g2⟩ := cells_get h3
      exact ⟨u, cs', g1, g2, hu⟩
    refine ⟨List.ofFn fun i => Classical.choose (hx i), ?_⟩
    simp only [RepD]
    refine ⟨some a, len, cap, rfl, by simp, hl, Nat.le_trans hl (by simpa [maxLen] using hm), fun h0 => ?_⟩
    obtain ⟨cs0, hc1, hc2, _⟩ := Classical.choose_spec (hx ⟨0, h0⟩)
    have hc0 := hc2 0 hk0
    have hcell : W.cell? a = some (cs0[0]'(by omega)) := by
      rw [List.getElem?_eq_getElem (by omega)] at hc0
      simpa [Addr.add] using hc0
    have hspot := World.cell?_spot hcell
    obtain ⟨b, off, spot⟩ := a
    simp only at hspot
    subst hspot
    refine ⟨b, off, rfl, World.block_lt_of_cell? W _ hcell, id, ?_⟩
    have hadd : ∀ i j : Nat, ((⟨b, off, none⟩ : Addr).add i).add j = ⟨b, off + i + j, none⟩ := fun i j => by
      unfold Addr.add
      split <;> split <;> simp_all
    have main : ∀ (m : Nat) (us : List α) (o : Nat), (∀ i (hi : i < us.length), ∃ cs : List Value, cs.length = k ∧ (∀ j, j < k → W.cell? ⟨b, o + i * k + j, none⟩ = cs[j]?) ∧ RepD (fun _ => False) W (f us[i]) cs) → RepR (fun _ => False) W b k o (us.map f) := by
      intro _ us
      induction us with
      | nil => intro o _; simp only [List.map_nil, RepR]
      | cons u us ih =>
        intro o hu
        simp only [List.map_cons, RepR]
        refine ⟨?_, ih (o + k) fun i hi => ?_⟩
        · obtain ⟨cs, g1, g2, g3⟩ := hu 0 (by simp)
          exact ⟨cs, g1, fun j hj => by have := g2 j hj; simpa using this, g3⟩
        · obtain ⟨cs, g1, g2, g3⟩ := hu (i + 1) (by simpa using hi)
          exact ⟨cs, g1, fun j hj => by have := g2 j hj; rwa [show o + k + i * k + j = o + (i + 1) * k + j by rw [Nat.succ_mul]; omega], by simpa using g3⟩
    refine main 0 _ off fun i hi => ?_
    have hi' : i < len := by simpa using hi
    obtain ⟨cs, g1, g2, g3⟩ := Classical.choose_spec (hx ⟨i, hi'⟩)
    exact ⟨cs, g1, fun j hj => by have := g2 j hj; rwa [hadd] at this, by simpa using g3⟩
end
end Go.Proofs.Ythplndalbfcbbaa
set_option linter.unusedSimpArgs false
set_option linter.unusedVariables false
namespace Go.Proofs.Ythplndalbfcbbaa
open Go.RowKit Go.ChangeShapes Go.WideShapes Go.ChangeAt
section
variable {H : Type} {enc : TypeId × Value → H} {W : World} {sp : Nat → Bool} {held : Bool}
theorem cellsTerm : Try.prog.cellsOf 25 = 2 := by kernel_rfl
theorem cellsInt : Try.prog.cellsOf 3 = 1 := by kernel_rfl
theorem cellsTerms : Try.prog.cellsOf 23 = 1 := by kernel_rfl
theorem list2 {l : List Value} (h : l.length = 2) : ∃ a b, l = [a, b] := by
  match l, h with
  | [a, b], _ => exact ⟨a, b, rfl⟩
theorem readTm : ∀ (fuel : Nat) (cs : List Value) (x : DataW H × List MemPlace), DataW.trod enc Try.prog W 0 sp held fuel 25 cs = some x → ∃ t : Tm, RepD (fun _ => False) W t.d cs := by
  intro fuel
  induction fuel using Nat.strongRecOn with
  | ind fuel ih =>
    intro cs x h
    obtain ⟨xs, n, rfl, _, hl, hlen, hf⟩ := DataW.trod_struct Try.underlying25 h
    rw [cellsTerm] at hl
    obtain ⟨c0, c1, rfl⟩ := list2 hl
    have h0 := hf 0 _ rfl
    have h1 := hf 1 _ rfl
    have e0 : xs[0]? = some (xs[0]'(by rw [hlen]; decide)) := List.getElem?_eq_getElem _
    have e1 : xs[1]? = some (xs[1]'(by rw [hlen]; decide)) := List.getElem?_eq_getElem _
    rw [e0] at h0
    rw [e1] at h1
    obtain ⟨v, hv, _, hw⟩ := DataW.trod_int Try.underlying3 h0
    obtain ⟨us, hus⟩ := read_slice Try.underlying23 cellsTerm (by omega) Tm.d h1 (fun m cs y hm hy => ih m (by omega) cs y hy)
    replace hv : [c0, c1].take (Try.prog.cellsOf 3) = [.int .i64 v] := hv
    replace hus : RepD (fun _ => False) W (.row 2 (us.map Tm.d)) ([c1].take (Try.prog.cellsOf 23)) := hus
    rw [cellsInt] at hv
    rw [cellsTerms] at hus
    simp at hv hus
    subst hv
    exact ⟨.node v us, repTm.2 ⟨c1, rfl, by rw [Terms, Tm.ds_eq]; exact hus⟩⟩
end
end Go.Proofs.Ythplndalbfcbbaa
set_option linter.unusedSimpArgs false
set_option linter.unusedVariables false
namespace Go.Proofs.Ythplndalbfcbbaa
def headSigns : List Char := [Char.ofNat 104, Char.ofNat 97, Char.ofNat 114, Char.ofNat 110, Char.ofNat 101, Char.ofNat 115, Char.ofNat 115, Char.ofNat 32, Char.ofNat 51, Char.ofNat 100, Char.ofNat 102, Char.ofNat 56, Char.ofNat 48, Char.ofNat 55, Char.ofNat 56, Char.ofNat 100, Char.ofNat 57, Char.ofNat 54, Char.ofNat 50, Char.ofNat 99, Char.ofNat 52, Char.ofNat 102, Char.ofNat 98, Char.ofNat 50, Char.ofNat 54, Char.ofNat 102, Char.ofNat 55, Char.ofNat 48, Char.ofNat 49, Char.ofNat 49, Char.ofNat 54, Char.ofNat 53, Char.ofNat 100, Char.ofNat 49, Char.ofNat 100, Char.ofNat 51, Char.ofNat 98, Char.ofNat 102, Char.ofNat 101, Char.ofNat 51, Char.ofNat 57, Char.ofNat 100, Char.ofNat 100, Char.ofNat 97, Char.ofNat 57, Char.ofNat 48, Char.ofNat 57, Char.ofNat 102, Char.ofNat 49, Char.ofNat 49, Char.ofNat 100, Char.ofNat 100, Char.ofNat 50, Char.ofNat 55, Char.ofNat 101, Char.ofNat 52, Char.ofNat 97, Char.ofNat 99, Char.ofNat 57, Char.ofNat 49, Char.ofNat 100, Char.ofNat 99, Char.ofNat 102, Char.ofNat 54, Char.ofNat 57, Char.ofNat 53, Char.ofNat 48, Char.ofNat 100, Char.ofNat 49, Char.ofNat 100, Char.ofNat 49, Char.ofNat 51, Char.ofNat 32, Char.ofNat 99, Char.ofNat 117, Char.ofNat 116, Char.ofNat 32, Char.ofNat 97, Char.ofNat 116, Char.ofNat 32, Char.ofNat 101, Char.ofNat 108, Char.ofNat 101, Char.ofNat 110, Char.ofNat 99, Char.ofNat 104, Char.ofNat 117, Char.ofNat 115, Char.ofNat 47, Char.ofNat 101, Char.ofNat 108, Char.ofNat 101, Char.ofNat 110, Char.ofNat 99, Char.ofNat 104, Char.ofNat 117, Char.ofNat 115, Char.ofNat 108, Char.ofNat 97, Char.ofNat 119, Char.ofNat 48, Char.ofNat 51, Char.ofNat 46, Char.ofNat 83, Char.ofNat 117, Char.ofNat 98, Char.ofNat 115, Char.ofNat 116, Char.ofNat 68, Char.ofNat 111, Char.ofNat 101, Char.ofNat 115, Char.ofNat 32, Char.ofNat 101, Char.ofNat 108, Char.ofNat 101, Char.ofNat 110, Char.ofNat 99, Char.ofNat 104, Char.ofNat 117, Char.ofNat 115, Char.ofNat 47, Char.ofNat 101, Char.ofNat 108, Char.ofNat 101, Char.ofNat 110, Char.ofNat 99, Char.ofNat 104, Char.ofNat 117, Char.ofNat 115, Char.ofNat 108, Char.ofNat 97, Char.ofNat 119, Char.ofNat 48, Char.ofNat 51, Char.ofNat 46, Char.ofNat 83, Char.ofNat 117, Char.ofNat 98, Char.ofNat 115, Char.ofNat 116, Char.ofNat 83, Char.ofNat 116, Char.ofNat 97, Char.ofNat 121, Char.ofNat 115, Char.ofNat 32, Char.ofNat 101, Char.ofNat 108, Char.ofNat 101, Char.ofNat 110, Char.ofNat 99, Char.ofNat 104, Char.ofNat 117, Char.ofNat 115, Char.ofNat 47, Char.ofNat 101, Char.ofNat 108, Char.ofNat 101, Char.ofNat 110, Char.ofNat 99, Char.ofNat 104, Char.ofNat 117, Char.ofNat 115, Char.ofNat 108, Char.ofNat 97, Char.ofNat 119, Char.ofNat 48, Char.ofNat 53, Char.ofNat 46, Char.ofNat 77, Char.ofNat 97, Char.ofNat 116, Char.ofNat 99, Char.ofNat 104, Char.ofNat 77, Char.ofNat 97, Char.ofNat 107, Char.ofNat 101, Char.ofNat 115, Char.ofNat 32, Char.ofNat 101, Char.ofNat 108, Char.ofNat 101, Char.ofNat 110, Char.ofNat 99, Char.ofNat 104, Char.ofNat 117, Char.ofNat 115, Char.ofNat 47, Char.ofNat 101, Char.ofNat 108, Char.ofNat 101, Char.ofNat 110, Char.ofNat 99, Char.ofNat 104, Char.ofNat 117, Char.ofNat 115, Char.ofNat 108, Char.ofNat 97, Char.ofNat 119, Char.ofNat 48, Char.ofNat 53, Char.ofNat 46, Char.ofNat 77, Char.ofNat 97, Char.ofNat 116, Char.ofNat 99, Char.ofNat 104, Char.ofNat 66, Char.ofNat 101, Char.ofNat 104, Char.ofNat 105, Char.ofNat 110, Char.ofNat 100, Char.ofNat 32, Char.ofNat 101, Char.ofNat 108, Char.ofNat 101, Char.ofNat 110, Char.ofNat 99, Char.ofNat 104, Char.ofNat 117, Char.ofNat 115, Char.ofNat 47, Char.ofNat 101, Char.ofNat 108, Char.ofNat 101, Char.ofNat 110, Char.ofNat 99, Char.ofNat 104, Char.ofNat 117, Char.ofNat 115, Char.ofNat 108, Char.ofNat 97, Char.ofNat 119, Char.ofNat 48, Char.ofNat 51, Char.ofNat 46, Char.ofNat 83, Char.ofNat 117, Char.ofNat 98, Char.ofNat 115, Char.ofNat 116, Char.ofNat 74, Char.ofNat 111, Char.ofNat 105, Char.ofNat 110, Char.ofNat 115, Char.ofNat 32, Char.ofNat 101, Char.ofNat 108, Char.ofNat 101, Char.ofNat 110, Char.ofNat 99, Char.ofNat 104, Char.ofNat 117, Char.ofNat 115, Char.ofNat 47, Char.ofNat 101, Char.ofNat 108, Char.ofNat 101, Char.ofNat 110, Char.ofNat 99, Char.ofNat 104, Char.ofNat 117, Char.ofNat 115, Char.ofNat 108, Char.ofNat 97, Char.ofNat 119, Char.ofNat 48, Char.ofNat 51, Char.ofNat 46, Char.ofNat 83, Char.ofNat 117, Char.ofNat 98, Char.ofNat 115, Char.ofNat 116, Char.ofNat 84, Char.ofNat 104, Char.ofNat 101, Char.ofNat 110, Char.ofNat 32, Char.ofNat 101, Char.ofNat 108, Char.ofNat 101, Char.ofNat 110, Char.ofNat 99, Char.ofNat 104, Char.ofNat 117, Char.ofNat 115, Char.ofNat 47, Char.ofNat 101, Char.ofNat 108, Char.ofNat 101, Char.ofNat 110, Char.ofNat 99, Char.ofNat 104, Char.ofNat 117, Char.ofNat 115, Char.ofNat 108, Char.ofNat 97, Char.ofNat 119, Char.ofNat 48, Char.ofNat 51, Char.ofNat 46, Char.ofNat 83, Char.ofNat 117, Char.ofNat 98, Char.ofNat 115, Char.ofNat 116, Char.ofNat 84, Char.ofNat 111, Char.ofNat 103, Char.ofNat 101, Char.ofNat 116, Char.ofNat 104, Char.ofNat 101, Char.ofNat 114, Char.ofNat 32, Char.ofNat 101, Char.ofNat 108, Char.ofNat 101, Char.ofNat 110, Char.ofNat 99, Char.ofNat 104, Char.ofNat 117, Char.ofNat 115, Char.ofNat 47, Char.ofNat 101, Char.ofNat 108, Char.ofNat 101, Char.ofNat 110, Char.ofNat 99, Char.ofNat 104, Char.ofNat 117, Char.ofNat 115, Char.ofNat 108, Char.ofNat 97, Char.ofNat 119, Char.ofNat 48, Char.ofNat 53, Char.ofNat 46, Char.ofNat 77, Char.ofNat 97, Char.ofNat 116, Char.ofNat 99, Char.ofNat 104, Char.ofNat 78, Char.ofNat 111, Char.ofNat 114, Char.ofNat 109, Char.ofNat 115, Char.ofNat 32, Char.ofNat 101, Char.ofNat 108, Char.ofNat 101, Char.ofNat 110, Char.ofNat 99, Char.ofNat 104, Char.ofNat 117, Char.ofNat 115, Char.ofNat 47, Char.ofNat 101, Char.ofNat 108, Char.ofNat 101, Char.ofNat 110, Char.ofNat 99, Char.ofNat 104, Char.ofNat 117, Char.ofNat 115, Char.ofNat 108, Char.ofNat 97, Char.ofNat 119, Char.ofNat 48, Char.ofNat 53, Char.ofNat 46, Char.ofNat 77, Char.ofNat 97, Char.ofNat 116, Char.ofNat 99, Char.ofNat 104, Char.ofNat 86, Char.ofNat 97, Char.ofNat 114, Char.ofNat 105, Char.ofNat 97, Char.ofNat 110, Char.ofNat 116, Char.ofNat 115, Char.ofNat 32, Char.ofNat 101, Char.ofNat 108, Char.ofNat 101, Char.ofNat 110, Char.ofNat 99, Char.ofNat 104, Char.ofNat 117, Char.ofNat 115, Char.ofNat 47, Char.ofNat 101, Char.ofNat 108, Char.ofNat 101, Char.ofNat 110, Char.ofNat 99, Char.ofNat 104, Char.ofNat 117, Char.ofNat 115, Char.ofNat 108, Char.ofNat 97, Char.ofNat 119, Char.ofNat 48, Char.ofNat 52, Char.ofNat 46, Char.ofNat 85, Char.ofNat 110, Char.ofNat 105, Char.ofNat 102, Char.ofNat 121, Char.ofNat 77, Char.ofNat 97, Char.ofNat 107, Char.ofNat 101, Char.ofNat 115, Char.ofNat 32, Char.ofNat 101, Char.ofNat 108, Char.ofNat 101, Char.ofNat 110, Char.ofNat 99, Char.ofNat 104, Char.ofNat 117, Char.ofNat 115, Char.ofNat 47, Char.ofNat 101, Char.ofNat 108, Char.ofNat 101, Char.ofNat 110, Char.ofNat 99, Char.ofNat 104, Char.ofNat 117, Char.ofNat 115, Char.ofNat 108, Char.ofNat 97, Char.ofNat 119, Char.ofNat 48, Char.ofNat 52, Char.ofNat 46, Char.ofNat 85, Char.ofNat 110, Char.ofNat 105, Char.ofNat 102, Char.ofNat 121, Char.ofNat 82, Char.ofNat 111, Char.ofNat 119, Char.ofNat 115, Char.ofNat 32, Char.ofNat 101, Char.ofNat 108, Char.ofNat 101, Char.ofNat 110, Char.ofNat 99, Char.ofNat 104, Char.ofNat 117, Char.ofNat 115, Char.ofNat 47, Char.ofNat 101, Char.ofNat 108, Char.ofNat 101, Char.ofNat 110, Char.ofNat 99, Char.ofNat 104, Char.ofNat 117, Char.ofNat 115, Char.ofNat 108, Char.ofNat 97, Char.ofNat 119, Char.ofNat 48, Char.ofNat 53, Char.ofNat 46, Char.ofNat 77, Char.ofNat 97, Char.ofNat 116, Char.ofNat 99, Char.ofNat 104, Char.ofNat 83, Char.ofNat 111, Char.ofNat 108, Char.ofNat 118, Char.ofNat 101, Char.ofNat 115, Char.ofNat 32, Char.ofNat 101, Char.ofNat 108, Char.ofNat 101, Char.ofNat 110, Char.ofNat 99, Char.ofNat 104, Char.ofNat 117, Char.ofNat 115, Char.ofNat 47, Char.ofNat 101, Char.ofNat 108, Char.ofNat 101, Char.ofNat 110, Char.ofNat 99, Char.ofNat 104, Char.ofNat 117, Char.ofNat 115, Char.ofNat 108, Char.ofNat 97, Char.ofNat 119, Char.ofNat 49, Char.ofNat 54, Char.ofNat 46, Char.ofNat 70, Char.ofNat 101, Char.ofNat 97, Char.ofNat 116, Char.ofNat 117, Char.ofNat 114, Char.ofNat 101, Char.ofNat 67, Char.ofNat 111, Char.ofNat 117, Char.ofNat 110, Char.ofNat 116, Char.ofNat 115, Char.ofNat 32, Char.ofNat 101, Char.ofNat 108, Char.ofNat 101, Char.ofNat 110, Char.ofNat 99, Char.ofNat 104, Char.ofNat 117, Char.ofNat 115, Char.ofNat 47, Char.ofNat 101, Char.ofNat 108, Char.ofNat 101, Char.ofNat 110, Char.ofNat 99, Char.ofNat 104, Char.ofNat 117, Char.ofNat 115, Char.ofNat 108, Char.ofNat 97, Char.ofNat 119, Char.ofNat 49, Char.ofNat 54, Char.ofNat 46, Char.ofNat 70, Char.ofNat 101, Char.ofNat 97, Char.ofNat 116, Char.ofNat 117, Char.ofNat 114, Char.ofNat 101, Char.ofNat 79, Char.ofNat 114, Char.ofNat 100, Char.ofNat 101, Char.ofNat 114, Char.ofNat 32, Char.ofNat 101, Char.ofNat 108, Char.ofNat 101, Char.ofNat 110, Char.ofNat 99, Char.ofNat 104, Char.ofNat 117, Char.ofNat 115, Char.ofNat 47, Char.ofNat 101, Char.ofNat 108, Char.ofNat 101, Char.ofNat 110, Char.ofNat 99, Char.ofNat 104, Char.ofNat 117, Char.ofNat 115, Char.ofNat 108, Char.ofNat 97, Char.ofNat 119, Char.ofNat 48, Char.ofNat 52, Char.ofNat 46, Char.ofNat 85, Char.ofNat 110, Char.ofNat 105, Char.ofNat 102, Char.ofNat 121, Char.ofNat 83, Char.ofNat 105, Char.ofNat 100, Char.ofNat 101, Char.ofNat 115, Char.ofNat 32, Char.ofNat 101, Char.ofNat 108, Char.ofNat 101, Char.ofNat 110, Char.ofNat 99, Char.ofNat 104, Char.ofNat 117, Char.ofNat 115, Char.ofNat 47, Char.ofNat 101, Char.ofNat 108, Char.ofNat 101, Char.ofNat 110, Char.ofNat 99, Char.ofNat 104, Char.ofNat 117, Char.ofNat 115, Char.ofNat 108, Char.ofNat 97, Char.ofNat 119, Char.ofNat 49, Char.ofNat 54, Char.ofNat 46, Char.ofNat 70, Char.ofNat 101, Char.ofNat 97, Char.ofNat 116, Char.ofNat 117, Char.ofNat 114, Char.ofNat 101, Char.ofNat 68, Char.ofNat 111, Char.ofNat 101, Char.ofNat 115, Char.ofNat 32, Char.ofNat 101, Char.ofNat 108, Char.ofNat 101, Char.ofNat 110, Char.ofNat 99, Char.ofNat 104, Char.ofNat 117, Char.ofNat 115, Char.ofNat 47, Char.ofNat 101, Char.ofNat 108, Char.ofNat 101, Char.ofNat 110, Char.ofNat 99, Char.ofNat 104, Char.ofNat 117, Char.ofNat 115, Char.ofNat 108, Char.ofNat 97, Char.ofNat 119, Char.ofNat 49, Char.ofNat 54, Char.ofNat 46, Char.ofNat 70, Char.ofNat 101, Char.ofNat 97, Char.ofNat 116, Char.ofNat 117, Char.ofNat 114, Char.ofNat 101, Char.ofNat 78, Char.ofNat 105, Char.ofNat 108, Char.ofNat 32, Char.ofNat 101, Char.ofNat 108, Char.ofNat 101, Char.ofNat 110, Char.ofNat 99, Char.ofNat 104, Char.ofNat 117, Char.ofNat 115, Char.ofNat 47, Char.ofNat 101, Char.ofNat 108, Char.ofNat 101, Char.ofNat 110, Char.ofNat 99, Char.ofNat 104, Char.ofNat 117, Char.ofNat 115, Char.ofNat 108, Char.ofNat 97, Char.ofNat 119, Char.ofNat 48, Char.ofNat 52, Char.ofNat 46, Char.ofNat 85, Char.ofNat 110, Char.ofNat 105, Char.ofNat 102, Char.ofNat 121, Char.ofNat 77, Char.ofNat 111, Char.ofNat 115, Char.ofNat 116, Char.ofNat 32, Char.ofNat 101, Char.ofNat 108, Char.ofNat 101, Char.ofNat 110, Char.ofNat 99, Char.ofNat 104, Char.ofNat 117, Char.ofNat 115, Char.ofNat 47, Char.ofNat 101, Char.ofNat 108, Char.ofNat 101, Char.ofNat 110, Char.ofNat 99, Char.ofNat 104, Char.ofNat 117, Char.ofNat 115, Char.ofNat 108, Char.ofNat 97, Char.ofNat 119, Char.ofNat 48, Char.ofNat 52, Char.ofNat 46, Char.ofNat 85, Char.ofNat 110, Char.ofNat 105, Char.ofNat 102, Char.ofNat 121, Char.ofNat 83, Char.ofNat 104, Char.ofNat 105, Char.ofNat 102, Char.ofNat 116, Char.ofNat 101, Char.ofNat 100, Char.ofNat 32, Char.ofNat 101, Char.ofNat 108, Char.ofNat 101, Char.ofNat 110, Char.ofNat 99, Char.ofNat 104, Char.ofNat 117, Char.ofNat 115, Char.ofNat 47, Char.ofNat 101, Char.ofNat 108, Char.ofNat 101, Char.ofNat 110, Char.ofNat 99, Char.ofNat 104, Char.ofNat 117, Char.ofNat 115, Char.ofNat 108, Char.ofNat 97, Char.ofNat 119, Char.ofNat 48, Char.ofNat 53, Char.ofNat 46, Char.ofNat 77, Char.ofNat 97, Char.ofNat 116, Char.ofNat 99, Char.ofNat 104, Char.ofNat 85, Char.ofNat 110, Char.ofNat 105, Char.ofNat 102, Char.ofNat 105, Char.ofNat 101, Char.ofNat 115, Char.ofNat 32, Char.ofNat 101, Char.ofNat 108, Char.ofNat 101, Char.ofNat 110, Char.ofNat 99, Char.ofNat 104, Char.ofNat 117, Char.ofNat 115, Char.ofNat 47, Char.ofNat 101, Char.ofNat 108, Char.ofNat 101, Char.ofNat 110, Char.ofNat 99, Char.ofNat 104, Char.ofNat 117, Char.ofNat 115, Char.ofNat 108, Char.ofNat 97, Char.ofNat 119, Char.ofNat 49, Char.ofNat 54, Char.ofNat 46, Char.ofNat 70, Char.ofNat 101, Char.ofNat 97, Char.ofNat 116, Char.ofNat 117, Char.ofNat 114, Char.ofNat 101, Char.ofNat 83, Char.ofNat 117, Char.ofNat 98, Char.ofNat 115, Char.ofNat 117, Char.ofNat 109, Char.ofNat 101, Char.ofNat 115, Char.ofNat 32, Char.ofNat 101, Char.ofNat 108, Char.ofNat 101, Char.ofNat 110, Char.ofNat 99, Char.ofNat 104, Char.ofNat 117, Char.ofNat 115, Char.ofNat 47, Char.ofNat 101, Char.ofNat 108, Char.ofNat 101, Char.ofNat 110, Char.ofNat 99, Char.ofNat 104, Char.ofNat 117, Char.ofNat 115, Char.ofNat 108, Char.ofNat 97, Char.ofNat 119, Char.ofNat 48, Char.ofNat 52, Char.ofNat 46, Char.ofNat 85, Char.ofNat 110, Char.ofNat 105, Char.ofNat 102, Char.ofNat 121, Char.ofNat 83, Char.ofNat 111, Char.ofNat 108, Char.ofNat 118, Char.ofNat 101, Char.ofNat 115]
theorem head_string : Try.checked.prog.initOrder = String.ofList headSigns := by kernel_rfl
theorem head_list : Try.checked.prog.initOrder.toList = headSigns := (congrArg String.toList head_string).trans String.toList_ofList
theorem make_of (P : Program) (h : P.initOrder.toList = headSigns) : P.make = some .cut := by
  unfold Program.make
  rw [h]
  kernel_rfl
theorem fact_make : Try.checked.prog.make = some .cut := make_of _ head_list
theorem liftsFinal_of (P : Program) (h : P.initOrder.toList = headSigns) : P.liftsFinal = false := by
  unfold Program.liftsFinal Program.headLifts
  rw [h]
  kernel_rfl
theorem fact_liftsFinal : Try.checked.prog.liftsFinal = false := liftsFinal_of _ head_list
theorem mayEnter_of (P : Program) (h : P.initOrder.toList = headSigns) (h2 : P.laysLater = false) (h3 : P.bearsReflect = false) (h4 : P.doorFits [] = true) : P.mayEnter = true := by
  unfold Program.mayEnter
  rw [h, h2, h3]
  exact Eq.trans (b := P.doorFits []) (by kernel_rfl) h4
theorem fact_mayEnter : Try.checked.prog.mayEnter = true := mayEnter_of _ head_list (by kernel_rfl) (by kernel_rfl) (by kernel_rfl)
end Go.Proofs.Ythplndalbfcbbaa
