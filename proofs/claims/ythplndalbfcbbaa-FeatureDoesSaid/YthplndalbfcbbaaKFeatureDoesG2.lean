/- What the proof of the law rests on: contracts of the functions, plain laws, and words. -/
import Derived.Deep.AppendLies
import Derived.Test.YthplndalbfcbbaaKFeatureDoesG0
import Derived.Test.YthplndalbfcbbaaKFeatureDoesG1
set_option linter.unusedSimpArgs false
set_option linter.unusedVariables false
namespace Go.Proofs.Ythplndalbfcbbaa
open Go.RowKit
theorem RepR.of {A : Nat → Prop} {w : World} {b k : Nat} : ∀ (css : List (List Value)) (ds : List D) (off : Nat), (∀ cs, cs ∈ css → cs.length = k) → (∀ j, j < css.flatten.length → w.cell? ⟨b, off + j, none⟩ = css.flatten[j]?) →
    All2 (fun cs d => RepD A w d cs) css ds → RepR A w b k off ds
  | _, _, off, _, _, .nil => by simp only [RepR]
  | cs :: css, d :: ds, off, hl, hc, .cons h hr => by
    have hk : cs.length = k := hl cs (by simp)
    simp only [RepR]
    refine ⟨⟨cs, hk, fun i hi => ?_, h⟩, RepR.of css ds (off + k) (fun c hc' => hl c (by simp [hc'])) (fun j hj => ?_) hr⟩
    · have := hc i (by simp; omega)
      rw [this]; simp [List.getElem?_append, hk, hi]
    · have := hc (k + j) (by rw [List.flatten_cons, List.length_append, hk]; omega)
      rw [show off + k + j = off + (k + j) by omega, this, List.flatten_cons, List.getElem?_append_right (by omega)]
      congr 1; omega
def OwnD (A : Nat → Prop) (w : World) (base e k : Nat) (v : Value) (ds : List D) : Prop :=
  ∃ css : List (List Value), w.ownsRow base e k v ds.length css.flatten ∧ (∀ cs, cs ∈ css → cs.length = k) ∧ All2 (fun cs d => RepD (fun b => A b ∨ v.ownBlock = some b) w d cs) css ds
theorem All2.imp {β γ : Type} {R R' : β → γ → Prop} (hr : ∀ x y, R x y → R' x y) {a : List β} {c : List γ} (h : All2 R a c) : All2 R' a c := by
  induction h with
  | nil => exact .nil
  | cons h _ ih => exact .cons (hr _ _ h) ih
theorem OwnD.nil (A : Nat → Prop) (w : World) (base e k : Nat) : OwnD A w base e k (.slice none 0 0) [] := ⟨[], World.ownsRow_nil _ _ _ _, by simp, .nil⟩
theorem OwnD.shape {A : Nat → Prop} {w : World} {base e k : Nat} {v : Value} {ds : List D} (h : OwnD A w base e k v ds) : ∃ ad c, v = .slice ad ds.length c := by
  obtain ⟨css, h1, _⟩ := h
  rcases h1.2 with ⟨h, h'⟩ | ⟨g, cap, cur, h, _⟩
  · exact ⟨none, 0, by rw [h, h']⟩
  · exact ⟨_, _, h⟩
theorem OwnD.lt {A : Nat → Prop} {w : World} {base e k : Nat} {v : Value} {ds : List D} (h : OwnD A w base e k v ds) : ∀ b, v.ownBlock = some b → base ≤ b ∧ b < w.heap.size := by
  obtain ⟨css, h1, _⟩ := h
  exact h1.lt
theorem OwnD.keep {A S : Nat → Prop} {w w' : World} {base e k : Nat} {v : Value} {ds : List D} (h : OwnD A w base e k v ds) (hk : Keep S w w') (hS : ∀ b, b < w.heap.size → ¬ A b → S b) (hv : ∀ b, v.ownBlock = some b → S b) : OwnD A w' base e k v ds := by
  obtain ⟨css, h1, h2, h3⟩ := h
  exact ⟨css, ownsRow_keep h1 hk hv, h2, h3.imp fun cs d hd => hd.frame (fun b hb hlt => hk.block b hlt (hS b hlt (fun h => hb (.inl h)))) (fun _ _ h => h)⟩
theorem OwnD.rep {A : Nat → Prop} {w : World} {base e k : Nat} {v : Value} {ds : List D} (h : OwnD A w base e k v ds) (hA : ∀ b, A b → b < base) : RepD A w (.row k ds) [v] := by
  obtain ⟨css, h1, h2, h3⟩ := h
  simp only [RepD]
  rcases h1.2 with ⟨h, h'⟩ | ⟨g, cap, cur, h, hg, hh, hn, hm, hs, ht⟩
  · exact ⟨none, 0, 0, by rw [h], h'.symm, by omega, by omega, by omega⟩
  · refine ⟨_, _, _, by rw [h], rfl, hn, Nat.le_trans hn (by simpa [maxLen] using hm), fun h0 => ⟨g, 0, rfl, (Array.getElem?_eq_some_iff.1 hh).1, fun ha => by have := hA g ha; omega, ?_⟩⟩
    refine RepR.of css ds 0 h2 (fun j hj => ?_) (h3.imp fun cs d hd => hd.bar fun b _ h => .inl h)
    have := h1.cells (g := g) (by rw [h]; rfl) j (css.flatten[j]) (by simp)
    rw [add_plain] at this
    rw [Nat.zero_add, this]; simp
end Go.Proofs.Ythplndalbfcbbaa
set_option linter.unusedSimpArgs false
set_option linter.unusedVariables false
namespace Go.Proofs.Ythplndalbfcbbaa
open Go.RowKit
theorem box2 {w : World} {b : Nat} {x y : Value} {t : TypeId} (h : w.heap[b]? = some (.cells #[x, y] t (0, 0))) :
    b < w.heap.size ∧ w.cell? ⟨b, 0, none⟩ = some x ∧ w.cell? ⟨b, 1, none⟩ = some y ∧ w.frozen? ⟨b, 0, none⟩ = false ∧ w.frozen? ⟨b, 1, none⟩ = false :=
  ⟨(Array.getElem?_eq_some_iff.1 h).1, by simp [World.cell?, h], by simp [World.cell?, h], by simp [World.frozen?, h], by simp [World.frozen?, h]⟩
theorem Terms.nil (A : Nat → Prop) (w : World) : Terms A w (.slice none 0 0) [] := by
  simp only [Terms, RepD, Tm.ds]
  exact ⟨none, 0, 0, rfl, rfl, by omega, by omega, by omega⟩
end Go.Proofs.Ythplndalbfcbbaa
set_option linter.unusedSimpArgs false
set_option linter.unusedVariables false
namespace Go.Proofs.Ythplndalbfcbbaa
open Go.RowKit
theorem good_args {t : Tm} (h : t.good = true) : -256 ≤ t.h ∧ t.args.length ≤ 8 ∧ (∀ k (hk : k < t.args.length), t.args[k].good = true) := by
  rw [Tm.good_eq, Bool.and_eq_true] at h
  have h1 : ¬ okP t = false := by simp [h.1]
  rw [okP_iff] at h1
  refine ⟨by omega, by omega, ?_⟩
  have : ∀ l : List Tm, Tm.goods l = true → ∀ k (hk : k < l.length), l[k].good = true := by
    intro l
    induction l with
    | nil => simp
    | cons t ts ih =>
      intro hl k hk
      simp only [Tm.goods, Bool.and_eq_true] at hl
      cases k with
      | zero => exact hl.1
      | succ k => exact ih hl.2 k (by simpa using hk)
  exact this _ h.2
end Go.Proofs.Ythplndalbfcbbaa
