/- What the proof of the law rests on: contracts of the functions, plain laws, and words. -/
import Derived.Deep.AppendLies
import Derived.Test.YthplndalbfcbbaaKFeatureSubsumesG0
import Derived.Test.YthplndalbfcbbaaKFeatureSubsumesG1
set_option linter.unusedSimpArgs false
set_option linter.unusedVariables false
namespace Go.Proofs.Ythplndalbfcbbaa
open Go.RowKit
theorem RepR.of {A : Nat → Prop} {w : World} {b k : Nat} : ∀ (css : List (List Value)) (ds : List D) (off : Nat), (∀ cs, cs ∈ css → cs.length = k) → (∀ j, j < css.flatten.length → w.cell? ⟨b, off + j, none⟩ = css.flatten[j]?) →
    All2 (fun cs d => RepD A w d cs) css ds → RepR A w b k off ds
  | _, _, off, _, _, .nil => by simp only [RepR]
  | cs :: css, d :: ds, off, hl, hc, .cons h hr => by
    have hk : cs.length = k := hl cs (by simp)
    simp only [RepR]
    refine ⟨⟨cs, hk, fun i hi => ?_, h⟩, RepR.of css ds (off + k) (fun c hc' => hl c (by simp [hc'])) (fun j hj => ?_) hr⟩
    · have := hc i (by simp; omega)
      rw [this]; simp [List.getElem?_append, hk, hi]
    · have := hc (k + j) (by rw [List.flatten_cons, List.length_append, hk]; omega)
      rw [show off + k + j = off + (k + j) by omega, this, List.flatten_cons, List.getElem?_append_right (by omega)]
      congr 1; omega
def OwnD (A : Nat → Prop) (w : World) (base e k : Nat) (v : Value) (ds : List D) : Prop :=
  ∃ css : List (List Value), w.ownsRow base e k v ds.length css.flatten ∧ (∀ cs, cs ∈ css → cs.length = k) ∧ All2 (fun cs d => RepD (fun b => A b ∨ v.ownBlock = some b) w d cs) css ds
theorem All2.imp {β γ : Type} {R R' : β → γ → Prop} (hr : ∀ x y, R x y → R' x y) {a : List β} {c : List γ} (h : All2 R a c) : All2 R' a c := by
  induction h with
  | nil => exact .nil
  | cons h _ ih => exact .cons (hr _ _ h) ih
theorem OwnD.shape {A : Nat → Prop} {w : World} {base e k : Nat} {v : Value} {ds : List D} (h : OwnD A w base e k v ds) : ∃ ad c, v = .slice ad ds.length c := by
  obtain ⟨css, h1, _⟩ := h
  rcases h1.2 with ⟨h, h'⟩ | ⟨g, cap, cur, h, _⟩
  · exact ⟨none, 0, by rw [h, h']⟩
  · exact ⟨_, _, h⟩
theorem OwnD.lt {A : Nat → Prop} {w : World} {base e k : Nat} {v : Value} {ds : List D} (h : OwnD A w base e k v ds) : ∀ b, v.ownBlock = some b → base ≤ b ∧ b < w.heap.size := by
  obtain ⟨css, h1, _⟩ := h
  exact h1.lt
theorem OwnD.keep {A S : Nat → Prop} {w w' : World} {base e k : Nat} {v : Value} {ds : List D} (h : OwnD A w base e k v ds) (hk : Keep S w w') (hS : ∀ b, b < w.heap.size → ¬ A b → S b) (hv : ∀ b, v.ownBlock = some b → S b) : OwnD A w' base e k v ds := by
  obtain ⟨css, h1, h2, h3⟩ := h
  exact ⟨css, ownsRow_keep h1 hk hv, h2, h3.imp fun cs d hd => hd.frame (fun b hb hlt => hk.block b hlt (hS b hlt (fun h => hb (.inl h)))) (fun _ _ h => h)⟩
theorem OwnD.below {A : Nat → Prop} {w w' : World} {base e k : Nat} {v : Value} {ds : List D} (h : OwnD A w base e k v ds) (hb : Below w.heap.size w w') : OwnD A w' base e k v ds :=
  h.keep (S := fun _ => True) (.of_below hb) (fun _ _ _ => trivial) (fun _ _ => trivial)
theorem OwnD.rep {A : Nat → Prop} {w : World} {base e k : Nat} {v : Value} {ds : List D} (h : OwnD A w base e k v ds) (hA : ∀ b, A b → b < base) : RepD A w (.row k ds) [v] := by
  obtain ⟨css, h1, h2, h3⟩ := h
  simp only [RepD]
  rcases h1.2 with ⟨h, h'⟩ | ⟨g, cap, cur, h, hg, hh, hn, hm, hs, ht⟩
  · exact ⟨none, 0, 0, by rw [h], h'.symm, by omega, by omega, by omega⟩
  · refine ⟨_, _, _, by rw [h], rfl, hn, Nat.le_trans hn (by simpa [maxLen] using hm), fun h0 => ⟨g, 0, rfl, (Array.getElem?_eq_some_iff.1 hh).1, fun ha => by have := hA g ha; omega, ?_⟩⟩
    refine RepR.of css ds 0 h2 (fun j hj => ?_) (h3.imp fun cs d hd => hd.bar fun b _ h => .inl h)
    have := h1.cells (g := g) (by rw [h]; rfl) j (css.flatten[j]) (by simp)
    rw [add_plain] at this
    rw [Nat.zero_add, this]; simp
end Go.Proofs.Ythplndalbfcbbaa
set_option linter.unusedSimpArgs false
set_option linter.unusedVariables false
namespace Go.Proofs.Ythplndalbfcbbaa
open Go.RowKit
mutual
def cmpT : Tm → Tm → Int
  | .node h l, u => if (Tm.node h l).size ≠ u.size then ordI (Tm.node h l).size u.size else if h ≠ u.h then ordI h u.h else if l.length ≠ u.args.length then ordI l.length u.args.length else cmpL l u.args
def cmpL : List Tm → List Tm → Int
  | [], _ => 0
  | _ :: _, [] => 0
  | t :: ts, us => match us with | [] => 0 | u :: us => if cmpT t u ≠ 0 then cmpT t u else cmpL ts us
end
theorem ordI_zero {a b : Int} (h : ordI a b = 0) : a = b := by
  unfold ordI at h
  by_cases h1 : a < b
  · rw [if_pos h1] at h; omega
  · by_cases h2 : b < a
    · rw [if_neg h1, if_pos h2] at h; omega
    · omega
mutual
theorem cmpT_zero : ∀ (t u : Tm), cmpT t u = 0 ↔ t = u
  | .node h l, .node h' l' => by
    have hl := cmpL_zero l l'
    have e0 : cmpT (.node h l) (.node h' l') = if (Tm.node h l).size ≠ (Tm.node h' l').size then ordI (Tm.node h l).size (Tm.node h' l').size else if h ≠ h' then ordI h h' else if l.length ≠ l'.length then ordI l.length l'.length else cmpL l l' := by
      simp only [cmpT]; rfl
    rw [e0]
    by_cases h1 : (Tm.node h l).size ≠ (Tm.node h' l').size
    · rw [if_pos h1]
      constructor
      · intro e; have := ordI_zero e; omega
      · intro e; rw [e] at h1; exact absurd rfl h1
    · rw [if_neg h1]
      by_cases h2 : h ≠ h'
      · rw [if_pos h2]
        constructor
        · intro e; exact absurd (ordI_zero e) h2
        · intro e; cases e; exact absurd rfl h2
      · rw [if_neg h2]
        by_cases h3 : l.length ≠ l'.length
        · rw [if_pos h3]
          constructor
          · intro e; have := ordI_zero e; omega
          · intro e; cases e; exact absurd rfl h3
        · rw [if_neg h3]
          simp only [ne_eq, Decidable.not_not] at h2 h3
          rw [hl h3, h2]; simp
theorem cmpL_zero : ∀ (l m : List Tm), l.length = m.length → (cmpL l m = 0 ↔ l = m)
  | [], [], _ => by simp [cmpL]
  | [], _ :: _, h => by simp at h
  | _ :: _, [], h => by simp at h
  | t :: ts, u :: us, h => by
    have h1 := cmpT_zero t u
    have h2 := cmpL_zero ts us (by simpa using h)
    simp only [cmpL]
    split
    · rename_i hne
      constructor
      · intro e; exact absurd e hne
      · rintro ⟨⟩; exact h1.2 rfl
    · rename_i hne
      simp only [ne_eq, Decidable.not_not] at hne
      rw [h2, h1.1 hne]; simp
end
def sameB (t u : Tm) : Bool := cmpT t u == 0
theorem sameB_iff {t u : Tm} : sameB t u = true ↔ t = u := by simp [sameB, cmpT_zero]
theorem sameB_self (t : Tm) : sameB t t = true := sameB_iff.2 rfl
end Go.Proofs.Ythplndalbfcbbaa
set_option linter.unusedSimpArgs false
set_option linter.unusedVariables false
namespace Go.Proofs.Ythplndalbfcbbaa
open Go.RowKit
theorem box2 {w : World} {b : Nat} {x y : Value} {t : TypeId} (h : w.heap[b]? = some (.cells #[x, y] t (0, 0))) :
    b < w.heap.size ∧ w.cell? ⟨b, 0, none⟩ = some x ∧ w.cell? ⟨b, 1, none⟩ = some y ∧ w.frozen? ⟨b, 0, none⟩ = false ∧ w.frozen? ⟨b, 1, none⟩ = false :=
  ⟨(Array.getElem?_eq_some_iff.1 h).1, by simp [World.cell?, h], by simp [World.cell?, h], by simp [World.frozen?, h], by simp [World.frozen?, h]⟩
theorem box2_set {w : World} {b : Nat} {x y : Value} {t : TypeId} (h : w.heap[b]? = some (.cells #[x, y] t (0, 0))) (u v : Value) : ((w.setCell ⟨b, 0, none⟩ u).setCell ⟨b, 1, none⟩ v).heap[b]? = some (.cells #[u, v] t (0, 0)) := by
  simp [World.setCell, Array.getElem?_modify, h]
theorem set2_below {n : Nat} {a w : World} {b : Nat} (h : Below n a w) (hb : n ≤ b) (u v : Value) : Below n a ((w.setCell ⟨b, 0, none⟩ u).setCell ⟨b, 1, none⟩ v) :=
  (h.setCell (p := ⟨b, 0, none⟩) hb u).setCell (p := ⟨b, 1, none⟩) hb v
theorem Terms.nil (A : Nat → Prop) (w : World) : Terms A w (.slice none 0 0) [] := by
  simp only [Terms, RepD, Tm.ds]
  exact ⟨none, 0, 0, rfl, rfl, by omega, by omega, by omega⟩
end Go.Proofs.Ythplndalbfcbbaa
set_option linter.unusedSimpArgs false
set_option linter.unusedVariables false
namespace Go.Proofs.Ythplndalbfcbbaa
open Go.RowKit
theorem Terms.bar {A B : Nat → Prop} {w : World} {s : Value} {ts : List Tm} (h : Terms A w s ts) (hB : ∀ b, b < w.heap.size → B b → A b) : Terms B w s ts := RepD.bar h hB
section
variable {P : Program} {W : World} {o : Oper} {a : Act} {K : Act → World → Prop} {Q : Exit → Act → World → Prop} {A : Nat → Prop}
end
section
variable {A : Nat → Prop} {w W W' : World} {bo base e : Nat} {bt : TypeId} {h : Int} {v : Value} {ds : List D}
end
end Go.Proofs.Ythplndalbfcbbaa
