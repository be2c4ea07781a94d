/- A region that draws its order, walked by a tree of orders. Nothing of the program. -/
import Derived.Test.YtneecjikdghchaaDoorDraw4
set_option linter.unusedSimpArgs false
set_option linter.unusedVariables false
namespace Go.Proofs.YtneecjikdghchaaDoor
open Go.RowKit

inductive Tr where
  | done
  | take (i : Nat) (t : Tr)
  | one (i : Nat) (t : Tr)
  | two (i : Nat) (t : Tr) (j : Nat) (u : Tr)
def lenT : Tr → Nat
  | .done => 0
  | .take _ t => lenT t + 1
  | .one _ t => lenT t + 1
  | .two _ t _ _ => lenT t + 1
section
variable {P : Program} {ops : Array Oper} {Q : Exit → Act → World → Prop} {S : World → Prop}
def okT (md : Region.Mode) (ops : Array Oper) : Tr → Array Bool → Bool
  | .done, l => (Region.ready md ops l).isEmpty
  | .take i t, l => ((Region.ready md ops l).contains i && Region.free md ops l i) && okT md ops t (l.setIfInBounds i true)
  | .one i t, l => (Region.ready md ops l == [i]) && okT md ops t (l.setIfInBounds i true)
  | .two i t j u, l => (Region.ready md ops l == [i, j] || Region.ready md ops l == [j, i]) && (lenT t == lenT u) && okT md ops t (l.setIfInBounds i true) && okT md ops u (l.setIfInBounds j true)
def SeqT (P : Program) (ops : Array Oper) (Q : Exit → Act → World → Prop) (S : World → Prop) : Tr → Act → World → Prop
  | .done, a, w => Q .normal a w
  | .take i t, a, w => ∃ o v, ops[i]? = some o ∧ YieldsIf P ops S o v a ∧ SeqT P ops Q S t (a.put o.dst v) w
  | .one i t, a, w => wpOp P ops Q i (fun a' w' => S w' ∧ SeqT P ops Q S t a' w') a w
  | .two i t j u, a, w => wpOp P ops Q i (fun a' w' => S w' ∧ SeqT P ops Q S t a' w') a w ∧ wpOp P ops Q j (fun a' w' => S w' ∧ SeqT P ops Q S u a' w') a w
theorem anyH_of_seqT {md : Region.Mode} (hsel : Region.noSelect ops = true) (hQ : ∀ c t v a w, Q (.panic c) (a.put (some t) v) w → Q (.panic c) a w) :
    ∀ (t : Tr) (l : Array Bool) (a : Act) (w : World), okT md ops t l = true → S w → SeqT P ops Q S t a w → wpAnyH P md ops Q S (lenT t) l a w
  | .done, l, a, w, h, _, hs => by
    have h' : Region.ready md ops l = [] := by simpa [okT] using h
    exact wpAnyH_done h' hs 0
  | .take i t, l, a, w, h, hS, ⟨o, v, ho, hy, hs⟩ => by
    simp only [okT, Bool.and_eq_true] at h
    exact wpAnyH_take ho hsel h.1.2 h.1.1 (fun c a w h9 => by
      cases hd : o.dst with
      | none => rw [hd] at h9; exact h9
      | some t => rw [hd] at h9; exact hQ c t v a w h9) hy hS (anyH_of_seqT hsel hQ t _ _ w h.2 hS hs)
  | .one i t, l, a, w, h, hS, hs => by
    simp only [okT, Bool.and_eq_true, beq_iff_eq] at h
    simp only [SeqT] at hs
    refine wpAnyH_all h.1 (by simp) fun k hk => ?_
    simp only [List.mem_singleton] at hk
    subst hk
    exact wpOp_mono (fun a' w' h' => ⟨h'.1, anyH_of_seqT hsel hQ t _ a' w' h.2 h'.1 h'.2⟩) hs
  | .two i t j u, l, a, w, h, hS, hs => by
    simp only [okT, Bool.and_eq_true, Bool.or_eq_true, beq_iff_eq] at h
    simp only [SeqT] at hs
    have goL := wpOp_mono (P := P) (ops := ops) (Q := Q) (fun a' w' h' => (⟨h'.1, anyH_of_seqT hsel hQ t (l.setIfInBounds i true) a' w' h.1.2 h'.1 h'.2⟩ : S w' ∧ _)) hs.1
    have goR : wpOp P ops Q j (fun a' w' => S w' ∧ wpAnyH P md ops Q S (lenT t) (l.setIfInBounds j true) a' w') a w := wpOp_mono (fun a' w' h' => ⟨h'.1, by
      have := anyH_of_seqT hsel hQ u (l.setIfInBounds j true) a' w' h.2 h'.1 h'.2
      rwa [← h.1.1.2] at this⟩) hs.2
    rcases h.1.1.1 with h1 | h1
    · refine wpAnyH_all h1 (by simp) fun k hk => ?_
      simp only [List.mem_cons, List.not_mem_nil, or_false] at hk
      rcases hk with rfl | rfl
      · exact goL
      · exact goR
    · refine wpAnyH_all h1 (by simp) fun k hk => ?_
      simp only [List.mem_cons, List.not_mem_nil, or_false] at hk
      rcases hk with rfl | rfl
      · exact goR
      · exact goL
theorem drawn_tree {id : Nat} {a : Act} {w : World} (S : World → Prop) (t : Tr) (hm : P.follows .mixedOrders = true) (hn : (lenT t == ops.size) = true) (hsel : Region.noSelect ops = true)
    (hok : okT .any ops t (Array.replicate ops.size false) = true) (hQ : ∀ c t v a w, Q (.panic c) (a.put (some t) v) w → Q (.panic c) a w) (hS : S w.drew) (h : SeqT P ops Q S t a w.drew) : (Code.region id ops true).wp P Q a w := by
  refine wp_region_held (S := S) hm ?_
  have := anyH_of_seqT hsel hQ t _ a w.drew hok hS h
  rw [beq_iff_eq.1 hn] at this
  exact this
variable {os : List Oper} {i j n : Nat} {t u : Tr} {o o2 : Oper} {v : Value} {a : Act} {w : World}
theorem t_take (ho : os[i]? = some o) (hw : Region.wanted o (yielded os.toArray a.tmps) = true) (hv : ∀ w, S w → (execOp a.eval o).run P w = .ok (.value v) w) (h : SeqT P os.toArray Q S t (a.put o.dst v) w) : SeqT P os.toArray Q S (.take i t) a w :=
  ⟨o, v, by simpa using ho, .inl ⟨hw, hv⟩, h⟩
theorem t_skip (ho : os[i]? = some o) (hw : Region.wanted o (yielded os.toArray a.tmps) = false) (h : SeqT P os.toArray Q S t (a.put o.dst undef) w) : SeqT P os.toArray Q S (.take i t) a w :=
  ⟨o, undef, by simpa using ho, .inr ⟨hw, rfl⟩, h⟩
theorem t_done (h : Q .normal a w) : SeqT P os.toArray Q S .done a w := h
theorem t_one (ho : os[i]? = some o) (hw : Region.wanted o (yielded os.toArray a.tmps) = true)
    (h : ∀ K' : Act → World → Prop, Hid (∀ a w, S w → SeqT P os.toArray Q S t a w → K' a w) → Oper.wp P o a w K' Q) : SeqT P os.toArray Q S (.one i t) a w := by
  simp only [SeqT]
  exact wpOp_step (ops := os.toArray) (o := o) (by simpa using ho) fun K' hK => by rw [if_pos hw]; exact h K' (hide fun a w h1 h2 => hK a w ⟨h1, h2⟩)
theorem t_two (ho : os[i]? = some o) (ho2 : os[j]? = some o2) (hw : Region.wanted o (yielded os.toArray a.tmps) = true) (hw2 : Region.wanted o2 (yielded os.toArray a.tmps) = true)
    (h : ∀ K' : Act → World → Prop, Hid (∀ a w, S w → SeqT P os.toArray Q S t a w → K' a w) → Oper.wp P o a w K' Q)
    (h2 : ∀ K' : Act → World → Prop, Hid (∀ a w, S w → SeqT P os.toArray Q S u a w → K' a w) → Oper.wp P o2 a w K' Q) : SeqT P os.toArray Q S (.two i t j u) a w := by
  simp only [SeqT]
  exact ⟨wpOp_step (ops := os.toArray) (o := o) (by simpa using ho) fun K' hK => by rw [if_pos hw]; exact h K' (hide fun a w h1 h2 => hK a w ⟨h1, h2⟩),
    wpOp_step (ops := os.toArray) (o := o2) (by simpa using ho2) fun K' hK => by rw [if_pos hw2]; exact h2 K' (hide fun a w h1 h2 => hK a w ⟨h1, h2⟩)⟩
end
end Go.Proofs.YtneecjikdghchaaDoor
