/- A region that draws its order, two operations of which may come up in either order. Nothing of the program. -/
import Derived.Test.YtneecjikdghchaaDoorDraw
set_option linter.unusedSimpArgs false
set_option linter.unusedVariables false
namespace Go.Proofs.YtneecjikdghchaaDoor
open Go.RowKit

inductive Stp where
  | take (i : Nat)
  | one (i : Nat)
  | two (i j : Nat)
def lenP : List Stp → Nat
  | [] => 0
  | .take _ :: is => lenP is + 1
  | .one _ :: is => lenP is + 1
  | .two _ _ :: is => lenP is + 2
section
variable {P : Program} {ops : Array Oper} {Q : Exit → Act → World → Prop} {S : World → Prop}
def SeqP (P : Program) (ops : Array Oper) (Q : Exit → Act → World → Prop) (S : World → Prop) : List Stp → Act → World → Prop
  | [], a, w => Q .normal a w
  | .take i :: is, a, w => ∃ o v, ops[i]? = some o ∧ YieldsIf P ops S o v a ∧ SeqP P ops Q S is (a.put o.dst v) w
  | .one i :: is, a, w => wpOp P ops Q i (fun a' w' => S w' ∧ SeqP P ops Q S is a' w') a w
  | .two i j :: is, a, w => wpOp P ops Q i (fun a' w' => S w' ∧ wpOp P ops Q j (fun a' w' => S w' ∧ SeqP P ops Q S is a' w') a' w') a w ∧ wpOp P ops Q j (fun a' w' => S w' ∧ wpOp P ops Q i (fun a' w' => S w' ∧ SeqP P ops Q S is a' w') a' w') a w
def okTwo (md : Region.Mode) (ops : Array Oper) : List Stp → Array Bool → Bool
  | [], l => (Region.ready md ops l).isEmpty
  | .take i :: is, l => ((Region.ready md ops l).contains i && Region.free md ops l i) && okTwo md ops is (l.setIfInBounds i true)
  | .one i :: is, l => (Region.ready md ops l == [i]) && okTwo md ops is (l.setIfInBounds i true)
  | .two i j :: is, l => (Region.ready md ops l == [i, j]) && (Region.ready md ops (l.setIfInBounds i true) == [j]) && (Region.ready md ops (l.setIfInBounds j true) == [i]) &&
      ((l.setIfInBounds j true).setIfInBounds i true == (l.setIfInBounds i true).setIfInBounds j true) && okTwo md ops is ((l.setIfInBounds i true).setIfInBounds j true)
theorem anyH_of_seqP {md : Region.Mode} (hsel : Region.noSelect ops = true) (hQ : ∀ c t v a w, Q (.panic c) (a.put (some t) v) w → Q (.panic c) a w) :
    ∀ (order : List Stp) (l : Array Bool) (a : Act) (w : World), okTwo md ops order l = true → S w → SeqP P ops Q S order a w → wpAnyH P md ops Q S (lenP order) l a w
  | [], l, a, w, h, _, hs => by
    have h' : Region.ready md ops l = [] := by simpa [okTwo] using h
    exact wpAnyH_done h' hs 0
  | .one i :: is, l, a, w, h, hS, hs => by
    simp only [okTwo, Bool.and_eq_true, beq_iff_eq] at h
    refine wpAnyH_all h.1 (by simp) fun j hj => ?_
    simp only [List.mem_singleton] at hj
    subst hj
    exact wpOp_mono (fun a' w' h' => ⟨h'.1, anyH_of_seqP hsel hQ is _ a' w' h.2 h'.1 h'.2⟩) hs
  | .two i j :: is, l, a, w, h, hS, hs => by
    simp only [okTwo, Bool.and_eq_true, beq_iff_eq] at h
    obtain ⟨⟨⟨⟨h1, h2⟩, h3⟩, h4⟩, h5⟩ := h
    refine wpAnyH_all h1 (by simp) fun k hk => ?_
    simp only [List.mem_cons, List.not_mem_nil, or_false] at hk
    rcases hk with rfl | rfl
    · refine wpOp_mono (fun a' w' h' => ⟨h'.1, ?_⟩) hs.1
      refine wpAnyH_all h2 (by simp) fun m hm => ?_
      simp only [List.mem_singleton] at hm
      subst hm
      exact wpOp_mono (fun a' w' h' => ⟨h'.1, anyH_of_seqP hsel hQ is _ a' w' h5 h'.1 h'.2⟩) h'.2
    · refine wpOp_mono (fun a' w' h' => ⟨h'.1, ?_⟩) hs.2
      refine wpAnyH_all h3 (by simp) fun m hm => ?_
      simp only [List.mem_singleton] at hm
      subst hm
      exact wpOp_mono (fun a' w' h' => ⟨h'.1, by rw [h4]; exact anyH_of_seqP hsel hQ is _ a' w' h5 h'.1 h'.2⟩) h'.2
  | .take i :: is, l, a, w, h, hS, ⟨o, v, ho, hy, hs⟩ => by
    simp only [okTwo, Bool.and_eq_true] at h
    exact wpAnyH_take ho hsel h.1.2 h.1.1 (fun c a w h9 => by
      cases hd : o.dst with
      | none => rw [hd] at h9; exact h9
      | some t => rw [hd] at h9; exact hQ c t v a w h9) hy hS (anyH_of_seqP hsel hQ is _ _ w h.2 hS hs)

theorem drawn_two {id : Nat} {a : Act} {w : World} (S : World → Prop) (order : List Stp) (hm : P.follows .mixedOrders = true) (hn : (lenP order == ops.size) = true) (hsel : Region.noSelect ops = true)
    (hok : okTwo .any ops order (Array.replicate ops.size false) = true) (hQ : ∀ c t v a w, Q (.panic c) (a.put (some t) v) w → Q (.panic c) a w) (hS : S w.drew) (h : SeqP P ops Q S order a w.drew) : (Code.region id ops true).wp P Q a w := by
  refine wp_region_held (S := S) hm ?_
  have := anyH_of_seqP hsel hQ order _ a w.drew hok hS h
  rw [beq_iff_eq.1 hn] at this
  exact this

variable {os : List Oper} {i j : Nat} {is : List Stp} {o o2 : Oper} {v : Value} {a : Act} {w : World}
theorem p_take (ho : os[i]? = some o) (hw : Region.wanted o (yielded os.toArray a.tmps) = true) (hv : ∀ w, S w → (execOp a.eval o).run P w = .ok (.value v) w) (h : SeqP P os.toArray Q S is (a.put o.dst v) w) : SeqP P os.toArray Q S (.take i :: is) a w :=
  ⟨o, v, by simpa using ho, .inl ⟨hw, hv⟩, h⟩
theorem p_skip (ho : os[i]? = some o) (hw : Region.wanted o (yielded os.toArray a.tmps) = false) (h : SeqP P os.toArray Q S is (a.put o.dst undef) w) : SeqP P os.toArray Q S (.take i :: is) a w :=
  ⟨o, undef, by simpa using ho, .inr ⟨hw, rfl⟩, h⟩
theorem p_one (ho : os[i]? = some o) (hw : Region.wanted o (yielded os.toArray a.tmps) = true)
    (h : ∀ K' : Act → World → Prop, Hid (∀ a w, S w → SeqP P os.toArray Q S is a w → K' a w) → Oper.wp P o a w K' Q) : SeqP P os.toArray Q S (.one i :: is) a w :=
  wpOp_step (ops := os.toArray) (o := o) (by simpa using ho) fun K' hK => by rw [if_pos hw]; exact h K' (hide fun a w h1 h2 => hK a w ⟨h1, h2⟩)
/-- One of the two, the other still to come. -/
def Then1 (P : Program) (ops : Array Oper) (Q : Exit → Act → World → Prop) (S : World → Prop) (j : Nat) (is : List Stp) (a : Act) (w : World) : Prop := wpOp P ops Q j (fun a' w' => S w' ∧ SeqP P ops Q S is a' w') a w
theorem p_two (ho : os[i]? = some o) (ho2 : os[j]? = some o2) (hw : Region.wanted o (yielded os.toArray a.tmps) = true) (hw2 : Region.wanted o2 (yielded os.toArray a.tmps) = true)
    (h : ∀ K' : Act → World → Prop, Hid (∀ a w, S w → Then1 P os.toArray Q S j is a w → K' a w) → Oper.wp P o a w K' Q) (h2 : ∀ K' : Act → World → Prop, Hid (∀ a w, S w → Then1 P os.toArray Q S i is a w → K' a w) → Oper.wp P o2 a w K' Q) : SeqP P os.toArray Q S (.two i j :: is) a w :=
  ⟨wpOp_step (ops := os.toArray) (o := o) (by simpa using ho) fun K' hK => by rw [if_pos hw]; exact h K' (hide fun a w h1 h2 => hK a w ⟨h1, h2⟩), wpOp_step (ops := os.toArray) (o := o2) (by simpa using ho2) fun K' hK => by rw [if_pos hw2]; exact h2 K' (hide fun a w h1 h2 => hK a w ⟨h1, h2⟩)⟩
theorem p_then (ho : os[j]? = some o) (hw : Region.wanted o (yielded os.toArray a.tmps) = true)
    (h : ∀ K' : Act → World → Prop, Hid (∀ a w, S w → SeqP P os.toArray Q S is a w → K' a w) → Oper.wp P o a w K' Q) : Then1 P os.toArray Q S j is a w :=
  wpOp_step (ops := os.toArray) (o := o) (by simpa using ho) fun K' hK => by rw [if_pos hw]; exact h K' (hide fun a w h1 h2 => hK a w ⟨h1, h2⟩)
theorem p_pass (ho : os[i]? = some o) (hw : Region.wanted o (yielded os.toArray a.tmps) = false) (hS : S w) (h : SeqP P os.toArray Q S is (a.put o.dst undef) w) : SeqP P os.toArray Q S (.one i :: is) a w :=
  wpOp_step (ops := os.toArray) (o := o) (by simpa using ho) fun K' hK => by rw [if_neg (by rw [hw]; exact Bool.false_ne_true)]; exact hK _ _ ⟨hS, h⟩
/-- A region by what it puts. -/
theorem cut_cap {P : Program} {c : Code} {K : Act → World → Prop} {Q : Exit → Act → World → Prop} {a : Act} {w : World} (R : Act → Act → World → Prop)
    (h : c.wp P (Exit.then (R a) (fun _ _ _ => False)) a w) (k : ∀ a' w', R a a' w' → K a' w') : c.wp P (Exit.then K Q) a w := by
  refine wp_mono h ?_
  intro e a' w' hq
  cases e <;> first | exact k _ _ hq | exact hq.elim
theorem p_done (h : Q .normal a w) : SeqP P os.toArray Q S [] a w := h
end
end Go.Proofs.YtneecjikdghchaaDoor
