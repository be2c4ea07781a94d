/- A region that draws its order, of which two chains of operations may come up in any way one between the other. Nothing of the program. -/
import Derived.Test.YtneecjikdghchaaDoorDraw3
set_option linter.unusedSimpArgs false
set_option linter.unusedVariables false
namespace Go.Proofs.YtneecjikdghchaaDoor
open Go.RowKit

inductive Stm where
  | take (i : Nat)
  | mix (l m : List Nat)
def lenM : List Stm → Nat
  | [] => 0
  | .take _ :: is => lenM is + 1
  | .mix l m :: is => l.length + m.length + lenM is
section
variable {P : Program} {ops : Array Oper} {Q : Exit → Act → World → Prop} {S : World → Prop}
def okI (md : Region.Mode) (ops : Array Oper) (lf : Array Bool) : Nat → List Nat → List Nat → Array Bool → Bool
  | _, [], [], l => l == lf
  | n + 1, i :: is, [], l => (Region.ready md ops l == [i]) && okI md ops lf n is [] (l.setIfInBounds i true)
  | n + 1, [], j :: js, l => (Region.ready md ops l == [j]) && okI md ops lf n [] js (l.setIfInBounds j true)
  | n + 1, i :: is, j :: js, l => (Region.ready md ops l == [i, j] || Region.ready md ops l == [j, i]) && okI md ops lf n is (j :: js) (l.setIfInBounds i true) && okI md ops lf n (i :: is) js (l.setIfInBounds j true)
  | 0, _, _, _ => false
/-- The walk through both chains, in each way. -/
def SeqI (P : Program) (ops : Array Oper) (Q : Exit → Act → World → Prop) (S : World → Prop) (K : Act → World → Prop) : Nat → List Nat → List Nat → Act → World → Prop
  | _, [], [], a, w => K a w
  | n + 1, i :: is, [], a, w => wpOp P ops Q i (fun a' w' => S w' ∧ SeqI P ops Q S K n is [] a' w') a w
  | n + 1, [], j :: js, a, w => wpOp P ops Q j (fun a' w' => S w' ∧ SeqI P ops Q S K n [] js a' w') a w
  | n + 1, i :: is, j :: js, a, w => wpOp P ops Q i (fun a' w' => S w' ∧ SeqI P ops Q S K n is (j :: js) a' w') a w ∧ wpOp P ops Q j (fun a' w' => S w' ∧ SeqI P ops Q S K n (i :: is) js a' w') a w
  | 0, _, _, _, _ => False
def SeqM (P : Program) (ops : Array Oper) (Q : Exit → Act → World → Prop) (S : World → Prop) : List Stm → Act → World → Prop
  | [], a, w => Q .normal a w
  | .take i :: is, a, w => ∃ o v, ops[i]? = some o ∧ YieldsIf P ops S o v a ∧ SeqM P ops Q S is (a.put o.dst v) w
  | .mix l m :: is, a, w => SeqI P ops Q S (SeqM P ops Q S is) (l.length + m.length) l m a w
def markM : List Nat → Array Bool → Array Bool
  | [], l => l
  | i :: is, l => markM is (l.setIfInBounds i true)
def okM (md : Region.Mode) (ops : Array Oper) : List Stm → Array Bool → Bool
  | [], l => (Region.ready md ops l).isEmpty
  | .take i :: is, l => ((Region.ready md ops l).contains i && Region.free md ops l i) && okM md ops is (l.setIfInBounds i true)
  | .mix l1 l2 :: is, l => okI md ops (markM (l1 ++ l2) l) (l1.length + l2.length) l1 l2 l && okM md ops is (markM (l1 ++ l2) l)
theorem anyH_of_inter {md : Region.Mode} {lf : Array Bool} {K : Act → World → Prop} {m : Nat} (hK : ∀ a w, S w → K a w → wpAnyH P md ops Q S m lf a w) :
    ∀ (n : Nat) (l1 l2 : List Nat) (l : Array Bool) (a : Act) (w : World), okI md ops lf n l1 l2 l = true → S w → SeqI P ops Q S K n l1 l2 a w → wpAnyH P md ops Q S (l1.length + l2.length + m) l a w
  | 0, [], [], l, a, w, h, hS, hs => by
    simp only [okI, beq_iff_eq] at h
    subst h
    simpa using hK a w hS (by simpa only [SeqI] using hs)
  | n + 1, [], [], l, a, w, h, hS, hs => by
    simp only [okI, beq_iff_eq] at h
    subst h
    simpa using hK a w hS (by simpa only [SeqI] using hs)
  | 0, i :: is, l2, l, a, w, h, hS, hs => by cases l2 <;> simp [okI] at h
  | 0, [], j :: js, l, a, w, h, hS, hs => by simp [okI] at h
  | n + 1, i :: is, [], l, a, w, h, hS, hs => by
    simp only [okI, Bool.and_eq_true, beq_iff_eq] at h
    simp only [SeqI] at hs
    rw [show (i :: is).length + ([] : List Nat).length + m = (is.length + ([] : List Nat).length + m) + 1 by simp; omega]
    refine wpAnyH_all h.1 (by simp) fun j hj => ?_
    simp only [List.mem_singleton] at hj
    subst hj
    exact wpOp_mono (fun a' w' h' => ⟨h'.1, anyH_of_inter hK n is [] _ a' w' h.2 h'.1 h'.2⟩) hs
  | n + 1, [], j :: js, l, a, w, h, hS, hs => by
    simp only [okI, Bool.and_eq_true, beq_iff_eq] at h
    simp only [SeqI] at hs
    rw [show ([] : List Nat).length + (j :: js).length + m = (([] : List Nat).length + js.length + m) + 1 by simp; omega]
    refine wpAnyH_all h.1 (by simp) fun k hk => ?_
    simp only [List.mem_singleton] at hk
    subst hk
    exact wpOp_mono (fun a' w' h' => ⟨h'.1, anyH_of_inter hK n [] js _ a' w' h.2 h'.1 h'.2⟩) hs
  | n + 1, i :: is, j :: js, l, a, w, h, hS, hs => by
    simp only [okI, Bool.and_eq_true, Bool.or_eq_true, beq_iff_eq] at h
    simp only [SeqI] at hs
    have goL : wpOp P ops Q i (fun a' w' => S w' ∧ wpAnyH P md ops Q S (is.length + (j :: js).length + m) (l.setIfInBounds i true) a' w') a w :=
      wpOp_mono (fun a' w' h' => ⟨h'.1, anyH_of_inter hK n is (j :: js) _ a' w' h.1.2 h'.1 h'.2⟩) hs.1
    have goR : wpOp P ops Q j (fun a' w' => S w' ∧ wpAnyH P md ops Q S (is.length + (j :: js).length + m) (l.setIfInBounds j true) a' w') a w := by
      refine wpOp_mono (fun a' w' h' => ⟨h'.1, ?_⟩) hs.2
      have := anyH_of_inter hK n (i :: is) js _ a' w' h.2 h'.1 h'.2
      rwa [show is.length + (j :: js).length + m = (i :: is).length + js.length + m by simp; omega]
    rw [show (i :: is).length + (j :: js).length + m = (is.length + (j :: js).length + m) + 1 by simp; omega]
    rcases h.1.1 with h1 | h1
    · refine wpAnyH_all h1 (by simp) fun k hk => ?_
      simp only [List.mem_cons, List.not_mem_nil, or_false] at hk
      rcases hk with rfl | rfl
      · exact goL
      · exact goR
    · refine wpAnyH_all h1 (by simp) fun k hk => ?_
      simp only [List.mem_cons, List.not_mem_nil, or_false] at hk
      rcases hk with rfl | rfl
      · exact goR
      · exact goL
theorem anyH_of_seqM {md : Region.Mode} (hsel : Region.noSelect ops = true) (hQ : ∀ c t v a w, Q (.panic c) (a.put (some t) v) w → Q (.panic c) a w) :
    ∀ (order : List Stm) (l : Array Bool) (a : Act) (w : World), okM md ops order l = true → S w → SeqM P ops Q S order a w → wpAnyH P md ops Q S (lenM order) l a w
  | [], l, a, w, h, _, hs => by
    have h' : Region.ready md ops l = [] := by simpa [okM] using h
    exact wpAnyH_done h' hs 0
  | .mix l1 l2 :: is, l, a, w, h, hS, hs => by
    simp only [okM, Bool.and_eq_true] at h
    exact anyH_of_inter (fun a w hS' hs' => anyH_of_seqM hsel hQ is _ a w h.2 hS' hs') _ l1 l2 l a w h.1 hS hs
  | .take i :: is, l, a, w, h, hS, ⟨o, v, ho, hy, hs⟩ => by
    simp only [okM, Bool.and_eq_true] at h
    exact wpAnyH_take ho hsel h.1.2 h.1.1 (fun c a w h9 => by
      cases hd : o.dst with
      | none => rw [hd] at h9; exact h9
      | some t => rw [hd] at h9; exact hQ c t v a w h9) hy hS (anyH_of_seqM hsel hQ is _ _ w h.2 hS hs)

theorem drawn_mix {id : Nat} {a : Act} {w : World} (S : World → Prop) (order : List Stm) (hm : P.follows .mixedOrders = true) (hn : (lenM order == ops.size) = true) (hsel : Region.noSelect ops = true)
    (hok : okM .any ops order (Array.replicate ops.size false) = true) (hQ : ∀ c t v a w, Q (.panic c) (a.put (some t) v) w → Q (.panic c) a w) (hS : S w.drew) (h : SeqM P ops Q S order a w.drew) : (Code.region id ops true).wp P Q a w := by
  refine wp_region_held (S := S) hm ?_
  have := anyH_of_seqM hsel hQ order _ a w.drew hok hS h
  rw [beq_iff_eq.1 hn] at this
  exact this

variable {os : List Oper} {i j n : Nat} {l1 l2 : List Nat} {is : List Stm} {o o2 : Oper} {v : Value} {a : Act} {w : World} {K : Act → World → Prop}
theorem m_take (ho : os[i]? = some o) (hw : Region.wanted o (yielded os.toArray a.tmps) = true) (hv : ∀ w, S w → (execOp a.eval o).run P w = .ok (.value v) w) (h : SeqM P os.toArray Q S is (a.put o.dst v) w) : SeqM P os.toArray Q S (.take i :: is) a w :=
  ⟨o, v, by simpa using ho, .inl ⟨hw, hv⟩, h⟩
theorem m_skip (ho : os[i]? = some o) (hw : Region.wanted o (yielded os.toArray a.tmps) = false) (h : SeqM P os.toArray Q S is (a.put o.dst undef) w) : SeqM P os.toArray Q S (.take i :: is) a w :=
  ⟨o, undef, by simpa using ho, .inr ⟨hw, rfl⟩, h⟩
theorem m_mix (h : SeqI P os.toArray Q S (SeqM P os.toArray Q S is) (l1.length + l2.length) l1 l2 a w) : SeqM P os.toArray Q S (.mix l1 l2 :: is) a w := h
theorem m_done (h : Q .normal a w) : SeqM P os.toArray Q S [] a w := h
theorem i_done (h : K a w) : SeqI P os.toArray Q S K n [] [] a w := by cases n <;> simpa only [SeqI] using h
theorem i_left (ho : os[i]? = some o) (hw : Region.wanted o (yielded os.toArray a.tmps) = true)
    (h : ∀ K' : Act → World → Prop, Hid (∀ a w, S w → SeqI P os.toArray Q S K n l1 [] a w → K' a w) → Oper.wp P o a w K' Q) : SeqI P os.toArray Q S K (n + 1) (i :: l1) [] a w := by
  simp only [SeqI]
  exact wpOp_step (ops := os.toArray) (o := o) (by simpa using ho) fun K' hK => by rw [if_pos hw]; exact h K' (hide fun a w h1 h2 => hK a w ⟨h1, h2⟩)
theorem i_right (ho : os[j]? = some o) (hw : Region.wanted o (yielded os.toArray a.tmps) = true)
    (h : ∀ K' : Act → World → Prop, Hid (∀ a w, S w → SeqI P os.toArray Q S K n [] l2 a w → K' a w) → Oper.wp P o a w K' Q) : SeqI P os.toArray Q S K (n + 1) [] (j :: l2) a w := by
  simp only [SeqI]
  exact wpOp_step (ops := os.toArray) (o := o) (by simpa using ho) fun K' hK => by rw [if_pos hw]; exact h K' (hide fun a w h1 h2 => hK a w ⟨h1, h2⟩)
theorem i_both (ho : os[i]? = some o) (ho2 : os[j]? = some o2) (hw : Region.wanted o (yielded os.toArray a.tmps) = true) (hw2 : Region.wanted o2 (yielded os.toArray a.tmps) = true)
    (h : ∀ K' : Act → World → Prop, Hid (∀ a w, S w → SeqI P os.toArray Q S K n l1 (j :: l2) a w → K' a w) → Oper.wp P o a w K' Q)
    (h2 : ∀ K' : Act → World → Prop, Hid (∀ a w, S w → SeqI P os.toArray Q S K n (i :: l1) l2 a w → K' a w) → Oper.wp P o2 a w K' Q) : SeqI P os.toArray Q S K (n + 1) (i :: l1) (j :: l2) a w := by
  simp only [SeqI]
  exact ⟨wpOp_step (ops := os.toArray) (o := o) (by simpa using ho) fun K' hK => by rw [if_pos hw]; exact h K' (hide fun a w h1 h2 => hK a w ⟨h1, h2⟩),
    wpOp_step (ops := os.toArray) (o := o2) (by simpa using ho2) fun K' hK => by rw [if_pos hw2]; exact h2 K' (hide fun a w h1 h2 => hK a w ⟨h1, h2⟩)⟩
end
end Go.Proofs.YtneecjikdghchaaDoor
