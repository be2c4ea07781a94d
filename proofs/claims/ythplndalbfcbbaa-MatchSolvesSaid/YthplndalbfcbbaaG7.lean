/- match.Match, walked; the document's example of layer 5. -/
import Derived.Test.YthplndalbfcbbaaG6
import Derived.Test.YthplndalbfcbbaaG4
set_option linter.unusedSimpArgs false
set_option linter.unusedVariables false
namespace Go.Proofs.Ythplndalbfcbbaa
open Go.RowKit

def GivesM (A : Nat → Prop) (w : World) (r : List Bd × Bool × Int) (e : Ending) (w' : World) : Prop :=
  ∃ v, e = .returned (.tuple #[v, .bool r.2.1, .int .i64 r.2.2]) ∧ Binds A w' v r.1 ∧ Below w.heap.size w w'
theorem sizes_one (t : Tm) : Tm.sizes [t] = t.size := by simp [Tm.sizes]

set_option maxHeartbeats 4000000 in
set_option maxRecDepth 100000 in
theorem match_calls (A : Nat → Prop) (p t : Tm) (h1 h2 : Int) (s1 s2 : Value) (w : World) (hp9 : p.size ≤ 1000000000) (ht9 : t.size ≤ 1000000000) (hA : ∀ b, A b → b < w.heap.size) (hp : IsTm A w h1 s1 p) (ht : IsTm A w h2 s2 t) :
    Calls Try.prog 46 #[.agg #[.int .i64 h1, s1], .agg #[.int .i64 h2, s2]] w fun e w' => GivesM A w (matchT [p] [t]) e w' := by
  obtain ⟨rfl, a1, c1, rfl, -, -⟩ := hp.shape
  obtain ⟨rfl, a2, c2, rfl, -, -⟩ := ht.shape
  have HAO := hide hA
  go_enter Try.func46, Try.ntmps46
  go_wp2_with fail
  have b2 : Below w.heap.size w ((w.alloc (.cells #[.int .i64 p.h, .slice a1 p.args.length c1] 25)).alloc (.cells #[.int .i64 t.h, .slice a2 t.args.length c2] 25)) := ((Below.refl _ _).alloc (Nat.le_refl _) _).alloc (by rw [World.size_alloc]; omega) _
  have e2 : ((w.alloc (.cells #[.int .i64 p.h, .slice a1 p.args.length c1] 25)).alloc (.cells #[.int .i64 t.h, .slice a2 t.args.length c2] 25)).heap.size = w.heap.size + 1 + 1 := by rw [World.size_alloc, World.size_alloc]
  generalize (w.alloc (.cells #[.int .i64 p.h, .slice a1 p.args.length c1] 25)).alloc (.cells #[.int .i64 t.h, .slice a2 t.args.length c2] 25) = W2 at *
  have p2 := hp.below b2
  have t2 := ht.below b2
  have k3 : (W2.alloc (.cells #[.int .i64 p.h, .slice a1 p.args.length c1] 25)).heap[W2.heap.size]? = some (.cells #[.int .i64 p.h, .slice a1 p.args.length c1] 25 (0, 0)) := World.alloc_heap_new _ _
  have b3 : Below W2.heap.size W2 (W2.alloc (.cells #[.int .i64 p.h, .slice a1 p.args.length c1] 25)) := (Below.refl _ _).alloc (Nat.le_refl _) _
  have p3 := terms1 (A := A) (t := p) k3 (fun h => by have := HAO.out _ h; omega) (p2.below b3).2
  have t3 := t2.below b3
  have B3 := more_below b2 b3
  have e3 : (W2.alloc (.cells #[.int .i64 p.h, .slice a1 p.args.length c1] 25)).heap.size = w.heap.size + 1 + 1 + 1 := by rw [World.size_alloc, e2]
  rw [e2] at p3
  generalize W2.alloc (.cells #[.int .i64 p.h, .slice a1 p.args.length c1] 25) = W3 at *
  have k4 : (W3.alloc (.cells #[.int .i64 t.h, .slice a2 t.args.length c2] 25)).heap[W3.heap.size]? = some (.cells #[.int .i64 t.h, .slice a2 t.args.length c2] 25 (0, 0)) := World.alloc_heap_new _ _
  have b4 : Below W3.heap.size W3 (W3.alloc (.cells #[.int .i64 t.h, .slice a2 t.args.length c2] 25)) := (Below.refl _ _).alloc (Nat.le_refl _) _
  have t4 := terms1 (A := A) (t := t) k4 (fun h => by have := HAO.out _ h; omega) (t3.below b4).2
  have p4 := p3.below b4
  have B4 := more_below B3 b4
  rw [e3] at t4
  generalize W3.alloc (.cells #[.int .i64 t.h, .slice a2 t.args.length c2] 25) = W4 at *
  clear e2 e3 k3 k4 b2 b3 b4 p2 t2 p3 t3 B3
  refine (matchall_calls A [p] [t] _ _ W4 (by rw [sizes_one]; exact hp9) (by rw [sizes_one]; exact ht9) (fun b h => Nat.lt_of_lt_of_le (HAO.out b h) B4.size) p4 t4).mono ?_
  rintro e w5 ⟨v, rfl, hv, h5⟩
  have B5 := more_below B4 h5
  go_wp2
  exact bodyPost_ret (v := .tuple #[v, .bool (matchT [p] [t]).2.1, .int .i64 (matchT [p] [t]).2.2]) (by simp [results, Try.results46, go_sem]) rfl ⟨v, rfl, hv, B5⟩
end Go.Proofs.Ythplndalbfcbbaa
/- A region that draws its order, of which two chains of operations may come up in any way one between the other. Nothing of the program. -/
set_option linter.unusedSimpArgs false
set_option linter.unusedVariables false
namespace Go.Proofs.Ythplndalbfcbbaa
open Go.RowKit

inductive Stm where
  | take (i : Nat)
  | mix (l m : List Nat)
def lenM : List Stm → Nat
  | [] => 0
  | .take _ :: is => lenM is + 1
  | .mix l m :: is => l.length + m.length + lenM is
section
variable {P : Program} {ops : Array Oper} {Q : Exit → Act → World → Prop} {S : World → Prop}
def okI (md : Region.Mode) (ops : Array Oper) (lf : Array Bool) : Nat → List Nat → List Nat → Array Bool → Bool
  | _, [], [], l => l == lf
  | n + 1, i :: is, [], l => (Region.ready md ops l == [i]) && okI md ops lf n is [] (l.setIfInBounds i true)
  | n + 1, [], j :: js, l => (Region.ready md ops l == [j]) && okI md ops lf n [] js (l.setIfInBounds j true)
  | n + 1, i :: is, j :: js, l => (Region.ready md ops l == [i, j] || Region.ready md ops l == [j, i]) && okI md ops lf n is (j :: js) (l.setIfInBounds i true) && okI md ops lf n (i :: is) js (l.setIfInBounds j true)
  | 0, _, _, _ => false
/-- The walk through both chains, in each way. -/
def SeqI (P : Program) (ops : Array Oper) (Q : Exit → Act → World → Prop) (S : World → Prop) (K : Act → World → Prop) : Nat → List Nat → List Nat → Act → World → Prop
  | _, [], [], a, w => K a w
  | n + 1, i :: is, [], a, w => wpOp P ops Q i (fun a' w' => S w' ∧ SeqI P ops Q S K n is [] a' w') a w
  | n + 1, [], j :: js, a, w => wpOp P ops Q j (fun a' w' => S w' ∧ SeqI P ops Q S K n [] js a' w') a w
  | n + 1, i :: is, j :: js, a, w => wpOp P ops Q i (fun a' w' => S w' ∧ SeqI P ops Q S K n is (j :: js) a' w') a w ∧ wpOp P ops Q j (fun a' w' => S w' ∧ SeqI P ops Q S K n (i :: is) js a' w') a w
  | 0, _, _, _, _ => False
def SeqM (P : Program) (ops : Array Oper) (Q : Exit → Act → World → Prop) (S : World → Prop) : List Stm → Act → World → Prop
  | [], a, w => Q .normal a w
  | .take i :: is, a, w => ∃ o v, ops[i]? = some o ∧ YieldsIf P ops S o v a ∧ SeqM P ops Q S is (a.put o.dst v) w
  | .mix l m :: is, a, w => SeqI P ops Q S (SeqM P ops Q S is) (l.length + m.length) l m a w
def markM : List Nat → Array Bool → Array Bool
  | [], l => l
  | i :: is, l => markM is (l.setIfInBounds i true)
def okM (md : Region.Mode) (ops : Array Oper) : List Stm → Array Bool → Bool
  | [], l => (Region.ready md ops l).isEmpty
  | .take i :: is, l => ((Region.ready md ops l).contains i && Region.free md ops l i) && okM md ops is (l.setIfInBounds i true)
  | .mix l1 l2 :: is, l => okI md ops (markM (l1 ++ l2) l) (l1.length + l2.length) l1 l2 l && okM md ops is (markM (l1 ++ l2) l)
theorem anyH_of_inter {md : Region.Mode} {lf : Array Bool} {K : Act → World → Prop} {m : Nat} (hK : ∀ a w, S w → K a w → wpAnyH P md ops Q S m lf a w) :
    ∀ (n : Nat) (l1 l2 : List Nat) (l : Array Bool) (a : Act) (w : World), okI md ops lf n l1 l2 l = true → S w → SeqI P ops Q S K n l1 l2 a w → wpAnyH P md ops Q S (l1.length + l2.length + m) l a w
  | 0, [], [], l, a, w, h, hS, hs => by
    simp only [okI, beq_iff_eq] at h
    subst h
    simpa using hK a w hS (by simpa only [SeqI] using hs)
  | n + 1, [], [], l, a, w, h, hS, hs => by
    simp only [okI, beq_iff_eq] at h
    subst h
    simpa using hK a w hS (by simpa only [SeqI] using hs)
  | 0, i :: is, l2, l, a, w, h, hS, hs => by cases l2 <;> simp [okI] at h
  | 0, [], j :: js, l, a, w, h, hS, hs => by simp [okI] at h
  | n + 1, i :: is, [], l, a, w, h, hS, hs => by
    simp only [okI, Bool.and_eq_true, beq_iff_eq] at h
    simp only [SeqI] at hs
    rw [show (i :: is).length + ([] : List Nat).length + m = (is.length + ([] : List Nat).length + m) + 1 by simp; omega]
    refine wpAnyH_all h.1 (by simp) fun j hj => ?_
    simp only [List.mem_singleton] at hj
    subst hj
    exact wpOp_mono (fun a' w' h' => ⟨h'.1, anyH_of_inter hK n is [] _ a' w' h.2 h'.1 h'.2⟩) hs
  | n + 1, [], j :: js, l, a, w, h, hS, hs => by
    simp only [okI, Bool.and_eq_true, beq_iff_eq] at h
    simp only [SeqI] at hs
    rw [show ([] : List Nat).length + (j :: js).length + m = (([] : List Nat).length + js.length + m) + 1 by simp; omega]
    refine wpAnyH_all h.1 (by simp) fun k hk => ?_
    simp only [List.mem_singleton] at hk
    subst hk
    exact wpOp_mono (fun a' w' h' => ⟨h'.1, anyH_of_inter hK n [] js _ a' w' h.2 h'.1 h'.2⟩) hs
  | n + 1, i :: is, j :: js, l, a, w, h, hS, hs => by
    simp only [okI, Bool.and_eq_true, Bool.or_eq_true, beq_iff_eq] at h
    simp only [SeqI] at hs
    have goL : wpOp P ops Q i (fun a' w' => S w' ∧ wpAnyH P md ops Q S (is.length + (j :: js).length + m) (l.setIfInBounds i true) a' w') a w :=
      wpOp_mono (fun a' w' h' => ⟨h'.1, anyH_of_inter hK n is (j :: js) _ a' w' h.1.2 h'.1 h'.2⟩) hs.1
    have goR : wpOp P ops Q j (fun a' w' => S w' ∧ wpAnyH P md ops Q S (is.length + (j :: js).length + m) (l.setIfInBounds j true) a' w') a w := by
      refine wpOp_mono (fun a' w' h' => ⟨h'.1, ?_⟩) hs.2
      have := anyH_of_inter hK n (i :: is) js _ a' w' h.2 h'.1 h'.2
      rwa [show is.length + (j :: js).length + m = (i :: is).length + js.length + m by simp; omega]
    rw [show (i :: is).length + (j :: js).length + m = (is.length + (j :: js).length + m) + 1 by simp; omega]
    rcases h.1.1 with h1 | h1
    · refine wpAnyH_all h1 (by simp) fun k hk => ?_
      simp only [List.mem_cons, List.not_mem_nil, or_false] at hk
      rcases hk with rfl | rfl
      · exact goL
      · exact goR
    · refine wpAnyH_all h1 (by simp) fun k hk => ?_
      simp only [List.mem_cons, List.not_mem_nil, or_false] at hk
      rcases hk with rfl | rfl
      · exact goR
      · exact goL
theorem anyH_of_seqM {md : Region.Mode} (hsel : Region.noSelect ops = true) (hQ : ∀ c t v a w, Q (.panic c) (a.put (some t) v) w → Q (.panic c) a w) :
    ∀ (order : List Stm) (l : Array Bool) (a : Act) (w : World), okM md ops order l = true → S w → SeqM P ops Q S order a w → wpAnyH P md ops Q S (lenM order) l a w
  | [], l, a, w, h, _, hs => by
    have h' : Region.ready md ops l = [] := by simpa [okM] using h
    exact wpAnyH_done h' hs 0
  | .mix l1 l2 :: is, l, a, w, h, hS, hs => by
    simp only [okM, Bool.and_eq_true] at h
    exact anyH_of_inter (fun a w hS' hs' => anyH_of_seqM hsel hQ is _ a w h.2 hS' hs') _ l1 l2 l a w h.1 hS hs
  | .take i :: is, l, a, w, h, hS, ⟨o, v, ho, hy, hs⟩ => by
    simp only [okM, Bool.and_eq_true] at h
    exact wpAnyH_take ho hsel h.1.2 h.1.1 (fun c a w h9 => by
      cases hd : o.dst with
      | none => rw [hd] at h9; exact h9
      | some t => rw [hd] at h9; exact hQ c t v a w h9) hy hS (anyH_of_seqM hsel hQ is _ _ w h.2 hS hs)

theorem drawn_mix {id : Nat} {a : Act} {w : World} (S : World → Prop) (order : List Stm) (hm : P.follows .mixedOrders = true) (hn : (lenM order == ops.size) = true) (hsel : Region.noSelect ops = true)
    (hok : okM .any ops order (Array.replicate ops.size false) = true) (hQ : ∀ c t v a w, Q (.panic c) (a.put (some t) v) w → Q (.panic c) a w) (hS : S w.drew) (h : SeqM P ops Q S order a w.drew) : (Code.region id ops true).wp P Q a w := by
  refine wp_region_held (S := S) hm ?_
  have := anyH_of_seqM hsel hQ order _ a w.drew hok hS h
  rw [beq_iff_eq.1 hn] at this
  exact this

variable {os : List Oper} {i j n : Nat} {l1 l2 : List Nat} {is : List Stm} {o o2 : Oper} {v : Value} {a : Act} {w : World} {K : Act → World → Prop}
theorem m_take (ho : os[i]? = some o) (hw : Region.wanted o (yielded os.toArray a.tmps) = true) (hv : ∀ w, S w → (execOp a.eval o).run P w = .ok (.value v) w) (h : SeqM P os.toArray Q S is (a.put o.dst v) w) : SeqM P os.toArray Q S (.take i :: is) a w :=
  ⟨o, v, by simpa using ho, .inl ⟨hw, hv⟩, h⟩
theorem m_skip (ho : os[i]? = some o) (hw : Region.wanted o (yielded os.toArray a.tmps) = false) (h : SeqM P os.toArray Q S is (a.put o.dst undef) w) : SeqM P os.toArray Q S (.take i :: is) a w :=
  ⟨o, undef, by simpa using ho, .inr ⟨hw, rfl⟩, h⟩
theorem m_mix (h : SeqI P os.toArray Q S (SeqM P os.toArray Q S is) (l1.length + l2.length) l1 l2 a w) : SeqM P os.toArray Q S (.mix l1 l2 :: is) a w := h
theorem m_done (h : Q .normal a w) : SeqM P os.toArray Q S [] a w := h
theorem i_done (h : K a w) : SeqI P os.toArray Q S K n [] [] a w := by cases n <;> simpa only [SeqI] using h
theorem i_left (ho : os[i]? = some o) (hw : Region.wanted o (yielded os.toArray a.tmps) = true)
    (h : ∀ K' : Act → World → Prop, Hid (∀ a w, S w → SeqI P os.toArray Q S K n l1 [] a w → K' a w) → Oper.wp P o a w K' Q) : SeqI P os.toArray Q S K (n + 1) (i :: l1) [] a w := by
  simp only [SeqI]
  exact wpOp_step (ops := os.toArray) (o := o) (by simpa using ho) fun K' hK => by rw [if_pos hw]; exact h K' (hide fun a w h1 h2 => hK a w ⟨h1, h2⟩)
theorem i_right (ho : os[j]? = some o) (hw : Region.wanted o (yielded os.toArray a.tmps) = true)
    (h : ∀ K' : Act → World → Prop, Hid (∀ a w, S w → SeqI P os.toArray Q S K n [] l2 a w → K' a w) → Oper.wp P o a w K' Q) : SeqI P os.toArray Q S K (n + 1) [] (j :: l2) a w := by
  simp only [SeqI]
  exact wpOp_step (ops := os.toArray) (o := o) (by simpa using ho) fun K' hK => by rw [if_pos hw]; exact h K' (hide fun a w h1 h2 => hK a w ⟨h1, h2⟩)
theorem i_both (ho : os[i]? = some o) (ho2 : os[j]? = some o2) (hw : Region.wanted o (yielded os.toArray a.tmps) = true) (hw2 : Region.wanted o2 (yielded os.toArray a.tmps) = true)
    (h : ∀ K' : Act → World → Prop, Hid (∀ a w, S w → SeqI P os.toArray Q S K n l1 (j :: l2) a w → K' a w) → Oper.wp P o a w K' Q)
    (h2 : ∀ K' : Act → World → Prop, Hid (∀ a w, S w → SeqI P os.toArray Q S K n (i :: l1) l2 a w → K' a w) → Oper.wp P o2 a w K' Q) : SeqI P os.toArray Q S K (n + 1) (i :: l1) (j :: l2) a w := by
  simp only [SeqI]
  exact ⟨wpOp_step (ops := os.toArray) (o := o) (by simpa using ho) fun K' hK => by rw [if_pos hw]; exact h K' (hide fun a w h1 h2 => hK a w ⟨h1, h2⟩),
    wpOp_step (ops := os.toArray) (o := o2) (by simpa using ho2) fun K' hK => by rw [if_pos hw2]; exact h2 K' (hide fun a w h1 h2 => hK a w ⟨h1, h2⟩)⟩
end
end Go.Proofs.Ythplndalbfcbbaa
/- The document's example of layer 5. -/
set_option linter.unusedSimpArgs false
set_option linter.unusedVariables false
namespace Go.Proofs.Ythplndalbfcbbaa
open Go.RowKit

def ex5P : Tm := .node 4 [.node (-1) [], .node (-2) []]
def ex5T : Tm := .node 4 [.node (-2) [], .node 1 []]
def ex5Q : Tm := .node 4 [.node (-1) [], .node (-1) []]
def ex5U : Tm := .node 4 [.node 1 [], .node 2 []]
def ex5B : List Bd := [⟨0, .node (-2) []⟩, ⟨1, .node 1 []⟩]
theorem ex5_one : matchT [ex5P] [ex5T] = (ex5B, true, 0) := by kernel_rfl
theorem ex5_two : matchT [ex5Q] [ex5U] = ([], false, 0) := by kernel_rfl

set_option maxHeartbeats 4000000 in
set_option maxRecDepth 100000 in
theorem awake5_calls (w : World) : Calls Try.prog 44 #[] w fun e w' => e = .returned (.bool true) ∧ Below w.heap.size w w' := by
  go_enter Try.func44, Try.ntmps44
  go_wp2_with fail
  refine (var_calls 0 (by omega) (by omega) _).mono ?_
  rintro e w1 ⟨rfl, h1⟩
  have B1 := h1
  go_wp2_with fail
  have H1 : Below w1.heap.size w1 (w1.alloc (.cells #[.int .i64 (-1), .slice none 0 0] 25)) := (Below.refl _ _).alloc (Nat.le_refl _) _
  have m11 : (w1.alloc (.cells #[.int .i64 (-1), .slice none 0 0] 25)).heap[w1.heap.size]? = some (.cells #[.int .i64 (-1), .slice none 0 0] 25 (0, 0)) := World.alloc_heap_new _ _
  have C1 := more_below B1 H1
  clear H1 B1 
  generalize w1.alloc (.cells #[.int .i64 (-1), .slice none 0 0] 25) = V1 at *
  refine (var_calls 1 (by omega) (by omega) _).mono ?_
  rintro e w2 ⟨rfl, h2⟩
  have B2 := more_below C1 h2
  have k21 := (h2.block _ (Array.getElem?_eq_some_iff.1 m11).1).trans m11
  clear h2 C1 m11
  go_wp2_with fail
  have H2 : Below w2.heap.size w2 (w2.alloc (.cells #[.int .i64 (-2), .slice none 0 0] 25)) := (Below.refl _ _).alloc (Nat.le_refl _) _
  have m22 : (w2.alloc (.cells #[.int .i64 (-2), .slice none 0 0] 25)).heap[w2.heap.size]? = some (.cells #[.int .i64 (-2), .slice none 0 0] 25 (0, 0)) := World.alloc_heap_new _ _
  have m21 := (H2.block _ (Array.getElem?_eq_some_iff.1 k21).1).trans k21
  have C2 := more_below B2 H2
  clear H2 B2 k21
  generalize w2.alloc (.cells #[.int .i64 (-2), .slice none 0 0] 25) = V2 at *
  refine (fun_calls 1 none 0 0 _).mono ?_
  rintro e w3 ⟨rfl, h3⟩
  have B3 := more_below C2 h3
  have k31 := (h3.block _ (Array.getElem?_eq_some_iff.1 m21).1).trans m21
  have k32 := (h3.block _ (Array.getElem?_eq_some_iff.1 m22).1).trans m22
  clear h3 C2 m21 m22
  go_wp2_with fail
  have H3 : Below w3.heap.size w3 (w3.alloc (.cells #[.int .i64 1, .slice none 0 0] 25)) := (Below.refl _ _).alloc (Nat.le_refl _) _
  have m33 : (w3.alloc (.cells #[.int .i64 1, .slice none 0 0] 25)).heap[w3.heap.size]? = some (.cells #[.int .i64 1, .slice none 0 0] 25 (0, 0)) := World.alloc_heap_new _ _
  have m31 := (H3.block _ (Array.getElem?_eq_some_iff.1 k31).1).trans k31
  have m32 := (H3.block _ (Array.getElem?_eq_some_iff.1 k32).1).trans k32
  have C3 := more_below B3 H3
  clear H3 B3 k31 k32
  generalize w3.alloc (.cells #[.int .i64 1, .slice none 0 0] 25) = V3 at *
  have m1 := m31
  have m2 := m32
  have m3 := m33
  clear m31 m32 m33
  refine cut_cap (fun a0 a' w' => ∃ b1 b2 va, a' = ((((((((((((((((a0.put (some 14) (.agg #[.int .i64 (-1), .slice none 0 0])).put (some 15) (.agg #[.int .i64 (-2), .slice none 0 0])).put (some 18) (.agg #[.int .i64 (-2), .slice none 0 0])).put (some 19) (.agg #[.int .i64 1, .slice none 0 0])).put (some 16) (.slice (some ⟨b1, 0, none⟩) 2 2)).put (some 17) (.agg #[.int .i64 4, .slice (some ⟨b1, 0, none⟩) 2 2])).put (some 20) (.slice (some ⟨b2, 0, none⟩) 2 2)).put (some 21) (.agg #[.int .i64 4, .slice (some ⟨b2, 0, none⟩) 2 2])).put (some 22) (.tuple #[va, .bool true, .int .i64 0])).put (some 13) (.tuple #[va, .bool true, .int .i64 0])).put (some 23) va).put (some 24) (.bool true)).put (some 25) (.int .i64 0)).put (some 4) va).put (some 5) (.bool true)).put (some 6) (.int .i64 0)) ∧ Below V3.heap.size V3 w' ∧ Binds (fun _ => False) w' va ex5B) ?_ ?_
  · have hS : ∀ W', Below V3.heap.size V3 W' → Below V3.heap.size V3 W' ∧ W'.cell? ⟨w1.heap.size, 0, none⟩ = some (.int .i64 (-1)) ∧ W'.cell? ⟨w1.heap.size, 1, none⟩ = some (.slice none 0 0) ∧ W'.cell? ⟨w2.heap.size, 0, none⟩ = some (.int .i64 (-2)) ∧ W'.cell? ⟨w2.heap.size, 1, none⟩ = some (.slice none 0 0) ∧ W'.cell? ⟨w3.heap.size, 0, none⟩ = some (.int .i64 1) ∧ W'.cell? ⟨w3.heap.size, 1, none⟩ = some (.slice none 0 0) := fun W' hW => by
      obtain ⟨-, z10, z11, -, -⟩ := box2 ((hW.block _ (Array.getElem?_eq_some_iff.1 m1).1).trans m1)
      obtain ⟨-, z20, z21, -, -⟩ := box2 ((hW.block _ (Array.getElem?_eq_some_iff.1 m2).1).trans m2)
      obtain ⟨-, z30, z31, -, -⟩ := box2 ((hW.block _ (Array.getElem?_eq_some_iff.1 m3).1).trans m3)
      exact ⟨hW, z10, z11, z20, z21, z30, z31⟩
    refine drawn_mix (fun W' => Below V3.heap.size V3 W' ∧ W'.cell? ⟨w1.heap.size, 0, none⟩ = some (.int .i64 (-1)) ∧ W'.cell? ⟨w1.heap.size, 1, none⟩ = some (.slice none 0 0) ∧ W'.cell? ⟨w2.heap.size, 0, none⟩ = some (.int .i64 (-2)) ∧ W'.cell? ⟨w2.heap.size, 1, none⟩ = some (.slice none 0 0) ∧ W'.cell? ⟨w3.heap.size, 0, none⟩ = some (.int .i64 1) ∧ W'.cell? ⟨w3.heap.size, 1, none⟩ = some (.slice none 0 0)) [.take 0, .take 1, .take 4, .take 5, .mix [2, 3] [6], .mix [7] [], .mix [8] [], .take 9, .take 10, .take 11, .take 12, .take 13, .take 14, .take 15] (by kernel_rfl) (by kernel_rfl) (by kernel_rfl) (by kernel_rfl) (fun _ _ _ _ _ h => h) (hS _ (Below.refl _ _).drew) ?_
    have g0 := (Below.refl V3.heap.size V3).drew
    generalize V3.drew = x0 at *
    iterate 4 (refine m_take (v := ?_) rfl (by rfl) ?_ ?_; rotate_left; (intro w hS; obtain ⟨-, hS1, hS2, hS3, hS4, hS5, hS6⟩ := hS; go_simp; try with_reducible rfl); simp only [Act.put, List.setIfInBounds_toArray, List.set_cons_zero, List.set_cons_succ])
    refine m_mix ?_
    refine i_both rfl rfl (by rfl) (by rfl) ?_ ?_
    · intro K hK
      go_simp
      have p1 : (x0.alloc (.cells #[.int .i64 (-1), .slice none 0 0, .int .i64 (-2), .slice none 0 0] 25)).heap[x0.heap.size]? = some (.cells #[.int .i64 (-1), .slice none 0 0, .int .i64 (-2), .slice none 0 0] 25 (0, 0)) := World.alloc_heap_new _ _
      have q1 : Below x0.heap.size x0 (x0.alloc (.cells #[.int .i64 (-1), .slice none 0 0, .int .i64 (-2), .slice none 0 0] 25)) := (Below.refl _ _).alloc (Nat.le_refl _) _
      have g1 := more_below g0 q1
      have u1 : Terms (fun _ => False) _ (.slice (some ⟨x0.heap.size, 0, none⟩) 2 2) ex5P.args := terms2 (t1 := .node (-1) []) (t2 := .node (-2) []) p1 id (Terms.nil _ _) (Terms.nil _ _)
      refine hK.out _ _ (hS _ g1) ?_
      clear hK K
      clear p1 q1
      generalize x0.alloc (.cells #[.int .i64 (-1), .slice none 0 0, .int .i64 (-2), .slice none 0 0] 25) = x1 at *
      refine i_both rfl rfl (by rfl) (by rfl) ?_ ?_
      · intro K hK
        go_simp
        refine (fun_calls 4 _ _ _ _).mono ?_
        rintro e x2 ⟨rfl, q2⟩
        have g2 := more_below g1 q2
        have u2 := u1.below q2
        refine hK.out _ _ (hS _ g2) ?_
        clear hK K
        clear q2
        refine i_right rfl (by rfl) ?_
        intro K hK
        go_simp
        have p3 : (x2.alloc (.cells #[.int .i64 (-2), .slice none 0 0, .int .i64 1, .slice none 0 0] 25)).heap[x2.heap.size]? = some (.cells #[.int .i64 (-2), .slice none 0 0, .int .i64 1, .slice none 0 0] 25 (0, 0)) := World.alloc_heap_new _ _
        have q3 : Below x2.heap.size x2 (x2.alloc (.cells #[.int .i64 (-2), .slice none 0 0, .int .i64 1, .slice none 0 0] 25)) := (Below.refl _ _).alloc (Nat.le_refl _) _
        have g3 := more_below g2 q3
        have u3 : Terms (fun _ => False) _ (.slice (some ⟨x2.heap.size, 0, none⟩) 2 2) ex5T.args := terms2 (t1 := .node (-2) []) (t2 := .node 1 []) p3 id (Terms.nil _ _) (Terms.nil _ _)
        have v3 := u2.below q3
        refine hK.out _ _ (hS _ g3) ?_
        clear hK K
        clear p3 q3
        generalize x2.alloc (.cells #[.int .i64 (-2), .slice none 0 0, .int .i64 1, .slice none 0 0] 25) = x3 at *
        refine i_done ?_
        refine m_mix ?_
        refine i_left rfl (by rfl) ?_
        intro K hK
        go_simp
        refine (fun_calls 4 _ _ _ _).mono ?_
        rintro e x8 ⟨rfl, q8⟩
        have g8 := more_below g3 q8
        have up8 := v3.below q8
        have ut8 := u3.below q8
        refine hK.out _ _ (hS _ g8) ?_
        clear hK K
        clear q8
        refine i_done ?_
        refine m_mix ?_
        refine i_left rfl (by rfl) ?_
        intro K hK
        go_simp
        have hma := match_calls (fun _ => False) ex5P ex5T 4 4 _ _ x8 (by decide) (by decide) (fun _ h => h.elim) ⟨rfl, up8⟩ ⟨rfl, ut8⟩
        rw [ex5_one] at hma
        refine hma.mono ?_
        rintro e x9 ⟨va, rfl, va9, q9⟩
        have g9 := more_below g8 q9
        refine hK.out _ _ (hS _ g9) ?_
        clear hK K q9 hma
        refine i_done ?_
        iterate 7 (refine m_take (v := ?_) rfl (by rfl) ?_ ?_; rotate_left; (intro w hS; obtain ⟨-, hS1, hS2, hS3, hS4, hS5, hS6⟩ := hS; go_simp; try with_reducible rfl); simp only [Act.put, List.setIfInBounds_toArray, List.set_cons_zero, List.set_cons_succ])
        exact m_done ⟨x0.heap.size, x2.heap.size, va, by simp only [Act.put, List.setIfInBounds_toArray, List.set_cons_zero, List.set_cons_succ]; try rfl, g9, va9⟩
      · intro K hK
        go_simp
        have p2 : (x1.alloc (.cells #[.int .i64 (-2), .slice none 0 0, .int .i64 1, .slice none 0 0] 25)).heap[x1.heap.size]? = some (.cells #[.int .i64 (-2), .slice none 0 0, .int .i64 1, .slice none 0 0] 25 (0, 0)) := World.alloc_heap_new _ _
        have q2 : Below x1.heap.size x1 (x1.alloc (.cells #[.int .i64 (-2), .slice none 0 0, .int .i64 1, .slice none 0 0] 25)) := (Below.refl _ _).alloc (Nat.le_refl _) _
        have g2 := more_below g1 q2
        have u2 : Terms (fun _ => False) _ (.slice (some ⟨x1.heap.size, 0, none⟩) 2 2) ex5T.args := terms2 (t1 := .node (-2) []) (t2 := .node 1 []) p2 id (Terms.nil _ _) (Terms.nil _ _)
        have v2 := u1.below q2
        refine hK.out _ _ (hS _ g2) ?_
        clear hK K
        clear p2 q2
        generalize x1.alloc (.cells #[.int .i64 (-2), .slice none 0 0, .int .i64 1, .slice none 0 0] 25) = x2 at *
        refine i_left rfl (by rfl) ?_
        intro K hK
        go_simp
        refine (fun_calls 4 _ _ _ _).mono ?_
        rintro e x3 ⟨rfl, q3⟩
        have g3 := more_below g2 q3
        have v3 := v2.below q3
        have u3 := u2.below q3
        refine hK.out _ _ (hS _ g3) ?_
        clear hK K
        clear q3
        refine i_done ?_
        refine m_mix ?_
        refine i_left rfl (by rfl) ?_
        intro K hK
        go_simp
        refine (fun_calls 4 _ _ _ _).mono ?_
        rintro e x8 ⟨rfl, q8⟩
        have g8 := more_below g3 q8
        have up8 := v3.below q8
        have ut8 := u3.below q8
        refine hK.out _ _ (hS _ g8) ?_
        clear hK K
        clear q8
        refine i_done ?_
        refine m_mix ?_
        refine i_left rfl (by rfl) ?_
        intro K hK
        go_simp
        have hma := match_calls (fun _ => False) ex5P ex5T 4 4 _ _ x8 (by decide) (by decide) (fun _ h => h.elim) ⟨rfl, up8⟩ ⟨rfl, ut8⟩
        rw [ex5_one] at hma
        refine hma.mono ?_
        rintro e x9 ⟨va, rfl, va9, q9⟩
        have g9 := more_below g8 q9
        refine hK.out _ _ (hS _ g9) ?_
        clear hK K q9 hma
        refine i_done ?_
        iterate 7 (refine m_take (v := ?_) rfl (by rfl) ?_ ?_; rotate_left; (intro w hS; obtain ⟨-, hS1, hS2, hS3, hS4, hS5, hS6⟩ := hS; go_simp; try with_reducible rfl); simp only [Act.put, List.setIfInBounds_toArray, List.set_cons_zero, List.set_cons_succ])
        exact m_done ⟨x0.heap.size, x1.heap.size, va, by simp only [Act.put, List.setIfInBounds_toArray, List.set_cons_zero, List.set_cons_succ]; try rfl, g9, va9⟩
    · intro K hK
      go_simp
      have p1 : (x0.alloc (.cells #[.int .i64 (-2), .slice none 0 0, .int .i64 1, .slice none 0 0] 25)).heap[x0.heap.size]? = some (.cells #[.int .i64 (-2), .slice none 0 0, .int .i64 1, .slice none 0 0] 25 (0, 0)) := World.alloc_heap_new _ _
      have q1 : Below x0.heap.size x0 (x0.alloc (.cells #[.int .i64 (-2), .slice none 0 0, .int .i64 1, .slice none 0 0] 25)) := (Below.refl _ _).alloc (Nat.le_refl _) _
      have g1 := more_below g0 q1
      have u1 : Terms (fun _ => False) _ (.slice (some ⟨x0.heap.size, 0, none⟩) 2 2) ex5T.args := terms2 (t1 := .node (-2) []) (t2 := .node 1 []) p1 id (Terms.nil _ _) (Terms.nil _ _)
      refine hK.out _ _ (hS _ g1) ?_
      clear hK K
      clear p1 q1
      generalize x0.alloc (.cells #[.int .i64 (-2), .slice none 0 0, .int .i64 1, .slice none 0 0] 25) = x1 at *
      refine i_left rfl (by rfl) ?_
      intro K hK
      go_simp
      have p2 : (x1.alloc (.cells #[.int .i64 (-1), .slice none 0 0, .int .i64 (-2), .slice none 0 0] 25)).heap[x1.heap.size]? = some (.cells #[.int .i64 (-1), .slice none 0 0, .int .i64 (-2), .slice none 0 0] 25 (0, 0)) := World.alloc_heap_new _ _
      have q2 : Below x1.heap.size x1 (x1.alloc (.cells #[.int .i64 (-1), .slice none 0 0, .int .i64 (-2), .slice none 0 0] 25)) := (Below.refl _ _).alloc (Nat.le_refl _) _
      have g2 := more_below g1 q2
      have u2 : Terms (fun _ => False) _ (.slice (some ⟨x1.heap.size, 0, none⟩) 2 2) ex5P.args := terms2 (t1 := .node (-1) []) (t2 := .node (-2) []) p2 id (Terms.nil _ _) (Terms.nil _ _)
      have v2 := u1.below q2
      refine hK.out _ _ (hS _ g2) ?_
      clear hK K
      clear p2 q2
      generalize x1.alloc (.cells #[.int .i64 (-1), .slice none 0 0, .int .i64 (-2), .slice none 0 0] 25) = x2 at *
      refine i_left rfl (by rfl) ?_
      intro K hK
      go_simp
      refine (fun_calls 4 _ _ _ _).mono ?_
      rintro e x3 ⟨rfl, q3⟩
      have g3 := more_below g2 q3
      have u3 := u2.below q3
      have v3 := v2.below q3
      refine hK.out _ _ (hS _ g3) ?_
      clear hK K
      clear q3
      refine i_done ?_
      refine m_mix ?_
      refine i_left rfl (by rfl) ?_
      intro K hK
      go_simp
      refine (fun_calls 4 _ _ _ _).mono ?_
      rintro e x8 ⟨rfl, q8⟩
      have g8 := more_below g3 q8
      have up8 := u3.below q8
      have ut8 := v3.below q8
      refine hK.out _ _ (hS _ g8) ?_
      clear hK K
      clear q8
      refine i_done ?_
      refine m_mix ?_
      refine i_left rfl (by rfl) ?_
      intro K hK
      go_simp
      have hma := match_calls (fun _ => False) ex5P ex5T 4 4 _ _ x8 (by decide) (by decide) (fun _ h => h.elim) ⟨rfl, up8⟩ ⟨rfl, ut8⟩
      rw [ex5_one] at hma
      refine hma.mono ?_
      rintro e x9 ⟨va, rfl, va9, q9⟩
      have g9 := more_below g8 q9
      refine hK.out _ _ (hS _ g9) ?_
      clear hK K q9 hma
      refine i_done ?_
      iterate 7 (refine m_take (v := ?_) rfl (by rfl) ?_ ?_; rotate_left; (intro w hS; obtain ⟨-, hS1, hS2, hS3, hS4, hS5, hS6⟩ := hS; go_simp; try with_reducible rfl); simp only [Act.put, List.setIfInBounds_toArray, List.set_cons_zero, List.set_cons_succ])
      exact m_done ⟨x1.heap.size, x0.heap.size, va, by simp only [Act.put, List.setIfInBounds_toArray, List.set_cons_zero, List.set_cons_succ]; try rfl, g9, va9⟩
  rintro _ x5 ⟨b1, b2, va, rfl, g5, va5⟩
  simp only [Act.put, List.setIfInBounds_toArray, List.set_cons_zero, List.set_cons_succ]
  have k1 := (g5.block _ (Array.getElem?_eq_some_iff.1 m1).1).trans m1
  have k2 := (g5.block _ (Array.getElem?_eq_some_iff.1 m2).1).trans m2
  have k3 := (g5.block _ (Array.getElem?_eq_some_iff.1 m3).1).trans m3
  have D5 := more_below C3 g5
  clear m1 m2 m3 g5
  go_wp2_with fail
  refine cut_cap (fun a0 a' w' => ∃ b3 b4 vb, a' = ((((((((((((((((a0.put (some 27) (.agg #[.int .i64 (-1), .slice none 0 0])).put (some 28) (.agg #[.int .i64 (-1), .slice none 0 0])).put (some 31) (.agg #[.int .i64 1, .slice none 0 0])).put (some 29) (.slice (some ⟨b3, 0, none⟩) 2 2)).put (some 30) (.agg #[.int .i64 4, .slice (some ⟨b3, 0, none⟩) 2 2])).put (some 32) (.agg #[.int .i64 2, .slice none 0 0])).put (some 33) (.slice (some ⟨b4, 0, none⟩) 2 2)).put (some 34) (.agg #[.int .i64 4, .slice (some ⟨b4, 0, none⟩) 2 2])).put (some 35) (.tuple #[vb, .bool false, .int .i64 0])).put (some 26) (.tuple #[vb, .bool false, .int .i64 0])).put (some 36) vb).put (some 37) (.bool false)).put (some 38) (.int .i64 0)).put (some 7) vb).put (some 8) (.bool false)).put (some 9) (.int .i64 0)) ∧ Below x5.heap.size x5 w') ?_ ?_
  · have hS : ∀ W', Below x5.heap.size x5 W' → Below x5.heap.size x5 W' ∧ W'.cell? ⟨w1.heap.size, 0, none⟩ = some (.int .i64 (-1)) ∧ W'.cell? ⟨w1.heap.size, 1, none⟩ = some (.slice none 0 0) ∧ W'.cell? ⟨w2.heap.size, 0, none⟩ = some (.int .i64 (-2)) ∧ W'.cell? ⟨w2.heap.size, 1, none⟩ = some (.slice none 0 0) ∧ W'.cell? ⟨w3.heap.size, 0, none⟩ = some (.int .i64 1) ∧ W'.cell? ⟨w3.heap.size, 1, none⟩ = some (.slice none 0 0) := fun W' hW => by
      obtain ⟨-, z10, z11, -, -⟩ := box2 ((hW.block _ (Array.getElem?_eq_some_iff.1 k1).1).trans k1)
      obtain ⟨-, z20, z21, -, -⟩ := box2 ((hW.block _ (Array.getElem?_eq_some_iff.1 k2).1).trans k2)
      obtain ⟨-, z30, z31, -, -⟩ := box2 ((hW.block _ (Array.getElem?_eq_some_iff.1 k3).1).trans k3)
      exact ⟨hW, z10, z11, z20, z21, z30, z31⟩
    refine drawn_mix (fun W' => Below x5.heap.size x5 W' ∧ W'.cell? ⟨w1.heap.size, 0, none⟩ = some (.int .i64 (-1)) ∧ W'.cell? ⟨w1.heap.size, 1, none⟩ = some (.slice none 0 0) ∧ W'.cell? ⟨w2.heap.size, 0, none⟩ = some (.int .i64 (-2)) ∧ W'.cell? ⟨w2.heap.size, 1, none⟩ = some (.slice none 0 0) ∧ W'.cell? ⟨w3.heap.size, 0, none⟩ = some (.int .i64 1) ∧ W'.cell? ⟨w3.heap.size, 1, none⟩ = some (.slice none 0 0)) [.take 0, .take 1, .take 4, .mix [2, 3, 5, 6, 7] [], .mix [8] [], .take 9, .take 10, .take 11, .take 12, .take 13, .take 14, .take 15] (by kernel_rfl) (by kernel_rfl) (by kernel_rfl) (by kernel_rfl) (fun _ _ _ _ _ h => h) (hS _ (Below.refl _ _).drew) ?_
    have g0 := (Below.refl x5.heap.size x5).drew
    generalize x5.drew = x0 at *
    iterate 3 (refine m_take (v := ?_) rfl (by rfl) ?_ ?_; rotate_left; (intro w hS; obtain ⟨-, hS1, hS2, hS3, hS4, hS5, hS6⟩ := hS; go_simp; try with_reducible rfl); simp only [Act.put, List.setIfInBounds_toArray, List.set_cons_zero, List.set_cons_succ])
    refine m_mix ?_
    refine i_left rfl (by rfl) ?_
    intro K hK
    go_simp
    have p1 : (x0.alloc (.cells #[.int .i64 (-1), .slice none 0 0, .int .i64 (-1), .slice none 0 0] 25)).heap[x0.heap.size]? = some (.cells #[.int .i64 (-1), .slice none 0 0, .int .i64 (-1), .slice none 0 0] 25 (0, 0)) := World.alloc_heap_new _ _
    have q1 : Below x0.heap.size x0 (x0.alloc (.cells #[.int .i64 (-1), .slice none 0 0, .int .i64 (-1), .slice none 0 0] 25)) := (Below.refl _ _).alloc (Nat.le_refl _) _
    have g1 := more_below g0 q1
    have u1 : Terms (fun _ => False) _ (.slice (some ⟨x0.heap.size, 0, none⟩) 2 2) ex5Q.args := terms2 (t1 := .node (-1) []) (t2 := .node (-1) []) p1 id (Terms.nil _ _) (Terms.nil _ _)
    refine hK.out _ _ (hS _ g1) ?_
    clear hK K
    clear p1 q1
    generalize x0.alloc (.cells #[.int .i64 (-1), .slice none 0 0, .int .i64 (-1), .slice none 0 0] 25) = x1 at *
    refine i_left rfl (by rfl) ?_
    intro K hK
    go_simp
    refine (fun_calls 4 _ _ _ _).mono ?_
    rintro e x2 ⟨rfl, q2⟩
    have g2 := more_below g1 q2
    have u2 := u1.below q2
    refine hK.out _ _ (hS _ g2) ?_
    clear hK K
    clear q2
    refine i_left rfl (by rfl) ?_
    intro K hK
    go_simp
    refine (fun_calls 2 none 0 0 _).mono ?_
    rintro e x3 ⟨rfl, q3⟩
    have g3 := more_below g2 q3
    have u3 := u2.below q3
    refine hK.out _ _ (hS _ g3) ?_
    clear hK K
    clear q3
    refine i_left rfl (by rfl) ?_
    intro K hK
    go_simp
    have p4 : (x3.alloc (.cells #[.int .i64 1, .slice none 0 0, .int .i64 2, .slice none 0 0] 25)).heap[x3.heap.size]? = some (.cells #[.int .i64 1, .slice none 0 0, .int .i64 2, .slice none 0 0] 25 (0, 0)) := World.alloc_heap_new _ _
    have q4 : Below x3.heap.size x3 (x3.alloc (.cells #[.int .i64 1, .slice none 0 0, .int .i64 2, .slice none 0 0] 25)) := (Below.refl _ _).alloc (Nat.le_refl _) _
    have g4 := more_below g3 q4
    have u4 : Terms (fun _ => False) _ (.slice (some ⟨x3.heap.size, 0, none⟩) 2 2) ex5U.args := terms2 (t1 := .node 1 []) (t2 := .node 2 []) p4 id (Terms.nil _ _) (Terms.nil _ _)
    have v4 := u3.below q4
    refine hK.out _ _ (hS _ g4) ?_
    clear hK K
    clear p4 q4
    generalize x3.alloc (.cells #[.int .i64 1, .slice none 0 0, .int .i64 2, .slice none 0 0] 25) = x4 at *
    refine i_left rfl (by rfl) ?_
    intro K hK
    go_simp
    refine (fun_calls 4 _ _ _ _).mono ?_
    rintro e x8 ⟨rfl, q8⟩
    have g8 := more_below g4 q8
    have up8 := v4.below q8
    have ut8 := u4.below q8
    refine hK.out _ _ (hS _ g8) ?_
    clear hK K
    clear q8
    refine i_done ?_
    refine m_mix ?_
    refine i_left rfl (by rfl) ?_
    intro K hK
    go_simp
    have hma := match_calls (fun _ => False) ex5Q ex5U 4 4 _ _ x8 (by decide) (by decide) (fun _ h => h.elim) ⟨rfl, up8⟩ ⟨rfl, ut8⟩
    rw [ex5_two] at hma
    refine hma.mono ?_
    rintro e x9 ⟨va, rfl, va9, q9⟩
    have g9 := more_below g8 q9
    refine hK.out _ _ (hS _ g9) ?_
    clear hK K q9 hma
    refine i_done ?_
    iterate 7 (refine m_take (v := ?_) rfl (by rfl) ?_ ?_; rotate_left; (intro w hS; obtain ⟨-, hS1, hS2, hS3, hS4, hS5, hS6⟩ := hS; go_simp; try with_reducible rfl); simp only [Act.put, List.setIfInBounds_toArray, List.set_cons_zero, List.set_cons_succ])
    exact m_done ⟨x0.heap.size, x3.heap.size, va, by simp only [Act.put, List.setIfInBounds_toArray, List.set_cons_zero, List.set_cons_succ]; try rfl, g9⟩
  rintro _ x6 ⟨b3, b4, vb, rfl, g6⟩
  simp only [Act.put, List.setIfInBounds_toArray, List.set_cons_zero, List.set_cons_succ]
  have n2 := (g6.block _ (Array.getElem?_eq_some_iff.1 k2).1).trans k2
  have n3 := (g6.block _ (Array.getElem?_eq_some_iff.1 k3).1).trans k3
  have D6 := more_below D5 g6
  have va6 := va5.below g6
  clear k1 k2 k3 g6 va5
  obtain ⟨-, z20, z21, -, -⟩ := box2 n2
  obtain ⟨-, z30, z31, -, -⟩ := box2 n3
  obtain ⟨aa, ca, rfl, -, -⟩ := va6.shape
  go_wp2_with fail
  have p7 : (x6.alloc (.cells #[.int .i64 0, .int .i64 (-2), .slice none 0 0, .int .i64 1, .int .i64 1, .slice none 0 0] 60)).heap[x6.heap.size]? = some (.cells #[.int .i64 0, .int .i64 (-2), .slice none 0 0, .int .i64 1, .int .i64 1, .slice none 0 0] 60 (0, 0)) := World.alloc_heap_new _ _
  have q7 : Below x6.heap.size x6 (x6.alloc (.cells #[.int .i64 0, .int .i64 (-2), .slice none 0 0, .int .i64 1, .int .i64 1, .slice none 0 0] 60)) := (Below.refl _ _).alloc (Nat.le_refl _) _
  have vb7 : Binds (fun _ => False) _ (.slice (some ⟨x6.heap.size, 0, none⟩) 2 2) ex5B := binds2 (b1 := ⟨0, .node (-2) []⟩) (b2 := ⟨1, .node 1 []⟩) p7 id (Terms.nil _ _) (Terms.nil _ _)
  have D7 := more_below D6 q7
  have va7 := va6.below q7
  generalize x6.alloc (.cells #[.int .i64 0, .int .i64 (-2), .slice none 0 0, .int .i64 1, .int .i64 1, .slice none 0 0] 60) = x7 at *
  clear p7 q7 va6 z20 z21 z30 z31 n2 n3
  refine (same3_calls ex5B (fun _ => False) (fun _ => False) _ _ x7 (by decide) va7 vb7).mono ?_
  rintro e x8 ⟨rfl, h8⟩
  go_wp2
  go_ret
  exact ⟨rfl, more_below D7 h8⟩
end Go.Proofs.Ythplndalbfcbbaa
/- SubstDoes, walked. -/
set_option linter.unusedSimpArgs false
set_option linter.unusedVariables false
namespace Go.Proofs.Ythplndalbfcbbaa
open Go.RowKit

theorem cnt3_le : ∀ (bs : List Bd) (n : Int), 0 ≤ n → n ≤ cnt3 n bs
  | [], n, _ => by simp [cnt3]
  | b :: bs, n, h => by
    simp only [cnt3]
    split
    · have := cntT_range b.t 500 (by omega)
      have := cnt3_le bs (n + cntT b.t 500) (by omega)
      omega
    · omega
theorem cnt3_sizes : ∀ (bs : List Bd) (n : Int), 0 ≤ n → cnt3 n bs ≤ 500 → ∀ b, b ∈ bs → b.t.size ≤ 500
  | [], _, _, _, _, hb => by simp at hb
  | b :: bs, n, h, hc, x, hx => by
    simp only [cnt3] at hc
    split at hc
    · have h1 := cntT_range b.t 500 (by omega)
      have h2 := cnt3_le bs (n + cntT b.t 500) (by omega)
      rcases List.mem_cons.1 hx with rfl | hx
      · have := (cntT_size x.t 500 (by omega)).2 (by omega); omega
      · exact cnt3_sizes bs _ (by omega) hc x hx
    · omega
theorem few_sizes {bs : List Bd} (h : fewBs bs = true) : ∀ b, b ∈ bs → b.t.size ≤ 500 := by
  simp only [fewBs, Bool.and_eq_true, decide_eq_true_eq] at h
  exact cnt3_sizes bs 0 (by omega) h.2
theorem endT_size {t : Tm} (h : t.size ≤ 1000000000) : (endT t).1.size ≤ 1000000000 := by
  unfold endT
  split
  · exact h
  · simp [Tm.size, Tm.sizes]
theorem applyT_size {bs : List Bd} {t : Tm} {m : Nat} (hm : 1 ≤ m) (hbm : ∀ b, b ∈ bs → b.t.size ≤ m) (ht : t.size * m ≤ 1000000000) : (applyT bs t).1.size ≤ 1000000000 := by
  unfold applyT
  split
  · exact endT_size (Nat.le_trans (putT_size bs hm hbm t) ht)
  · simp [Tm.size, Tm.sizes]
theorem shiftE_size {y : Int} {t : Tm} (ht : t.size ≤ 1000000000) : (shiftE y t).1.size ≤ 1000000000 := by
  unfold shiftE
  split
  · exact endT_size (Nat.le_trans (shiftT_size y t) ht)
  · simp [Tm.size, Tm.sizes]

set_option maxHeartbeats 4000000 in
set_option maxRecDepth 100000 in
theorem does_calls (bs : List Bd) (t : Tm) (n : Int) (h : Int) (s sb : Value) (w : World) (hrange : ∀ b, b ∈ bs → -9223372036854775808 ≤ b.v ∧ b.v ≤ 9223372036854775807)
    (hsb : Binds (fun _ => False) w sb bs) (hs : IsTm (fun _ => False) w h s t) :
    Calls Try.prog 3 #[sb, .agg #[.int .i64 h, s], .int .i64 n] w fun e w' => e = .returned (.bool true) ∧ Below w.heap.size w w' := by
  obtain ⟨rfl, a, c, rfl, hlc, hc⟩ := hs.shape
  obtain ⟨ab, cb, rfl, hlcb, hcb⟩ := hsb.shape
  go_enter Try.func3, Try.ntmps3
  have hal : Below w.heap.size w (w.alloc (.cells #[.int .i64 t.h, .slice a t.args.length c] 25)) := (Below.refl _ _).alloc (Nat.le_refl _) _
  have k0 : (w.alloc (.cells #[.int .i64 t.h, .slice a t.args.length c] 25)).heap[w.heap.size]? = some (.cells #[.int .i64 t.h, .slice a t.args.length c] 25 (0, 0)) := World.alloc_heap_new _ _
  go_wp2_with fail
  refine (few3_calls bs (fun _ => False) _ _ (hsb.below hal)).mono ?_
  rintro e w1 ⟨rfl, h1⟩
  have B1 := more_below hal h1
  have k1 := (h1.block _ (Array.getElem?_eq_some_iff.1 k0).1).trans k0
  clear h1 k0 hal
  obtain ⟨-, z0, z1, -, -⟩ := box2 k1
  cases hf : fewBs bs
  · have HF := hide hf
    clear hf
    go_wp2
    go_ret
    exact ⟨rfl, B1⟩
  have hbm := few_sizes hf
  clear hf
  go_wp2_with fail
  refine (few1_calls t (fun _ => False) _ _ _ (hs.below B1)).mono ?_
  rintro e w2 ⟨rfl, h2⟩
  have B2 := more_below B1 h2
  have k2 := (h2.block _ (Array.getElem?_eq_some_iff.1 k1).1).trans k1
  clear h2 k1 z0 z1 B1
  obtain ⟨-, z0, z1, -, -⟩ := box2 k2
  cases hf : fewB t
  · have HF := hide hf
    clear hf
    go_wp2
    go_ret
    exact ⟨rfl, B2⟩
  have hts := few_size hf
  clear hf
  have htm : t.size * 500 ≤ 1000000000 := by omega
  have hb9 : ∀ b, b ∈ bs → b.t.size ≤ 1000000000 := fun b hb => by have := hbm b hb; omega
  have HA := hide (applyT_size (by omega) hbm htm)
  have HSH := hide (shiftE_size (y := n) (t := t) (by omega))
  generalize hRa : applyT bs t = Ra at *
  obtain ⟨ra, ea⟩ := Ra
  generalize hRs : shiftE n t = Rs at *
  obtain ⟨rs, es⟩ := Rs
  go_wp2_with fail
  have hc1 := subapply_calls bs t 500 (fun _ => False) t.h (.slice a t.args.length c) (.slice ab bs.length cb) w2 (fun _ h => h.elim) hrange (by omega) hbm (by omega) htm (hsb.below B2) (hs.below B2)
  rw [hRa] at hc1
  refine hc1.mono ?_
  rintro e w3 ⟨s3', he, t3, h3⟩
  subst he
  obtain ⟨a3, c3, rfl, -, -⟩ := t3.shape
  have B3 := more_below B2 h3
  have k3 := (h3.block _ (Array.getElem?_eq_some_iff.1 k2).1).trans k2
  clear hc1 h3 k2 z0 z1 B2
  obtain ⟨L3, z0, z1, -, -⟩ := box2 k3
  go_wp2_with fail
  -- a is laid; the reference's answer
  have hal : Below w3.heap.size w3 (w3.alloc (.cells #[.int .i64 ra.h, .slice a3 ra.args.length c3] 25)) := (Below.refl _ _).alloc (Nat.le_refl _) _
  have m4 : (w3.alloc (.cells #[.int .i64 ra.h, .slice a3 ra.args.length c3] 25)).heap[w3.heap.size]? = some (.cells #[.int .i64 ra.h, .slice a3 ra.args.length c3] 25 (0, 0)) := World.alloc_heap_new _ _
  have B4 := more_below B3 hal
  have k4 := (hal.block _ L3).trans k3
  have t4 := t3.below hal
  generalize (w3.alloc (.cells #[.int .i64 ra.h, .slice a3 ra.args.length c3] 25)) = V4 at *
  clear hal k3 z0 z1 B3 t3
  have hc2 := apply3_calls bs t 500 (fun _ => False) t.h (.slice a t.args.length c) (.slice ab bs.length cb) V4 (fun _ h => h.elim) (by omega) hbm (by omega) htm (hsb.below B4) (hs.below B4)
  rw [hRa] at hc2
  refine hc2.mono ?_
  rintro e w5 ⟨s5', he, t5, h5⟩
  subst he
  obtain ⟨a5, c5, rfl, -, -⟩ := t5.shape
  have B5 := more_below B4 h5
  have k5 := (h5.block _ (Array.getElem?_eq_some_iff.1 k4).1).trans k4
  have m5 := (h5.block _ (Array.getElem?_eq_some_iff.1 m4).1).trans m4
  have t4' := t4.below h5
  clear hc2 h5 k4 m4 B4 t4
  obtain ⟨L5, z0, z1, -, -⟩ := box2 k5
  go_wp2_with fail
  have hal : Below w5.heap.size w5 (w5.alloc (.cells #[.int .i64 ra.h, .slice a5 ra.args.length c5] 25)) := (Below.refl _ _).alloc (Nat.le_refl _) _
  have m6 : (w5.alloc (.cells #[.int .i64 ra.h, .slice a5 ra.args.length c5] 25)).heap[w5.heap.size]? = some (.cells #[.int .i64 ra.h, .slice a5 ra.args.length c5] 25 (0, 0)) := World.alloc_heap_new _ _
  have B6 := more_below B5 hal
  have k6 := (hal.block _ L5).trans k5
  have m5' := (hal.block _ (Array.getElem?_eq_some_iff.1 m5).1).trans m5
  have t6 := t5.below hal
  have t4a := t4'.below hal
  generalize (w5.alloc (.cells #[.int .i64 ra.h, .slice a5 ra.args.length c5] 25)) = V6 at *
  clear hal k5 z0 z1 B5 t5 m5 t4'
  have hc3 := subshift_calls n t (fun _ => False) t.h (.slice a t.args.length c) V6 (fun _ h => h.elim) (by omega) (hs.below B6)
  rw [hRs] at hc3
  refine hc3.mono ?_
  rintro e w7 ⟨s7', he, t7, h7⟩
  subst he
  obtain ⟨a7, c7, rfl, -, -⟩ := t7.shape
  have B7 := more_below B6 h7
  have k7 := (h7.block _ (Array.getElem?_eq_some_iff.1 k6).1).trans k6
  have m5b := (h7.block _ (Array.getElem?_eq_some_iff.1 m5').1).trans m5'
  have m6b := (h7.block _ (Array.getElem?_eq_some_iff.1 m6).1).trans m6
  have t4b := t4a.below h7
  have t6b := t6.below h7
  clear hc3 h7 k6 m5' m6 B6 t4a t6
  obtain ⟨L7, z0, z1, -, -⟩ := box2 k7
  go_wp2_with fail
  have hal : Below w7.heap.size w7 (w7.alloc (.cells #[.int .i64 rs.h, .slice a7 rs.args.length c7] 25)) := (Below.refl _ _).alloc (Nat.le_refl _) _
  have m8 : (w7.alloc (.cells #[.int .i64 rs.h, .slice a7 rs.args.length c7] 25)).heap[w7.heap.size]? = some (.cells #[.int .i64 rs.h, .slice a7 rs.args.length c7] 25 (0, 0)) := World.alloc_heap_new _ _
  have B8 := more_below B7 hal
  have k8 := (hal.block _ L7).trans k7
  have m5c := (hal.block _ (Array.getElem?_eq_some_iff.1 m5b).1).trans m5b
  have m6c := (hal.block _ (Array.getElem?_eq_some_iff.1 m6b).1).trans m6b
  have t4c := t4b.below hal
  have t6c := t6b.below hal
  have t8 := t7.below hal
  generalize (w7.alloc (.cells #[.int .i64 rs.h, .slice a7 rs.args.length c7] 25)) = V8 at *
  clear hal k7 z0 z1 B7 t7 m5b m6b t4b t6b
  have hc4 := shift3_calls n t (fun _ => False) t.h (.slice a t.args.length c) V8 (fun _ h => h.elim) (by omega) (hs.below B8)
  rw [hRs] at hc4
  refine hc4.mono ?_
  rintro e w9 ⟨s9', he, t9, h9⟩
  subst he
  obtain ⟨a9, c9, rfl, -, -⟩ := t9.shape
  have B9 := more_below B8 h9
  have k9 := (h9.block _ (Array.getElem?_eq_some_iff.1 k8).1).trans k8
  have m5d := (h9.block _ (Array.getElem?_eq_some_iff.1 m5c).1).trans m5c
  have m6d := (h9.block _ (Array.getElem?_eq_some_iff.1 m6c).1).trans m6c
  have m8d := (h9.block _ (Array.getElem?_eq_some_iff.1 m8).1).trans m8
  have t4d := t4c.below h9
  have t6d := t6c.below h9
  have t8d := t8.below h9
  clear hc4 h9 k8 m5c m6c m8 B8 t4c t6c t8
  go_wp2_with fail
  have hal : Below w9.heap.size w9 (w9.alloc (.cells #[.int .i64 rs.h, .slice a9 rs.args.length c9] 25)) := (Below.refl _ _).alloc (Nat.le_refl _) _
  have m10 : (w9.alloc (.cells #[.int .i64 rs.h, .slice a9 rs.args.length c9] 25)).heap[w9.heap.size]? = some (.cells #[.int .i64 rs.h, .slice a9 rs.args.length c9] 25 (0, 0)) := World.alloc_heap_new _ _
  have B10 := more_below B9 hal
  have m5e := (hal.block _ (Array.getElem?_eq_some_iff.1 m5d).1).trans m5d
  have m6e := (hal.block _ (Array.getElem?_eq_some_iff.1 m6d).1).trans m6d
  have m8e := (hal.block _ (Array.getElem?_eq_some_iff.1 m8d).1).trans m8d
  have t4e := t4d.below hal
  have t6e := t6d.below hal
  have t8e := t8d.below hal
  have t10 := t9.below hal
  generalize (w9.alloc (.cells #[.int .i64 rs.h, .slice a9 rs.args.length c9] 25)) = V at *
  clear hal k9 B9 t9 m5d m6d m8d t4d t6d t8d
  -- what holds in each later world
  have Later : ∀ W', Below V.heap.size V W' → Below w.heap.size w W' ∧ W'.heap[w3.heap.size]? = some (.cells #[.int .i64 ra.h, .slice a3 ra.args.length c3] 25 (0, 0)) ∧ W'.heap[w5.heap.size]? = some (.cells #[.int .i64 ra.h, .slice a5 ra.args.length c5] 25 (0, 0)) ∧
      W'.heap[w7.heap.size]? = some (.cells #[.int .i64 rs.h, .slice a7 rs.args.length c7] 25 (0, 0)) ∧ W'.heap[w9.heap.size]? = some (.cells #[.int .i64 rs.h, .slice a9 rs.args.length c9] 25 (0, 0)) := fun W' hW =>
    ⟨more_below B10 hW, (hW.block _ (Array.getElem?_eq_some_iff.1 m5e).1).trans m5e, (hW.block _ (Array.getElem?_eq_some_iff.1 m6e).1).trans m6e, (hW.block _ (Array.getElem?_eq_some_iff.1 m8e).1).trans m8e, (hW.block _ (Array.getElem?_eq_some_iff.1 m10).1).trans m10⟩
  clear m5e m6e m8e m10
  refine (awake_calls _).mono ?_
  rintro e x1 ⟨rfl, h1⟩
  go_wp2_with fail
  refine (subcheck_calls bs (fun _ => False) _ _ hb9 (hsb.below (more_below B10 h1))).mono ?_
  rintro e x2 ⟨rfl, h2⟩
  have h2' := more_below h1 h2
  clear h1 h2
  go_wp2_with fail
  refine (check3_calls bs (fun _ => False) _ _ hb9 (hsb.below (more_below B10 h2'))).mono ?_
  rintro e x3 ⟨rfl, h3⟩
  have h3' := more_below h2' h3
  clear h3 h2'
  obtain ⟨C3, n1, n2, n3, n4⟩ := Later _ h3'
  obtain ⟨-, q1, q2, -, -⟩ := box2 n1
  obtain ⟨-, q3, q4, -, -⟩ := box2 n2
  clear n1 n2 n3 n4
  go_wp2_with fail
  refine (same_calls ra ra (fun _ => False) (fun _ => False) _ _ _ _ _ HA.out HA.out ⟨rfl, t4e.below h3'⟩ ⟨rfl, t6e.below h3'⟩).mono ?_
  rw [sameB_self]
  rintro e x4 ⟨rfl, h4⟩
  have h4' := more_below h3' h4
  clear h4 h3' q1 q2 q3 q4 C3
  obtain ⟨C4, n1, n2, n3, n4⟩ := Later _ h4'
  obtain ⟨-, q1, q2, -, -⟩ := box2 n3
  obtain ⟨-, q3, q4, -, -⟩ := box2 n4
  clear n1 n2 n3 n4
  go_wp2_with fail
  refine (same_calls rs rs (fun _ => False) (fun _ => False) _ _ _ _ _ HSH.out HSH.out ⟨rfl, t8e.below h4'⟩ ⟨rfl, t10.below h4'⟩).mono ?_
  rw [sameB_self]
  rintro e x5 ⟨rfl, h5⟩
  have h5' := more_below h4' h5
  have C5 := more_below B10 h5'
  clear h5 h4' q1 q2 q3 q4 C4 Later
  by_cases hn0 : n < 0
  · go_wp2
    go_ret
    exact ⟨rfl, C5⟩
  by_cases hn1 : 1000 < n
  · go_wp2
    go_ret
    exact ⟨rfl, C5⟩
  have hofs := ofBs_size (m := 500) n (by omega) bs hbm
  have HOF := hide hofs
  clear hofs
  go_wp2_with fail
  refine (subof_calls bs n (fun _ => False) _ _ (by omega) (by omega) (fun _ h => h.elim) hrange (hsb.below C5)).mono ?_
  rintro e x6 ⟨s6', rfl, t11, h6⟩
  obtain ⟨a11, c11, rfl, -, -⟩ := t11.shape
  have C6 := more_below C5 h6
  clear h6
  go_wp2_with fail
  refine (of3_calls bs n (fun _ => False) _ _ (by omega) (by omega) (hsb.below C6)).mono ?_
  rintro e x7 ⟨s7'', rfl, t12, h7⟩
  obtain ⟨a12, c12, rfl, -, -⟩ := t12.shape
  have C7 := more_below C6 h7
  have t11' := t11.below h7
  clear h7 t11
  go_wp2_with fail
  refine (same_calls (ofBs n bs) (ofBs n bs) (fun _ => False) (fun _ => False) _ _ _ _ _ (by have := HOF.out; omega) (by have := HOF.out; omega) ⟨rfl, t11'⟩ ⟨rfl, t12⟩).mono ?_
  rw [sameB_self]
  rintro e x8 ⟨rfl, h8⟩
  have C8 := more_below C7 h8
  clear h8 C7
  go_wp2
  go_ret
  exact ⟨rfl, C8⟩
end Go.Proofs.Ythplndalbfcbbaa
/- MatchBehind, walked. -/
set_option linter.unusedSimpArgs false
set_option linter.unusedVariables false
namespace Go.Proofs.Ythplndalbfcbbaa
open Go.RowKit

theorem match_iff {p t : Tm} {l : List Bd} {x : Bool} (h : matchT [p] [t] = (l, x, 0)) : rightB p = true ∧ rightB t = true ∧ (x = true ↔ ∃ σ, Makes σ p t) := by
  rw [matchT] at h
  split at h
  · rename_i hc
    have hp : rightB p = true := by simpa using hc.2.1
    have ht : rightB t = true := by simpa using hc.2.2
    refine ⟨hp, ht, ?_⟩
    split at h
    · rename_i f hf
      simp only [Prod.mk.injEq] at h
      exact ⟨fun _ => ⟨f, makesL_one.1 (gather_gathered (show [p].length = [t].length from rfl) hf).makes⟩, fun _ => h.2.1.symm⟩
    · rename_i hf
      simp only [Prod.mk.injEq] at h
      refine ⟨fun hx => ?_, fun ⟨σ, hm⟩ => absurd (makesL_one.2 hm) (gather_none (show [p].length = [t].length from rfl) hf σ)⟩
      rw [← h.2.1] at hx; cases hx
  · simp only [Prod.mk.injEq] at h
    exact absurd h.2.2 (by decide)
theorem match_calls' {p t : Tm} {h1 h2 : Int} {s1 s2 : Value} {w : World} {l : List Bd} {x : Bool} {e : Int} (he : matchT [p] [t] = (l, x, e)) (hp9 : p.size ≤ 1000000000) (ht9 : t.size ≤ 1000000000) (hp : IsTm (fun _ => False) w h1 s1 p) (ht : IsTm (fun _ => False) w h2 s2 t) :
    Calls Try.prog 46 #[.agg #[.int .i64 h1, s1], .agg #[.int .i64 h2, s2]] w fun e' w' => (∃ v, e' = .returned (.tuple #[v, .bool x, .int .i64 e]) ∧ Binds (fun _ => False) w' v l) ∧ Below w.heap.size w w' := by
  have h := match_calls (fun _ => False) p t h1 h2 s1 s2 w hp9 ht9 (fun _ h => h.elim) hp ht
  rw [he] at h
  refine h.mono ?_
  rintro e' w' ⟨v, h1, h2, h3⟩
  exact ⟨⟨v, h1, h2⟩, h3⟩
theorem behind_law {a b c : Tm} {l1 l2 l3 l4 : List Bd} {x y z w : Bool} (h1 : matchT [a] [b] = (l1, x, 0)) (h2 : matchT [b] [c] = (l2, y, 0)) (h3 : matchT [a] [c] = (l3, z, 0)) (h4 : matchT [a] [a] = (l4, w, 0)) : w = true ∧ (x = true → y = true → z = true) := by
  have i1 := match_iff h1
  have i2 := match_iff h2
  have i3 := match_iff h3
  have i4 := match_iff h4
  refine ⟨i4.2.2.2 ⟨_, makes_self a (chk_good i1.1)⟩, fun hx hy => ?_⟩
  obtain ⟨σ, hs⟩ := i1.2.2.1 hx
  obtain ⟨τ, ht⟩ := i2.2.2.1 hy
  exact i3.2.2.2 (makes_trans hs ht)

set_option maxHeartbeats 8000000 in
set_option maxRecDepth 100000 in
theorem behind_calls (a b c : Tm) (h1 h2 h3 : Int) (s1 s2 s3 : Value) (w : World) (ha : IsTm (fun _ => False) w h1 s1 a) (hb : IsTm (fun _ => False) w h2 s2 b) (hc : IsTm (fun _ => False) w h3 s3 c) :
    Calls Try.prog 6 #[.agg #[.int .i64 h1, s1], .agg #[.int .i64 h2, s2], .agg #[.int .i64 h3, s3]] w fun e w' => e = .returned (.bool true) ∧ Below w.heap.size w w' := by
  obtain ⟨rfl, a1, c1, rfl, -, -⟩ := ha.shape
  obtain ⟨rfl, a2, c2, rfl, -, -⟩ := hb.shape
  obtain ⟨rfl, a3, c3, rfl, -, -⟩ := hc.shape
  go_enter Try.func6, Try.ntmps6
  go_wp2_with fail
  have bV : Below w.heap.size w (((w.alloc (.cells #[.int .i64 a.h, .slice a1 a.args.length c1] 25)).alloc (.cells #[.int .i64 b.h, .slice a2 b.args.length c2] 25)).alloc (.cells #[.int .i64 c.h, .slice a3 c.args.length c3] 25)) := ((((Below.refl _ _).alloc (Nat.le_refl _) _).alloc (by simp only [World.size_alloc]; omega) _).alloc (by simp only [World.size_alloc]; omega) _)
  have m0 : (((w.alloc (.cells #[.int .i64 a.h, .slice a1 a.args.length c1] 25)).alloc (.cells #[.int .i64 b.h, .slice a2 b.args.length c2] 25)).alloc (.cells #[.int .i64 c.h, .slice a3 c.args.length c3] 25)).heap[w.heap.size]? = some (.cells #[.int .i64 a.h, .slice a1 a.args.length c1] 25 (0, 0)) := by
    have h := World.alloc_heap_new w (.cells #[.int .i64 a.h, .slice a1 a.args.length c1] 25)
    try simp only [World.size_alloc] at h
    have h := (Below.heap_alloc (w.alloc (.cells #[.int .i64 a.h, .slice a1 a.args.length c1] 25)) (.cells #[.int .i64 b.h, .slice a2 b.args.length c2] 25) (w.heap.size) (by simp only [World.size_alloc]; omega)).trans h
    have h := (Below.heap_alloc ((w.alloc (.cells #[.int .i64 a.h, .slice a1 a.args.length c1] 25)).alloc (.cells #[.int .i64 b.h, .slice a2 b.args.length c2] 25)) (.cells #[.int .i64 c.h, .slice a3 c.args.length c3] 25) (w.heap.size) (by simp only [World.size_alloc]; omega)).trans h
    exact h
  have m1 : (((w.alloc (.cells #[.int .i64 a.h, .slice a1 a.args.length c1] 25)).alloc (.cells #[.int .i64 b.h, .slice a2 b.args.length c2] 25)).alloc (.cells #[.int .i64 c.h, .slice a3 c.args.length c3] 25)).heap[w.heap.size + 1]? = some (.cells #[.int .i64 b.h, .slice a2 b.args.length c2] 25 (0, 0)) := by
    have h := World.alloc_heap_new (w.alloc (.cells #[.int .i64 a.h, .slice a1 a.args.length c1] 25)) (.cells #[.int .i64 b.h, .slice a2 b.args.length c2] 25)
    try simp only [World.size_alloc] at h
    have h := (Below.heap_alloc ((w.alloc (.cells #[.int .i64 a.h, .slice a1 a.args.length c1] 25)).alloc (.cells #[.int .i64 b.h, .slice a2 b.args.length c2] 25)) (.cells #[.int .i64 c.h, .slice a3 c.args.length c3] 25) (w.heap.size + 1) (by simp only [World.size_alloc]; omega)).trans h
    exact h
  have m2 : (((w.alloc (.cells #[.int .i64 a.h, .slice a1 a.args.length c1] 25)).alloc (.cells #[.int .i64 b.h, .slice a2 b.args.length c2] 25)).alloc (.cells #[.int .i64 c.h, .slice a3 c.args.length c3] 25)).heap[w.heap.size + 1 + 1]? = some (.cells #[.int .i64 c.h, .slice a3 c.args.length c3] 25 (0, 0)) := by
    have h := World.alloc_heap_new ((w.alloc (.cells #[.int .i64 a.h, .slice a1 a.args.length c1] 25)).alloc (.cells #[.int .i64 b.h, .slice a2 b.args.length c2] 25)) (.cells #[.int .i64 c.h, .slice a3 c.args.length c3] 25)
    try simp only [World.size_alloc] at h
    exact h
  generalize (((w.alloc (.cells #[.int .i64 a.h, .slice a1 a.args.length c1] 25)).alloc (.cells #[.int .i64 b.h, .slice a2 b.args.length c2] 25)).alloc (.cells #[.int .i64 c.h, .slice a3 c.args.length c3] 25)) = V at *
  have g0 := Below.refl V.heap.size V
  have hS := hide (show ∀ W', Below V.heap.size V W' → W'.cell? ⟨w.heap.size, 0, none⟩ = some (.int .i64 a.h) ∧ W'.cell? ⟨w.heap.size, 1, none⟩ = some (.slice a1 a.args.length c1) ∧ W'.cell? ⟨w.heap.size + 1, 0, none⟩ = some (.int .i64 b.h) ∧ W'.cell? ⟨w.heap.size + 1, 1, none⟩ = some (.slice a2 b.args.length c2) ∧ W'.cell? ⟨w.heap.size + 1 + 1, 0, none⟩ = some (.int .i64 c.h) ∧ W'.cell? ⟨w.heap.size + 1 + 1, 1, none⟩ = some (.slice a3 c.args.length c3) from fun W' hW => by
    obtain ⟨-, z00, z01, -, -⟩ := box2 ((hW.block _ (Array.getElem?_eq_some_iff.1 m0).1).trans m0)
    obtain ⟨-, z10, z11, -, -⟩ := box2 ((hW.block _ (Array.getElem?_eq_some_iff.1 m1).1).trans m1)
    obtain ⟨-, z20, z21, -, -⟩ := box2 ((hW.block _ (Array.getElem?_eq_some_iff.1 m2).1).trans m2)
    exact ⟨z00, z01, z10, z11, z20, z21⟩)
  clear m0 m1 m2
  have ta := ha.below bV
  have tb := hb.below bV
  have tc := hc.below bV
  obtain ⟨z00, z01, z10, z11, z20, z21⟩ := hS.out _ g0
  refine (few1_calls a (fun _ => False) _ _ _ (ta.below g0)).mono ?_
  rintro e w1 ⟨rfl, h1⟩
  have g1 := more_below g0 h1
  clear h1 g0 z00 z01 z10 z11 z20 z21
  obtain ⟨z00, z01, z10, z11, z20, z21⟩ := hS.out _ g1
  cases hf1 : fewB a
  · have HF := hide hf1
    clear hf1
    go_wp2
    go_ret
    exact ⟨rfl, more_below bV g1⟩
  have F1 := hide (Nat.le_trans (few_size hf1) (by omega : 500 ≤ 1000000000))
  clear hf1
  go_wp2_with fail
  refine (few1_calls b (fun _ => False) _ _ _ (tb.below g1)).mono ?_
  rintro e w2 ⟨rfl, h2⟩
  have g2 := more_below g1 h2
  clear h2 g1 z00 z01 z10 z11 z20 z21
  obtain ⟨z00, z01, z10, z11, z20, z21⟩ := hS.out _ g2
  cases hf2 : fewB b
  · have HF := hide hf2
    clear hf2
    go_wp2
    go_ret
    exact ⟨rfl, more_below bV g2⟩
  have F2 := hide (Nat.le_trans (few_size hf2) (by omega : 500 ≤ 1000000000))
  clear hf2
  go_wp2_with fail
  refine (few1_calls c (fun _ => False) _ _ _ (tc.below g2)).mono ?_
  rintro e w3 ⟨rfl, h3⟩
  have g3 := more_below g2 h3
  clear h3 g2 z00 z01 z10 z11 z20 z21
  obtain ⟨z00, z01, z10, z11, z20, z21⟩ := hS.out _ g3
  cases hf3 : fewB c
  · have HF := hide hf3
    clear hf3
    go_wp2
    go_ret
    exact ⟨rfl, more_below bV g3⟩
  have F3 := hide (Nat.le_trans (few_size hf3) (by omega : 500 ≤ 1000000000))
  clear hf3
  rcases hr1 : matchT [a] [b] with ⟨l1, x1, e1⟩
  have R1 := hide hr1
  clear hr1
  go_wp2_with fail
  refine (match_calls' R1.out F1.out F2.out (ta.below g3) (tb.below g3)).mono ?_
  rintro e w4 ⟨⟨v1, rfl, -⟩, h4⟩
  have g4 := more_below g3 h4
  clear h4 g3 z00 z01 z10 z11 z20 z21
  obtain ⟨z00, z01, z10, z11, z20, z21⟩ := hS.out _ g4
  rcases hr2 : matchT [b] [c] with ⟨l2, x2, e2⟩
  have R2 := hide hr2
  clear hr2
  go_wp2_with fail
  refine (match_calls' R2.out F2.out F3.out (tb.below g4) (tc.below g4)).mono ?_
  rintro e w5 ⟨⟨v2, rfl, -⟩, h5⟩
  have g5 := more_below g4 h5
  clear h5 g4 z00 z01 z10 z11 z20 z21
  obtain ⟨z00, z01, z10, z11, z20, z21⟩ := hS.out _ g5
  rcases hr3 : matchT [a] [c] with ⟨l3, x3, e3⟩
  have R3 := hide hr3
  clear hr3
  go_wp2_with fail
  refine (match_calls' R3.out F1.out F3.out (ta.below g5) (tc.below g5)).mono ?_
  rintro e w6 ⟨⟨v3, rfl, -⟩, h6⟩
  have g6 := more_below g5 h6
  clear h6 g5 z00 z01 z10 z11 z20 z21
  obtain ⟨z00, z01, z10, z11, z20, z21⟩ := hS.out _ g6
  rcases hr4 : matchT [a] [a] with ⟨l4, x4, e4⟩
  have R4 := hide hr4
  clear hr4
  go_wp2_with fail
  refine (match_calls' R4.out F1.out F1.out (ta.below g6) (ta.below g6)).mono ?_
  rintro e w7 ⟨⟨v4, rfl, -⟩, h7⟩
  have g7 := more_below g6 h7
  clear h7 g6 z00 z01 z10 z11 z20 z21
  obtain ⟨z00, z01, z10, z11, z20, z21⟩ := hS.out _ g7
  clear z00 z01 z10 z11 z20 z21
  by_cases hz1 : e1 = 0
  rotate_left
  · have hne : (e1 != 0) = true := by simpa using hz1
    clear hz1
    go_wp2_with fail
    refine (awake5_calls _).mono ?_
    rintro e x1 ⟨rfl, k1⟩
    go_wp2
    go_ret
    exact ⟨rfl, more_below bV (more_below g7 k1)⟩
  subst hz1
  by_cases hz2 : e2 = 0
  rotate_left
  · have hne : (e2 != 0) = true := by simpa using hz2
    clear hz2
    go_wp2_with fail
    refine (awake5_calls _).mono ?_
    rintro e x1 ⟨rfl, k1⟩
    go_wp2
    go_ret
    exact ⟨rfl, more_below bV (more_below g7 k1)⟩
  subst hz2
  by_cases hz3 : e3 = 0
  rotate_left
  · have hne : (e3 != 0) = true := by simpa using hz3
    clear hz3
    go_wp2_with fail
    refine (awake5_calls _).mono ?_
    rintro e x1 ⟨rfl, k1⟩
    go_wp2
    go_ret
    exact ⟨rfl, more_below bV (more_below g7 k1)⟩
  subst hz3
  by_cases hz4 : e4 = 0
  rotate_left
  · have hne : (e4 != 0) = true := by simpa using hz4
    clear hz4
    go_wp2_with fail
    refine (awake5_calls _).mono ?_
    rintro e x1 ⟨rfl, k1⟩
    go_wp2
    go_ret
    exact ⟨rfl, more_below bV (more_below g7 k1)⟩
  subst hz4
  have hlaw := behind_law R1.out R2.out R3.out R4.out
  obtain ⟨rfl, hl⟩ := hlaw
  go_wp2_with fail
  refine (awake5_calls _).mono ?_
  rintro e y1 ⟨rfl, k1⟩
  have B9 := more_below bV (more_below g7 k1)
  clear k1
  cases x1
  · clear hl
    go_wp2
    go_ret
    exact ⟨rfl, B9⟩
  cases x2
  · clear hl
    go_wp2
    go_ret
    exact ⟨rfl, B9⟩
  obtain rfl := hl rfl rfl
  go_wp2
  go_ret
  exact ⟨rfl, B9⟩
end Go.Proofs.Ythplndalbfcbbaa
/- SubstThen, walked. -/
set_option linter.unusedSimpArgs false
set_option linter.unusedVariables false
namespace Go.Proofs.Ythplndalbfcbbaa
open Go.RowKit

theorem end_small (t : Tm) : (endT t).1.size ≤ 400 := by
  unfold endT
  split
  · rename_i h; exact right_size h
  · simp [Tm.size, Tm.sizes]
theorem apply_small (bs : List Bd) (t : Tm) : (applyT bs t).1.size ≤ 400 := by
  unfold applyT
  split
  · exact end_small _
  · simp [Tm.size, Tm.sizes]
theorem then_small (s u : List Bd) : ∀ b, b ∈ (thenT s u).1 → b.t.size ≤ 400 ∧ 0 ≤ b.v ∧ b.v ≤ 255 := by
  intro b hb
  unfold thenT at hb
  split at hb
  · unfold thenP at hb
    split at hb
    · rename_i h0
      simp only [bothL, List.mem_map, List.mem_filter] at hb
      obtain ⟨v, ⟨h1, h2⟩, rfl⟩ := hb
      have := mem_upto.1 h1
      exact ⟨right_size (thenE_zero h0 v h1), by simp only; omega, by simp only; omega⟩
    · simp at hb
  · simp at hb
theorem then_length (s u : List Bd) : (thenT s u).1.length ≤ 256 := by
  unfold thenT
  split
  · unfold thenP
    split
    · have := bothL_length s u (upto 256)
      have h2 : (upto 256).length = 256 := by simp [upto]
      simp only; omega
    · simp
  · simp
theorem few_length {bs : List Bd} (h : fewBs bs = true) : bs.length ≤ 10 := by
  simp only [fewBs, Bool.and_eq_true, decide_eq_true_eq] at h
  exact h.1

set_option maxHeartbeats 8000000 in
set_option maxRecDepth 100000 in
theorem then_calls (ss us : List Bd) (t : Tm) (h : Int) (s sb ub : Value) (w : World) (hr1 : ∀ b, b ∈ ss → -9223372036854775808 ≤ b.v ∧ b.v ≤ 9223372036854775807) (hr2 : ∀ b, b ∈ us → -9223372036854775808 ≤ b.v ∧ b.v ≤ 9223372036854775807)
    (hsb : Binds (fun _ => False) w sb ss) (hub : Binds (fun _ => False) w ub us) (hs : IsTm (fun _ => False) w h s t) :
    Calls Try.prog 8 #[sb, ub, .agg #[.int .i64 h, s]] w fun e w' => e = .returned (.bool true) ∧ Below w.heap.size w w' := by
  obtain ⟨rfl, a, c, rfl, hlc, hc⟩ := hs.shape
  obtain ⟨a1, d1, rfl, hd1, hd1'⟩ := hsb.shape
  obtain ⟨a2, d2, rfl, hd2, hd2'⟩ := hub.shape
  have HR1 := hide hr1
  have HR2 := hide hr2
  clear hr1 hr2
  go_enter Try.func8, Try.ntmps8
  have B0 : Below w.heap.size w (w.alloc (.cells #[.int .i64 t.h, .slice a t.args.length c] 25)) := (Below.refl _ _).alloc (Nat.le_refl _) _
  have k0 : (w.alloc (.cells #[.int .i64 t.h, .slice a t.args.length c] 25)).heap[w.heap.size]? = some (.cells #[.int .i64 t.h, .slice a t.args.length c] 25 (0, 0)) := World.alloc_heap_new _ _
  go_wp2_with fail
  refine (few3_calls ss (fun _ => False) _ _ (hsb.below B0)).mono ?_
  rintro e w1 ⟨rfl, h1⟩
  have B1 := more_below B0 h1
  have k1 := (h1.block _ (Array.getElem?_eq_some_iff.1 k0).1).trans k0
  clear h1 k0 B0
  obtain ⟨L1, z0, z1, -, -⟩ := box2 k1
  cases hf1 : fewBs ss
  · have HF := hide hf1
    clear hf1
    go_wp2
    go_ret
    exact ⟨rfl, B1⟩
  have HM1 := hide (few_sizes hf1)
  have HL1 := hide (few_length hf1)
  clear hf1
  go_wp2_with fail
  refine (few3_calls us (fun _ => False) _ _ (hub.below B1)).mono ?_
  rintro e w2 ⟨rfl, h2⟩
  have B2 := more_below B1 h2
  have k2 := (h2.block _ L1).trans k1
  clear h2 k1 B1 z0 z1 L1
  obtain ⟨L2, z0, z1, -, -⟩ := box2 k2
  cases hf2 : fewBs us
  · have HF := hide hf2
    clear hf2
    go_wp2
    go_ret
    exact ⟨rfl, B2⟩
  have HM2 := hide (few_sizes hf2)
  have HL2 := hide (few_length hf2)
  clear hf2
  go_wp2_with fail
  refine (few1_calls t (fun _ => False) _ _ _ (hs.below B2)).mono ?_
  rintro e w3 ⟨rfl, h3⟩
  have B3 := more_below B2 h3
  have k3 := (h3.block _ L2).trans k2
  clear h3 k2 B2 z0 z1 L2
  obtain ⟨L3, z0, z1, -, -⟩ := box2 k3
  cases hf3 : fewB t
  · have HF := hide hf3
    clear hf3
    go_wp2
    go_ret
    exact ⟨rfl, B3⟩
  have hts := few_size hf3
  clear hf3
  have HTA := hide (then_apply (s := ss) (u := us) (t := t))
  have HTS := hide (then_small ss us)
  have HTL := hide (then_length ss us)
  have HAS := hide (apply_small ss t)
  go_wp2_with fail
  have hc1 := subthen_calls ss us 500 (.slice a1 ss.length d1) (.slice a2 us.length d2) w3 HR1.out HR2.out (by omega) (by omega) (by omega) HM1.out HM2.out (by have := HL1.out; omega) (by have := HL2.out; omega) (hsb.below B3) (hub.below B3)
  generalize hRt : thenT ss us = Rt at *
  obtain ⟨bb, ee⟩ := Rt
  refine hc1.mono ?_
  rintro e w4 ⟨vb, rfl, hbb, h4⟩
  obtain ⟨a3, d3, rfl, hd3, hd3'⟩ := hbb.shape
  have B4 := more_below B3 h4
  have k4 := (h4.block _ L3).trans k3
  clear hc1 h4 k3 B3 z0 z1 L3
  obtain ⟨L4, z0, z1, -, -⟩ := box2 k4
  go_wp2_with fail
  have hc2 := subapply_calls ss t 500 (fun _ => False) t.h (.slice a t.args.length c) (.slice a1 ss.length d1) w4 (fun _ h => h.elim) HR1.out (by omega) HM1.out (by omega) (by omega) (hsb.below B4) (hs.below B4)
  generalize hRa : applyT ss t = Ra at *
  obtain ⟨ra, ea⟩ := Ra
  refine hc2.mono ?_
  rintro e w5 ⟨s5, rfl, t5, h5⟩
  obtain ⟨a4, c4, rfl, -, -⟩ := t5.shape
  have B5 := more_below B4 h5
  have k5 := (h5.block _ L4).trans k4
  have b5 := hbb.below h5
  clear hc2 h5 k4 B4 z0 z1 L4 hbb
  obtain ⟨L5, z0, z1, -, -⟩ := box2 k5
  go_wp2_with fail
  have hal : Below w5.heap.size w5 (w5.alloc (.cells #[.int .i64 ra.h, .slice a4 ra.args.length c4] 25)) := (Below.refl _ _).alloc (Nat.le_refl _) _
  have m6 : (w5.alloc (.cells #[.int .i64 ra.h, .slice a4 ra.args.length c4] 25)).heap[w5.heap.size]? = some (.cells #[.int .i64 ra.h, .slice a4 ra.args.length c4] 25 (0, 0)) := World.alloc_heap_new _ _
  have B6 := more_below B5 hal
  have k6 := (hal.block _ L5).trans k5
  have t6 := t5.below hal
  have b6 := b5.below hal
  generalize (w5.alloc (.cells #[.int .i64 ra.h, .slice a4 ra.args.length c4] 25)) = V6 at *
  clear hal k5 B5 t5 b5 z0 z1
  obtain ⟨L6, z0, z1, -, -⟩ := box2 k6
  have hc3 := subapply_calls us ra 500 (fun _ => False) ra.h (.slice a4 ra.args.length c4) (.slice a2 us.length d2) V6 (fun _ h => h.elim) HR2.out (by omega) HM2.out (by omega) (by have h9 : ra.size ≤ 400 := HAS.out; omega) (hub.below B6) ⟨rfl, t6⟩
  generalize hRb : applyT us ra = Rb at *
  obtain ⟨rb, eb⟩ := Rb
  refine hc3.mono ?_
  rintro e w7 ⟨s7, rfl, t7, h7⟩
  obtain ⟨a5, c5, rfl, -, -⟩ := t7.shape
  have B7 := more_below B6 h7
  have k7 := (h7.block _ L6).trans k6
  have b7 := b6.below h7
  clear hc3 h7 k6 B6 t6 b6 m6 z0 z1 L6
  obtain ⟨L7, z0, z1, -, -⟩ := box2 k7
  go_wp2_with fail
  have hal : Below w7.heap.size w7 (w7.alloc (.cells #[.int .i64 rb.h, .slice a5 rb.args.length c5] 25)) := (Below.refl _ _).alloc (Nat.le_refl _) _
  have m8 : (w7.alloc (.cells #[.int .i64 rb.h, .slice a5 rb.args.length c5] 25)).heap[w7.heap.size]? = some (.cells #[.int .i64 rb.h, .slice a5 rb.args.length c5] 25 (0, 0)) := World.alloc_heap_new _ _
  have B8 := more_below B7 hal
  have k8 := (hal.block _ L7).trans k7
  have t8 := t7.below hal
  have b8 := b7.below hal
  generalize (w7.alloc (.cells #[.int .i64 rb.h, .slice a5 rb.args.length c5] 25)) = V8 at *
  clear hal k7 B7 t7 b7 z0 z1
  have hc4 := subapply_calls bb t 500 (fun _ => False) t.h (.slice a t.args.length c) (.slice a3 bb.length d3) V8 (fun _ h => h.elim) (fun b hb => by have := HTS.out b hb; omega) (by omega) (fun b hb => by have := (HTS.out b hb).1; omega) (by omega) (by omega) b8 (hs.below B8)
  generalize hRc : applyT bb t = Rc at *
  obtain ⟨rc, ec⟩ := Rc
  refine hc4.mono ?_
  rintro e w9 ⟨s9, rfl, t9, h9⟩
  obtain ⟨a6, c6, rfl, -, -⟩ := t9.shape
  have B9 := more_below B8 h9
  have m9 := (h9.block _ (Array.getElem?_eq_some_iff.1 m8).1).trans m8
  have t8' := t8.below h9
  have b9 := b8.below h9
  clear hc4 h9 k8 m8 B8 t8 b8
  have hal : Below w9.heap.size w9 (w9.alloc (.cells #[.int .i64 rc.h, .slice a6 rc.args.length c6] 25)) := (Below.refl _ _).alloc (Nat.le_refl _) _
  have n10 : (w9.alloc (.cells #[.int .i64 rc.h, .slice a6 rc.args.length c6] 25)).heap[w9.heap.size]? = some (.cells #[.int .i64 rc.h, .slice a6 rc.args.length c6] 25 (0, 0)) := World.alloc_heap_new _ _
  have B10 := more_below B9 hal
  have m10 := (hal.block _ (Array.getElem?_eq_some_iff.1 m9).1).trans m9
  have t10 := t8'.below hal
  have u10 := t9.below hal
  have b10 := b9.below hal
  by_cases hee : ee = 0
  rotate_left
  · have hne : (ee != 0) = true := by simpa using hee
    clear hee HTA HTS HTL HAS hRt hRa hRb hRc B9 m9 t8' t9 b9
    go_wp2_with fail
    generalize (w9.alloc (.cells #[.int .i64 rc.h, .slice a6 rc.args.length c6] 25)) = V at *
    refine (awake_calls _).mono ?_
    rintro e x1 ⟨rfl, h1⟩
    go_wp2
    go_ret
    exact ⟨rfl, more_below B10 h1⟩
  subst hee
  by_cases hea : ea = 0
  rotate_left
  · have hne : (ea != 0) = true := by simpa using hea
    clear hea HTA HTS HTL HAS hRt hRa hRb hRc B9 m9 t8' t9 b9
    go_wp2_with fail
    generalize (w9.alloc (.cells #[.int .i64 rc.h, .slice a6 rc.args.length c6] 25)) = V at *
    refine (awake_calls _).mono ?_
    rintro e x1 ⟨rfl, h1⟩
    go_wp2
    go_ret
    exact ⟨rfl, more_below B10 h1⟩
  subst hea
  have hE : (rb, eb) = (rc, ec) := (HTA.out rfl rfl).1
  have hR : rightBs bb = true := (HTA.out rfl rfl).2
  simp only [Prod.mk.injEq] at hE
  obtain ⟨h6, h7⟩ := hE
  subst h6 h7
  have HR := hide hR
  have hsz : rb.size ≤ 400 := by have := apply_small us ra; rw [hRb] at this; exact this
  have HCK := hide (show check3 bb = 0 by rw [check3, if_pos hR])
  have HBS := hide (fun b hb => Nat.le_trans ((HTS.out b hb).1) (by omega : 400 ≤ 1000000000))
  by_cases heb : eb = 0
  rotate_left
  · have hne : (eb != 0) = true := by simpa using heb
    clear heb HTA HTS HTL HAS hRt hRa hRb hRc B9 m9 t8' t9 b9 hR
    go_wp2_with fail
    generalize (w9.alloc (.cells #[.int .i64 rb.h, .slice a6 rb.args.length c6] 25)) = V at *
    refine (awake_calls _).mono ?_
    rintro e x1 ⟨rfl, h1⟩
    go_wp2
    go_ret
    exact ⟨rfl, more_below B10 h1⟩
  subst heb
  clear HTA HTS HTL HAS hRt hRa hRb hRc B9 m9 t8' t9 b9 hR
  go_wp2_with fail
  generalize (w9.alloc (.cells #[.int .i64 rb.h, .slice a6 rb.args.length c6] 25)) = V at *
  refine (awake_calls _).mono ?_
  rintro e x1 ⟨rfl, h1⟩
  have C1 := more_below B10 h1
  obtain ⟨-, z0, z1, -, -⟩ := box2 ((h1.block _ (Array.getElem?_eq_some_iff.1 m10).1).trans m10)
  obtain ⟨-, y0, y1, -, -⟩ := box2 ((h1.block _ (Array.getElem?_eq_some_iff.1 n10).1).trans n10)
  have t11 := t10.below h1
  have u11 := u10.below h1
  have b11 := b10.below h1
  clear h1 B10 m10 n10 t10 u10 b10
  go_wp2_with fail
  refine (same_calls rb rb (fun _ => False) (fun _ => False) _ _ _ _ _ (by omega) (by omega) ⟨rfl, t11⟩ ⟨rfl, u11⟩).mono ?_
  rw [sameB_self]
  rintro e x2 ⟨rfl, h2⟩
  have C2 := more_below C1 h2
  have b12 := b11.below h2
  clear h2 C1 t11 u11 b11 z0 z1 y0 y1
  go_wp2_with fail
  refine (subcheck_calls bb (fun _ => False) _ _ HBS.out b12).mono ?_
  rw [HCK.out]
  rintro e x3 ⟨rfl, h3⟩
  have C3 := more_below C2 h3
  go_wp2
  go_ret
  exact ⟨rfl, C3⟩
end Go.Proofs.Ythplndalbfcbbaa
/- The document's answer for Then: Both, Then. -/
set_option linter.unusedSimpArgs false
set_option linter.unusedVariables false
namespace Go.Proofs.Ythplndalbfcbbaa
open Go.RowKit

theorem bothL_upto (s u : List Bd) (k : Nat) : bothL s u (upto (k + 1)) = bothL s u (upto k) ++ if movesB s u k = true then [⟨(k : Int), bothT s u k⟩] else [] := by
  rw [upto_succ, bothL, List.filter_append, List.map_append, ← bothL]
  congr 1
  by_cases hm : movesB s u k = true
  · rw [if_pos hm]; simp [hm]
  · rw [if_neg hm]; simp [hm]
theorem upto_length (k : Nat) : (upto k).length = k := by simp [upto]

set_option maxHeartbeats 8000000 in
set_option maxRecDepth 100000 in
theorem both3_calls (ss us : List Bd) (m : Nat) (sb ub : Value) (w : World) (hs : rightBs ss = true) (hu : rightBs us = true) (hm : 1 ≤ m) (hm2 : m * m ≤ 1000000000)
    (hb1 : ∀ b, b ∈ ss → b.t.size ≤ m) (hb2 : ∀ b, b ∈ us → b.t.size ≤ m) (hsb : Binds (fun _ => False) w sb ss) (hub : Binds (fun _ => False) w ub us) :
    Calls Try.prog 106 #[sb, ub] w fun e w' => ∃ v, e = .returned v ∧ Binds (fun _ => False) w' v (bothL ss us (upto 256)) ∧ Below w.heap.size w w' := by
  obtain ⟨a1, d1, rfl, hc1, hc1'⟩ := hsb.shape
  obtain ⟨a2, d2, rfl, hc2, hc2'⟩ := hub.shape
  have HRS := hide hs
  have HRU := hide hu
  have HC1 := hide hb1
  have HC2 := hide hb2
  clear hs hu hb1 hb2
  go_enter Try.func106, Try.ntmps106
  go_wp2
  go_loopw [5, 6] (fun v i wr => ∃ k : Nat, k ≤ 256 ∧ i = .int .i64 k ∧ Below w.heap.size w wr ∧ OwnD (fun _ => False) wr w.heap.size 60 3 v ((bothL ss us (upto k)).map Bd.d)) (fun _ i _ => 256 - (intOf i).toNat)
  case atStart => exact ⟨0, by omega, rfl, Below.refl _ _, by simpa [bothL, upto] using OwnD.nil _ _ _ _ _⟩
  case round =>
    obtain ⟨k, hk, rfl, hB, hO⟩ := hrel
    by_cases hlt : k < 256
    · have hle : (k : Int) ≤ 255 := by omega
      have hk0 : (0 : Int) ≤ k := by omega
      have hw1 : IntKind.i64.wrap (-1 - (k : Int)) = -1 - k := IntWalk.i64_in _ (by omega)
      have HO := hide hO
      have HBS := hide (bothL_upto ss us k)
      have HMV := hide (show movesB ss us k = ((bothT ss us k).h != -1 - (k : Int)) from rfl)
      have HXG := hide (ofBs_good HRS.out hk0 hle)
      have HXS := hide (ofBs_size (k : Int) hm ss HC1.out)
      have HBT := hide (show bothT ss us k = putT us (ofBs k ss) from rfl)
      have hol := HO.out.lt
      have hssA : Binds (fun b => u5.ownBlock = some b) wr (.slice a1 ss.length d1) ss := RepD.frame (fun b _ hlt => hB.block b hlt) (fun b hb h => by have := (hol b h).1; omega) _ _ hsb
      have huuA : Binds (fun b => u5.ownBlock = some b) wr (.slice a2 us.length d2) us := RepD.frame (fun b _ hlt => hB.block b hlt) (fun b hb h => by have := (hol b h).1; omega) _ _ hub
      clear hO
      go_wp2_with fail
      refine (of3_calls ss k (fun b => u5.ownBlock = some b) _ wr hk0 (by omega) hssA).mono ?_
      rintro e w9 ⟨s9, rfl, t9, h9⟩
      generalize hx : ofBs (k : Int) ss = x at *
      have HX := hide hx
      clear hx
      obtain ⟨a9, c9, rfl, -, -⟩ := t9.shape
      have B9 := hB.trans (h9.mono hB.size)
      go_wp2_with fail
      have hp := put_calls us _ x (fun b => u5.ownBlock = some b) x.h (.slice a9 x.args.length c9) (.slice a2 us.length d2) w9 (Nat.le_refl _) (fun b h => Nat.lt_of_lt_of_le (hol b h).2 h9.size) HXG.out (huuA.below h9) ⟨rfl, t9⟩
      refine hp.mono ?_
      rintro e w10 ⟨s10, rfl, t10, h10⟩
      clear hp
      have hys : (putT us x).size ≤ 1000000000 := Nat.le_trans (putT_size us hm HC2.out x) (Nat.le_trans (Nat.mul_le_mul_right m HXS.out) hm2)
      rw [← HBT.out] at hys t10
      rw [← HBT.out]
      generalize hy : bothT ss us (k : Int) = y at *
      have HY := hide hy
      clear hy HBT
      obtain ⟨a10, c10, rfl, -, -⟩ := t10.shape
      have B10 := B9.trans (h10.mono B9.size)
      have O10 := (HO.out.below h9).below h10
      clear h9 h10 t9 hB HO B9 hssA huuA
      have kV : (w10.alloc (.cells #[.int .i64 y.h, .slice a10 y.args.length c10] 25)).heap[w10.heap.size]? = some (.cells #[.int .i64 y.h, .slice a10 y.args.length c10] 25 (0, 0)) := World.alloc_heap_new _ _
      have hal : Below w10.heap.size w10 (w10.alloc (.cells #[.int .i64 y.h, .slice a10 y.args.length c10] 25)) := (Below.refl _ _).alloc (Nat.le_refl _) _
      have hsz10 := B10.size
      by_cases hmv : y.h = -1 - (k : Int)
      · have HNM := hide (show bothL ss us (upto (k + 1)) = bothL ss us (upto k) by rw [HBS.out, if_neg (by rw [HMV.out]; simpa using hmv), List.append_nil])
        have l1 : y.h ≤ -1 - (k : Int) := by omega
        have l2 : -1 - (k : Int) ≤ y.h := by omega
        have O12 := O10.below hal
        have B12 := B10.trans (hal.mono hsz10)
        have hd : (y.h != -1 - (k : Int)) = false := by simpa using hmv
        clear hmv HBS HMV
        obtain ⟨-, z0, z1, -, -⟩ := box2 kV
        go_wp2
        go_roundw
        case rel => exact ⟨k + 1, by omega, by go_num, B12, by rw [HNM.out]; exact O12⟩
        case measure => simp [intOf]; omega
      · have HNM := hide (show bothL ss us (upto (k + 1)) = bothL ss us (upto k) ++ [⟨(k : Int), y⟩] by rw [HBS.out, if_pos (by rw [HMV.out]; simpa using hmv)])
        have hal2 : Below w10.heap.size w10 ((w10.alloc (.cells #[.int .i64 y.h, .slice a10 y.args.length c10] 25)).alloc (.cells #[.int .i64 (k : Int), .int .i64 y.h, .slice a10 y.args.length c10] 60)) := hal.alloc hal.size _
        have kb : ((w10.alloc (.cells #[.int .i64 y.h, .slice a10 y.args.length c10] 25)).alloc (.cells #[.int .i64 (k : Int), .int .i64 y.h, .slice a10 y.args.length c10] 60)).heap[w10.heap.size + 1]? = some (.cells #[.int .i64 (k : Int), .int .i64 y.h, .slice a10 y.args.length c10] 60 (0, 0)) := by
          have h := World.alloc_heap_new (w10.alloc (.cells #[.int .i64 y.h, .slice a10 y.args.length c10] 25)) (.cells #[.int .i64 (k : Int), .int .i64 y.h, .slice a10 y.args.length c10] 60)
          rw [World.size_alloc] at h
          exact h
        have O12 := O10.below hal2
        have hlt12 := O10.lt
        have HD := hide (show RepD (fun b => False ∨ u5.ownBlock = some b) ((w10.alloc (.cells #[.int .i64 y.h, .slice a10 y.args.length c10] 25)).alloc (.cells #[.int .i64 (k : Int), .int .i64 y.h, .slice a10 y.args.length c10] 60)) (.row 3 (([⟨(k : Int), y⟩] : List Bd).map Bd.d)) [.slice (some ⟨w10.heap.size + 1, 0, none⟩) 1 1] from
          binds1 (b1 := ⟨(k : Int), y⟩) kb (fun h => by
            rcases h with h | h
            · exact h
            · have := hlt12 _ h; omega) (RepD.frame (fun b _ hlt => hal2.block b hlt) (fun b hb h => by
            rcases h with h | h
            · exact h.elim
            · exact h) _ _ t10))
        have HO12 := hide O12
        have B12 := B10.trans (hal2.mono hsz10)
        have hbl := bothL_length ss us (upto k)
        rw [upto_length] at hbl
        have hbase : w.heap.size ≤ ((w10.alloc (.cells #[.int .i64 y.h, .slice a10 y.args.length c10] 25)).alloc (.cells #[.int .i64 (k : Int), .int .i64 y.h, .slice a10 y.args.length c10] 60)).heap.size := Nat.le_trans hsz10 hal2.size
        have HBASE := hide hbase
        have hd : (y.h != -1 - (k : Int)) = true := by simpa using hmv
        have HB12 := hide B12
        clear HBS HMV O12 B12 hbase hal hal2 hlt12 kb
        obtain ⟨-, z0, z1, -, -⟩ := box2 kV
        go_wp2_with (at_builtin; refine app_all_pl rfl (.tmp 22) (.tmp 26) 22 rfl w.heap.size 60 (.agg #[.int .i64 0, .int .i64 0, .slice none 0 0]) 3 40 Try.underlying22 (by kernel_rfl) rfl (by decide) (v := u5) (xv := .slice (some ⟨w10.heap.size + 1, 0, none⟩) 1 1) rfl rfl HO12.out HD.out (fun d hd => by obtain ⟨z, -, rfl⟩ := List.mem_map.1 hd; exact Bd.oneD z) (by simp [maxLen]; omega) (by simp; omega) HBASE.out ?_; intro v' w' o' kp ob hsh)
        go_roundw
        case rel =>
          refine ⟨k + 1, by omega, by go_num, HB12.out.trans (kp.below (fun b hb h => by have := (HO12.out.lt b h).1; omega) HBASE.out), ?_⟩
          rw [HNM.out, List.map_append]; exact o'
        case measure => simp [intOf]; omega
    · obtain rfl : k = 256 := by omega
      have hR : Binds (fun _ => False) wr u5 (bothL ss us (upto 256)) := hO.rep (fun _ h => h.elim)
      obtain ⟨ar, cr, rfl, -, -⟩ := hR.shape
      clear hO hlt hk
      go_wp2
      go_ret
      exact ⟨_, rfl, hR, hB⟩
end Go.Proofs.Ythplndalbfcbbaa
