/- What the proof of the law rests on: contracts of the functions, plain laws, and words. -/
import Derived.Test.YthplndalbfcbbaaKMatchUnifiesG6
import Derived.Test.YthplndalbfcbbaaKMatchUnifiesG4
set_option linter.unusedSimpArgs false
set_option linter.unusedVariables false
namespace Go.Proofs.Ythplndalbfcbbaa
open Go.RowKit
def GivesM (A : Nat → Prop) (w : World) (r : List Bd × Bool × Int) (e : Ending) (w' : World) : Prop :=
  ∃ v, e = .returned (.tuple #[v, .bool r.2.1, .int .i64 r.2.2]) ∧ Binds A w' v r.1 ∧ Below w.heap.size w w'
theorem sizes_one (t : Tm) : Tm.sizes [t] = t.size := by simp [Tm.sizes]
set_option maxHeartbeats 4000000 in
set_option maxRecDepth 100000 in
theorem match_calls (A : Nat → Prop) (p t : Tm) (h1 h2 : Int) (s1 s2 : Value) (w : World) (hp9 : p.size ≤ 1000000000) (ht9 : t.size ≤ 1000000000) (hA : ∀ b, A b → b < w.heap.size) (hp : IsTm A w h1 s1 p) (ht : IsTm A w h2 s2 t) :
    Calls Try.prog 46 #[.agg #[.int .i64 h1, s1], .agg #[.int .i64 h2, s2]] w fun e w' => GivesM A w (matchT [p] [t]) e w' := by
  obtain ⟨rfl, a1, c1, rfl, -, -⟩ := hp.shape
  obtain ⟨rfl, a2, c2, rfl, -, -⟩ := ht.shape
  have HAO := hide hA
  go_enter Try.func46, Try.ntmps46
  go_wp2_with fail
  have b2 : Below w.heap.size w ((w.alloc (.cells #[.int .i64 p.h, .slice a1 p.args.length c1] 25)).alloc (.cells #[.int .i64 t.h, .slice a2 t.args.length c2] 25)) := ((Below.refl _ _).alloc (Nat.le_refl _) _).alloc (by rw [World.size_alloc]; omega) _
  have e2 : ((w.alloc (.cells #[.int .i64 p.h, .slice a1 p.args.length c1] 25)).alloc (.cells #[.int .i64 t.h, .slice a2 t.args.length c2] 25)).heap.size = w.heap.size + 1 + 1 := by rw [World.size_alloc, World.size_alloc]
  generalize (w.alloc (.cells #[.int .i64 p.h, .slice a1 p.args.length c1] 25)).alloc (.cells #[.int .i64 t.h, .slice a2 t.args.length c2] 25) = W2 at *
  have p2 := hp.below b2
  have t2 := ht.below b2
  have k3 : (W2.alloc (.cells #[.int .i64 p.h, .slice a1 p.args.length c1] 25)).heap[W2.heap.size]? = some (.cells #[.int .i64 p.h, .slice a1 p.args.length c1] 25 (0, 0)) := World.alloc_heap_new _ _
  have b3 : Below W2.heap.size W2 (W2.alloc (.cells #[.int .i64 p.h, .slice a1 p.args.length c1] 25)) := (Below.refl _ _).alloc (Nat.le_refl _) _
  have p3 := terms1 (A := A) (t := p) k3 (fun h => by have := HAO.out _ h; omega) (p2.below b3).2
  have t3 := t2.below b3
  have B3 := more_below b2 b3
  have e3 : (W2.alloc (.cells #[.int .i64 p.h, .slice a1 p.args.length c1] 25)).heap.size = w.heap.size + 1 + 1 + 1 := by rw [World.size_alloc, e2]
  rw [e2] at p3
  generalize W2.alloc (.cells #[.int .i64 p.h, .slice a1 p.args.length c1] 25) = W3 at *
  have k4 : (W3.alloc (.cells #[.int .i64 t.h, .slice a2 t.args.length c2] 25)).heap[W3.heap.size]? = some (.cells #[.int .i64 t.h, .slice a2 t.args.length c2] 25 (0, 0)) := World.alloc_heap_new _ _
  have b4 : Below W3.heap.size W3 (W3.alloc (.cells #[.int .i64 t.h, .slice a2 t.args.length c2] 25)) := (Below.refl _ _).alloc (Nat.le_refl _) _
  have t4 := terms1 (A := A) (t := t) k4 (fun h => by have := HAO.out _ h; omega) (t3.below b4).2
  have p4 := p3.below b4
  have B4 := more_below B3 b4
  rw [e3] at t4
  generalize W3.alloc (.cells #[.int .i64 t.h, .slice a2 t.args.length c2] 25) = W4 at *
  clear e2 e3 k3 k4 b2 b3 b4 p2 t2 p3 t3 B3
  refine (matchall_calls A [p] [t] _ _ W4 (by rw [sizes_one]; exact hp9) (by rw [sizes_one]; exact ht9) (fun b h => Nat.lt_of_lt_of_le (HAO.out b h) B4.size) p4 t4).mono ?_
  rintro e w5 ⟨v, rfl, hv, h5⟩
  have B5 := more_below B4 h5
  go_wp2
  exact bodyPost_ret (v := .tuple #[v, .bool (matchT [p] [t]).2.1, .int .i64 (matchT [p] [t]).2.2]) (by simp [results, Try.results46, go_sem]) rfl ⟨v, rfl, hv, B5⟩
end Go.Proofs.Ythplndalbfcbbaa
set_option linter.unusedSimpArgs false
set_option linter.unusedVariables false
namespace Go.Proofs.Ythplndalbfcbbaa
open Go.RowKit
inductive Stm where
  | take (i : Nat)
  | mix (l m : List Nat)
def lenM : List Stm → Nat
  | [] => 0
  | .take _ :: is => lenM is + 1
  | .mix l m :: is => l.length + m.length + lenM is
section
variable {P : Program} {ops : Array Oper} {Q : Exit → Act → World → Prop} {S : World → Prop}
def okI (md : Region.Mode) (ops : Array Oper) (lf : Array Bool) : Nat → List Nat → List Nat → Array Bool → Bool
  | _, [], [], l => l == lf
  | n + 1, i :: is, [], l => (Region.ready md ops l == [i]) && okI md ops lf n is [] (l.setIfInBounds i true)
  | n + 1, [], j :: js, l => (Region.ready md ops l == [j]) && okI md ops lf n [] js (l.setIfInBounds j true)
  | n + 1, i :: is, j :: js, l => (Region.ready md ops l == [i, j] || Region.ready md ops l == [j, i]) && okI md ops lf n is (j :: js) (l.setIfInBounds i true) && okI md ops lf n (i :: is) js (l.setIfInBounds j true)
  | 0, _, _, _ => false
def SeqI (P : Program) (ops : Array Oper) (Q : Exit → Act → World → Prop) (S : World → Prop) (K : Act → World → Prop) : Nat → List Nat → List Nat → Act → World → Prop
  | _, [], [], a, w => K a w
  | n + 1, i :: is, [], a, w => wpOp P ops Q i (fun a' w' => S w' ∧ SeqI P ops Q S K n is [] a' w') a w
  | n + 1, [], j :: js, a, w => wpOp P ops Q j (fun a' w' => S w' ∧ SeqI P ops Q S K n [] js a' w') a w
  | n + 1, i :: is, j :: js, a, w => wpOp P ops Q i (fun a' w' => S w' ∧ SeqI P ops Q S K n is (j :: js) a' w') a w ∧ wpOp P ops Q j (fun a' w' => S w' ∧ SeqI P ops Q S K n (i :: is) js a' w') a w
  | 0, _, _, _, _ => False
def SeqM (P : Program) (ops : Array Oper) (Q : Exit → Act → World → Prop) (S : World → Prop) : List Stm → Act → World → Prop
  | [], a, w => Q .normal a w
  | .take i :: is, a, w => ∃ o v, ops[i]? = some o ∧ YieldsIf P ops S o v a ∧ SeqM P ops Q S is (a.put o.dst v) w
  | .mix l m :: is, a, w => SeqI P ops Q S (SeqM P ops Q S is) (l.length + m.length) l m a w
def markM : List Nat → Array Bool → Array Bool
  | [], l => l
  | i :: is, l => markM is (l.setIfInBounds i true)
def okM (md : Region.Mode) (ops : Array Oper) : List Stm → Array Bool → Bool
  | [], l => (Region.ready md ops l).isEmpty
  | .take i :: is, l => ((Region.ready md ops l).contains i && Region.free md ops l i) && okM md ops is (l.setIfInBounds i true)
  | .mix l1 l2 :: is, l => okI md ops (markM (l1 ++ l2) l) (l1.length + l2.length) l1 l2 l && okM md ops is (markM (l1 ++ l2) l)
theorem anyH_of_inter {md : Region.Mode} {lf : Array Bool} {K : Act → World → Prop} {m : Nat} (hK : ∀ a w, S w → K a w → wpAnyH P md ops Q S m lf a w) :
    ∀ (n : Nat) (l1 l2 : List Nat) (l : Array Bool) (a : Act) (w : World), okI md ops lf n l1 l2 l = true → S w → SeqI P ops Q S K n l1 l2 a w → wpAnyH P md ops Q S (l1.length + l2.length + m) l a w
  | 0, [], [], l, a, w, h, hS, hs => by
    simp only [okI, beq_iff_eq] at h
    subst h
    simpa using hK a w hS (by simpa only [SeqI] using hs)
  | n + 1, [], [], l, a, w, h, hS, hs => by
    simp only [okI, beq_iff_eq] at h
    subst h
    simpa using hK a w hS (by simpa only [SeqI] using hs)
  | 0, i :: is, l2, l, a, w, h, hS, hs => by cases l2 <;> simp [okI] at h
  | 0, [], j :: js, l, a, w, h, hS, hs => by simp [okI] at h
  | n + 1, i :: is, [], l, a, w, h, hS, hs => by
    simp only [okI, Bool.and_eq_true, beq_iff_eq] at h
    simp only [SeqI] at hs
    rw [show (i :: is).length + ([] : List Nat).length + m = (is.length + ([] : List Nat).length + m) + 1 by simp; omega]
    refine wpAnyH_all h.1 (by simp) fun j hj => ?_
    simp only [List.mem_singleton] at hj
    subst hj
    exact wpOp_mono (fun a' w' h' => ⟨h'.1, anyH_of_inter hK n is [] _ a' w' h.2 h'.1 h'.2⟩) hs
  | n + 1, [], j :: js, l, a, w, h, hS, hs => by
    simp only [okI, Bool.and_eq_true, beq_iff_eq] at h
    simp only [SeqI] at hs
    rw [show ([] : List Nat).length + (j :: js).length + m = (([] : List Nat).length + js.length + m) + 1 by simp; omega]
    refine wpAnyH_all h.1 (by simp) fun k hk => ?_
    simp only [List.mem_singleton] at hk
    subst hk
    exact wpOp_mono (fun a' w' h' => ⟨h'.1, anyH_of_inter hK n [] js _ a' w' h.2 h'.1 h'.2⟩) hs
  | n + 1, i :: is, j :: js, l, a, w, h, hS, hs => by
    simp only [okI, Bool.and_eq_true, Bool.or_eq_true, beq_iff_eq] at h
    simp only [SeqI] at hs
    have goL : wpOp P ops Q i (fun a' w' => S w' ∧ wpAnyH P md ops Q S (is.length + (j :: js).length + m) (l.setIfInBounds i true) a' w') a w :=
      wpOp_mono (fun a' w' h' => ⟨h'.1, anyH_of_inter hK n is (j :: js) _ a' w' h.1.2 h'.1 h'.2⟩) hs.1
    have goR : wpOp P ops Q j (fun a' w' => S w' ∧ wpAnyH P md ops Q S (is.length + (j :: js).length + m) (l.setIfInBounds j true) a' w') a w := by
      refine wpOp_mono (fun a' w' h' => ⟨h'.1, ?_⟩) hs.2
      have := anyH_of_inter hK n (i :: is) js _ a' w' h.2 h'.1 h'.2
      rwa [show is.length + (j :: js).length + m = (i :: is).length + js.length + m by simp; omega]
    rw [show (i :: is).length + (j :: js).length + m = (is.length + (j :: js).length + m) + 1 by simp; omega]
    rcases h.1.1 with h1 | h1
    · refine wpAnyH_all h1 (by simp) fun k hk => ?_
      simp only [List.mem_cons, List.not_mem_nil, or_false] at hk
      rcases hk with rfl | rfl
      · exact goL
      · exact goR
    · refine wpAnyH_all h1 (by simp) fun k hk => ?_
      simp only [List.mem_cons, List.not_mem_nil, or_false] at hk
      rcases hk with rfl | rfl
      · exact goR
      · exact goL
theorem anyH_of_seqM {md : Region.Mode} (hsel : Region.noSelect ops = true) (hQ : ∀ c t v a w, Q (.panic c) (a.put (some t) v) w → Q (.panic c) a w) :
    ∀ (order : List Stm) (l : Array Bool) (a : Act) (w : World), okM md ops order l = true → S w → SeqM P ops Q S order a w → wpAnyH P md ops Q S (lenM order) l a w
  | [], l, a, w, h, _, hs => by
    have h' : Region.ready md ops l = [] := by simpa [okM] using h
    exact wpAnyH_done h' hs 0
  | .mix l1 l2 :: is, l, a, w, h, hS, hs => by
    simp only [okM, Bool.and_eq_true] at h
    exact anyH_of_inter (fun a w hS' hs' => anyH_of_seqM hsel hQ is _ a w h.2 hS' hs') _ l1 l2 l a w h.1 hS hs
  | .take i :: is, l, a, w, h, hS, ⟨o, v, ho, hy, hs⟩ => by
    simp only [okM, Bool.and_eq_true] at h
    exact wpAnyH_take ho hsel h.1.2 h.1.1 (fun c a w h9 => by
      cases hd : o.dst with
      | none => rw [hd] at h9; exact h9
      | some t => rw [hd] at h9; exact hQ c t v a w h9) hy hS (anyH_of_seqM hsel hQ is _ _ w h.2 hS hs)
theorem drawn_mix {id : Nat} {a : Act} {w : World} (S : World → Prop) (order : List Stm) (hm : P.follows .mixedOrders = true) (hn : (lenM order == ops.size) = true) (hsel : Region.noSelect ops = true)
    (hok : okM .any ops order (Array.replicate ops.size false) = true) (hQ : ∀ c t v a w, Q (.panic c) (a.put (some t) v) w → Q (.panic c) a w) (hS : S w.drew) (h : SeqM P ops Q S order a w.drew) : (Code.region id ops true).wp P Q a w := by
  refine wp_region_held (S := S) hm ?_
  have := anyH_of_seqM hsel hQ order _ a w.drew hok hS h
  rw [beq_iff_eq.1 hn] at this
  exact this
variable {os : List Oper} {i j n : Nat} {l1 l2 : List Nat} {is : List Stm} {o o2 : Oper} {v : Value} {a : Act} {w : World} {K : Act → World → Prop}
theorem m_take (ho : os[i]? = some o) (hw : Region.wanted o (yielded os.toArray a.tmps) = true) (hv : ∀ w, S w → (execOp a.eval o).run P w = .ok (.value v) w) (h : SeqM P os.toArray Q S is (a.put o.dst v) w) : SeqM P os.toArray Q S (.take i :: is) a w :=
  ⟨o, v, by simpa using ho, .inl ⟨hw, hv⟩, h⟩
theorem m_mix (h : SeqI P os.toArray Q S (SeqM P os.toArray Q S is) (l1.length + l2.length) l1 l2 a w) : SeqM P os.toArray Q S (.mix l1 l2 :: is) a w := h
theorem m_done (h : Q .normal a w) : SeqM P os.toArray Q S [] a w := h
theorem i_done (h : K a w) : SeqI P os.toArray Q S K n [] [] a w := by cases n <;> simpa only [SeqI] using h
theorem i_left (ho : os[i]? = some o) (hw : Region.wanted o (yielded os.toArray a.tmps) = true)
    (h : ∀ K' : Act → World → Prop, Hid (∀ a w, S w → SeqI P os.toArray Q S K n l1 [] a w → K' a w) → Oper.wp P o a w K' Q) : SeqI P os.toArray Q S K (n + 1) (i :: l1) [] a w := by
  simp only [SeqI]
  exact wpOp_step (ops := os.toArray) (o := o) (by simpa using ho) fun K' hK => by rw [if_pos hw]; exact h K' (hide fun a w h1 h2 => hK a w ⟨h1, h2⟩)
theorem i_right (ho : os[j]? = some o) (hw : Region.wanted o (yielded os.toArray a.tmps) = true)
    (h : ∀ K' : Act → World → Prop, Hid (∀ a w, S w → SeqI P os.toArray Q S K n [] l2 a w → K' a w) → Oper.wp P o a w K' Q) : SeqI P os.toArray Q S K (n + 1) [] (j :: l2) a w := by
  simp only [SeqI]
  exact wpOp_step (ops := os.toArray) (o := o) (by simpa using ho) fun K' hK => by rw [if_pos hw]; exact h K' (hide fun a w h1 h2 => hK a w ⟨h1, h2⟩)
theorem i_both (ho : os[i]? = some o) (ho2 : os[j]? = some o2) (hw : Region.wanted o (yielded os.toArray a.tmps) = true) (hw2 : Region.wanted o2 (yielded os.toArray a.tmps) = true)
    (h : ∀ K' : Act → World → Prop, Hid (∀ a w, S w → SeqI P os.toArray Q S K n l1 (j :: l2) a w → K' a w) → Oper.wp P o a w K' Q)
    (h2 : ∀ K' : Act → World → Prop, Hid (∀ a w, S w → SeqI P os.toArray Q S K n (i :: l1) l2 a w → K' a w) → Oper.wp P o2 a w K' Q) : SeqI P os.toArray Q S K (n + 1) (i :: l1) (j :: l2) a w := by
  simp only [SeqI]
  exact ⟨wpOp_step (ops := os.toArray) (o := o) (by simpa using ho) fun K' hK => by rw [if_pos hw]; exact h K' (hide fun a w h1 h2 => hK a w ⟨h1, h2⟩),
    wpOp_step (ops := os.toArray) (o := o2) (by simpa using ho2) fun K' hK => by rw [if_pos hw2]; exact h2 K' (hide fun a w h1 h2 => hK a w ⟨h1, h2⟩)⟩
end
end Go.Proofs.Ythplndalbfcbbaa
set_option linter.unusedSimpArgs false
set_option linter.unusedVariables false
namespace Go.Proofs.Ythplndalbfcbbaa
open Go.RowKit
def ex5P : Tm := .node 4 [.node (-1) [], .node (-2) []]
def ex5T : Tm := .node 4 [.node (-2) [], .node 1 []]
def ex5Q : Tm := .node 4 [.node (-1) [], .node (-1) []]
def ex5U : Tm := .node 4 [.node 1 [], .node 2 []]
def ex5B : List Bd := [⟨0, .node (-2) []⟩, ⟨1, .node 1 []⟩]
theorem ex5_one : matchT [ex5P] [ex5T] = (ex5B, true, 0) := by kernel_rfl
theorem ex5_two : matchT [ex5Q] [ex5U] = ([], false, 0) := by kernel_rfl
set_option maxHeartbeats 4000000 in
set_option maxRecDepth 100000 in
theorem awake5_calls (w : World) : Calls Try.prog 44 #[] w fun e w' => e = .returned (.bool true) ∧ Below w.heap.size w w' := by
  go_enter Try.func44, Try.ntmps44
  go_wp2_with fail
  refine (var_calls 0 (by omega) (by omega) _).mono ?_
  rintro e w1 ⟨rfl, h1⟩
  have B1 := h1
  go_wp2_with fail
  have H1 : Below w1.heap.size w1 (w1.alloc (.cells #[.int .i64 (-1), .slice none 0 0] 25)) := (Below.refl _ _).alloc (Nat.le_refl _) _
  have m11 : (w1.alloc (.cells #[.int .i64 (-1), .slice none 0 0] 25)).heap[w1.heap.size]? = some (.cells #[.int .i64 (-1), .slice none 0 0] 25 (0, 0)) := World.alloc_heap_new _ _
  have C1 := more_below B1 H1
  clear H1 B1 
  generalize w1.alloc (.cells #[.int .i64 (-1), .slice none 0 0] 25) = V1 at *
  refine (var_calls 1 (by omega) (by omega) _).mono ?_
  rintro e w2 ⟨rfl, h2⟩
  have B2 := more_below C1 h2
  have k21 := (h2.block _ (Array.getElem?_eq_some_iff.1 m11).1).trans m11
  clear h2 C1 m11
  go_wp2_with fail
  have H2 : Below w2.heap.size w2 (w2.alloc (.cells #[.int .i64 (-2), .slice none 0 0] 25)) := (Below.refl _ _).alloc (Nat.le_refl _) _
  have m22 : (w2.alloc (.cells #[.int .i64 (-2), .slice none 0 0] 25)).heap[w2.heap.size]? = some (.cells #[.int .i64 (-2), .slice none 0 0] 25 (0, 0)) := World.alloc_heap_new _ _
  have m21 := (H2.block _ (Array.getElem?_eq_some_iff.1 k21).1).trans k21
  have C2 := more_below B2 H2
  clear H2 B2 k21
  generalize w2.alloc (.cells #[.int .i64 (-2), .slice none 0 0] 25) = V2 at *
  refine (fun_calls 1 none 0 0 _).mono ?_
  rintro e w3 ⟨rfl, h3⟩
  have B3 := more_below C2 h3
  have k31 := (h3.block _ (Array.getElem?_eq_some_iff.1 m21).1).trans m21
  have k32 := (h3.block _ (Array.getElem?_eq_some_iff.1 m22).1).trans m22
  clear h3 C2 m21 m22
  go_wp2_with fail
  have H3 : Below w3.heap.size w3 (w3.alloc (.cells #[.int .i64 1, .slice none 0 0] 25)) := (Below.refl _ _).alloc (Nat.le_refl _) _
  have m33 : (w3.alloc (.cells #[.int .i64 1, .slice none 0 0] 25)).heap[w3.heap.size]? = some (.cells #[.int .i64 1, .slice none 0 0] 25 (0, 0)) := World.alloc_heap_new _ _
  have m31 := (H3.block _ (Array.getElem?_eq_some_iff.1 k31).1).trans k31
  have m32 := (H3.block _ (Array.getElem?_eq_some_iff.1 k32).1).trans k32
  have C3 := more_below B3 H3
  clear H3 B3 k31 k32
  generalize w3.alloc (.cells #[.int .i64 1, .slice none 0 0] 25) = V3 at *
  have m1 := m31
  have m2 := m32
  have m3 := m33
  clear m31 m32 m33
  refine cut_cap (fun a0 a' w' => ∃ b1 b2 va, a' = ((((((((((((((((a0.put (some 14) (.agg #[.int .i64 (-1), .slice none 0 0])).put (some 15) (.agg #[.int .i64 (-2), .slice none 0 0])).put (some 18) (.agg #[.int .i64 (-2), .slice none 0 0])).put (some 19) (.agg #[.int .i64 1, .slice none 0 0])).put (some 16) (.slice (some ⟨b1, 0, none⟩) 2 2)).put (some 17) (.agg #[.int .i64 4, .slice (some ⟨b1, 0, none⟩) 2 2])).put (some 20) (.slice (some ⟨b2, 0, none⟩) 2 2)).put (some 21) (.agg #[.int .i64 4, .slice (some ⟨b2, 0, none⟩) 2 2])).put (some 22) (.tuple #[va, .bool true, .int .i64 0])).put (some 13) (.tuple #[va, .bool true, .int .i64 0])).put (some 23) va).put (some 24) (.bool true)).put (some 25) (.int .i64 0)).put (some 4) va).put (some 5) (.bool true)).put (some 6) (.int .i64 0)) ∧ Below V3.heap.size V3 w' ∧ Binds (fun _ => False) w' va ex5B) ?_ ?_
  · have hS : ∀ W', Below V3.heap.size V3 W' → Below V3.heap.size V3 W' ∧ W'.cell? ⟨w1.heap.size, 0, none⟩ = some (.int .i64 (-1)) ∧ W'.cell? ⟨w1.heap.size, 1, none⟩ = some (.slice none 0 0) ∧ W'.cell? ⟨w2.heap.size, 0, none⟩ = some (.int .i64 (-2)) ∧ W'.cell? ⟨w2.heap.size, 1, none⟩ = some (.slice none 0 0) ∧ W'.cell? ⟨w3.heap.size, 0, none⟩ = some (.int .i64 1) ∧ W'.cell? ⟨w3.heap.size, 1, none⟩ = some (.slice none 0 0) := fun W' hW => by
      obtain ⟨-, z10, z11, -, -⟩ := box2 ((hW.block _ (Array.getElem?_eq_some_iff.1 m1).1).trans m1)
      obtain ⟨-, z20, z21, -, -⟩ := box2 ((hW.block _ (Array.getElem?_eq_some_iff.1 m2).1).trans m2)
      obtain ⟨-, z30, z31, -, -⟩ := box2 ((hW.block _ (Array.getElem?_eq_some_iff.1 m3).1).trans m3)
      exact ⟨hW, z10, z11, z20, z21, z30, z31⟩
    refine drawn_mix (fun W' => Below V3.heap.size V3 W' ∧ W'.cell? ⟨w1.heap.size, 0, none⟩ = some (.int .i64 (-1)) ∧ W'.cell? ⟨w1.heap.size, 1, none⟩ = some (.slice none 0 0) ∧ W'.cell? ⟨w2.heap.size, 0, none⟩ = some (.int .i64 (-2)) ∧ W'.cell? ⟨w2.heap.size, 1, none⟩ = some (.slice none 0 0) ∧ W'.cell? ⟨w3.heap.size, 0, none⟩ = some (.int .i64 1) ∧ W'.cell? ⟨w3.heap.size, 1, none⟩ = some (.slice none 0 0)) [.take 0, .take 1, .take 4, .take 5, .mix [2, 3] [6], .mix [7] [], .mix [8] [], .take 9, .take 10, .take 11, .take 12, .take 13, .take 14, .take 15] (by kernel_rfl) (by kernel_rfl) (by kernel_rfl) (by kernel_rfl) (fun _ _ _ _ _ h => h) (hS _ (Below.refl _ _).drew) ?_
    have g0 := (Below.refl V3.heap.size V3).drew
    generalize V3.drew = x0 at *
    iterate 4 (refine m_take (v := ?_) rfl (by rfl) ?_ ?_; rotate_left; (intro w hS; obtain ⟨-, hS1, hS2, hS3, hS4, hS5, hS6⟩ := hS; go_simp; try with_reducible rfl); simp only [Act.put, List.setIfInBounds_toArray, List.set_cons_zero, List.set_cons_succ])
    refine m_mix ?_
    refine i_both rfl rfl (by rfl) (by rfl) ?_ ?_
    · intro K hK
      go_simp
      have p1 : (x0.alloc (.cells #[.int .i64 (-1), .slice none 0 0, .int .i64 (-2), .slice none 0 0] 25)).heap[x0.heap.size]? = some (.cells #[.int .i64 (-1), .slice none 0 0, .int .i64 (-2), .slice none 0 0] 25 (0, 0)) := World.alloc_heap_new _ _
      have q1 : Below x0.heap.size x0 (x0.alloc (.cells #[.int .i64 (-1), .slice none 0 0, .int .i64 (-2), .slice none 0 0] 25)) := (Below.refl _ _).alloc (Nat.le_refl _) _
      have g1 := more_below g0 q1
      have u1 : Terms (fun _ => False) _ (.slice (some ⟨x0.heap.size, 0, none⟩) 2 2) ex5P.args := terms2 (t1 := .node (-1) []) (t2 := .node (-2) []) p1 id (Terms.nil _ _) (Terms.nil _ _)
      refine hK.out _ _ (hS _ g1) ?_
      clear hK K
      clear p1 q1
      generalize x0.alloc (.cells #[.int .i64 (-1), .slice none 0 0, .int .i64 (-2), .slice none 0 0] 25) = x1 at *
      refine i_both rfl rfl (by rfl) (by rfl) ?_ ?_
      · intro K hK
        go_simp
        refine (fun_calls 4 _ _ _ _).mono ?_
        rintro e x2 ⟨rfl, q2⟩
        have g2 := more_below g1 q2
        have u2 := u1.below q2
        refine hK.out _ _ (hS _ g2) ?_
        clear hK K
        clear q2
        refine i_right rfl (by rfl) ?_
        intro K hK
        go_simp
        have p3 : (x2.alloc (.cells #[.int .i64 (-2), .slice none 0 0, .int .i64 1, .slice none 0 0] 25)).heap[x2.heap.size]? = some (.cells #[.int .i64 (-2), .slice none 0 0, .int .i64 1, .slice none 0 0] 25 (0, 0)) := World.alloc_heap_new _ _
        have q3 : Below x2.heap.size x2 (x2.alloc (.cells #[.int .i64 (-2), .slice none 0 0, .int .i64 1, .slice none 0 0] 25)) := (Below.refl _ _).alloc (Nat.le_refl _) _
        have g3 := more_below g2 q3
        have u3 : Terms (fun _ => False) _ (.slice (some ⟨x2.heap.size, 0, none⟩) 2 2) ex5T.args := terms2 (t1 := .node (-2) []) (t2 := .node 1 []) p3 id (Terms.nil _ _) (Terms.nil _ _)
        have v3 := u2.below q3
        refine hK.out _ _ (hS _ g3) ?_
        clear hK K
        clear p3 q3
        generalize x2.alloc (.cells #[.int .i64 (-2), .slice none 0 0, .int .i64 1, .slice none 0 0] 25) = x3 at *
        refine i_done ?_
        refine m_mix ?_
        refine i_left rfl (by rfl) ?_
        intro K hK
        go_simp
        refine (fun_calls 4 _ _ _ _).mono ?_
        rintro e x8 ⟨rfl, q8⟩
        have g8 := more_below g3 q8
        have up8 := v3.below q8
        have ut8 := u3.below q8
        refine hK.out _ _ (hS _ g8) ?_
        clear hK K
        clear q8
        refine i_done ?_
        refine m_mix ?_
        refine i_left rfl (by rfl) ?_
        intro K hK
        go_simp
        have hma := match_calls (fun _ => False) ex5P ex5T 4 4 _ _ x8 (by decide) (by decide) (fun _ h => h.elim) ⟨rfl, up8⟩ ⟨rfl, ut8⟩
        rw [ex5_one] at hma
        refine hma.mono ?_
        rintro e x9 ⟨va, rfl, va9, q9⟩
        have g9 := more_below g8 q9
        refine hK.out _ _ (hS _ g9) ?_
        clear hK K q9 hma
        refine i_done ?_
        iterate 7 (refine m_take (v := ?_) rfl (by rfl) ?_ ?_; rotate_left; (intro w hS; obtain ⟨-, hS1, hS2, hS3, hS4, hS5, hS6⟩ := hS; go_simp; try with_reducible rfl); simp only [Act.put, List.setIfInBounds_toArray, List.set_cons_zero, List.set_cons_succ])
        exact m_done ⟨x0.heap.size, x2.heap.size, va, by simp only [Act.put, List.setIfInBounds_toArray, List.set_cons_zero, List.set_cons_succ]; try rfl, g9, va9⟩
      · intro K hK
        go_simp
        have p2 : (x1.alloc (.cells #[.int .i64 (-2), .slice none 0 0, .int .i64 1, .slice none 0 0] 25)).heap[x1.heap.size]? = some (.cells #[.int .i64 (-2), .slice none 0 0, .int .i64 1, .slice none 0 0] 25 (0, 0)) := World.alloc_heap_new _ _
        have q2 : Below x1.heap.size x1 (x1.alloc (.cells #[.int .i64 (-2), .slice none 0 0, .int .i64 1, .slice none 0 0] 25)) := (Below.refl _ _).alloc (Nat.le_refl _) _
        have g2 := more_below g1 q2
        have u2 : Terms (fun _ => False) _ (.slice (some ⟨x1.heap.size, 0, none⟩) 2 2) ex5T.args := terms2 (t1 := .node (-2) []) (t2 := .node 1 []) p2 id (Terms.nil _ _) (Terms.nil _ _)
        have v2 := u1.below q2
        refine hK.out _ _ (hS _ g2) ?_
        clear hK K
        clear p2 q2
        generalize x1.alloc (.cells #[.int .i64 (-2), .slice none 0 0, .int .i64 1, .slice none 0 0] 25) = x2 at *
        refine i_left rfl (by rfl) ?_
        intro K hK
        go_simp
        refine (fun_calls 4 _ _ _ _).mono ?_
        rintro e x3 ⟨rfl, q3⟩
        have g3 := more_below g2 q3
        have v3 := v2.below q3
        have u3 := u2.below q3
        refine hK.out _ _ (hS _ g3) ?_
        clear hK K
        clear q3
        refine i_done ?_
        refine m_mix ?_
        refine i_left rfl (by rfl) ?_
        intro K hK
        go_simp
        refine (fun_calls 4 _ _ _ _).mono ?_
        rintro e x8 ⟨rfl, q8⟩
        have g8 := more_below g3 q8
        have up8 := v3.below q8
        have ut8 := u3.below q8
        refine hK.out _ _ (hS _ g8) ?_
        clear hK K
        clear q8
        refine i_done ?_
        refine m_mix ?_
        refine i_left rfl (by rfl) ?_
        intro K hK
        go_simp
        have hma := match_calls (fun _ => False) ex5P ex5T 4 4 _ _ x8 (by decide) (by decide) (fun _ h => h.elim) ⟨rfl, up8⟩ ⟨rfl, ut8⟩
        rw [ex5_one] at hma
        refine hma.mono ?_
        rintro e x9 ⟨va, rfl, va9, q9⟩
        have g9 := more_below g8 q9
        refine hK.out _ _ (hS _ g9) ?_
        clear hK K q9 hma
        refine i_done ?_
        iterate 7 (refine m_take (v := ?_) rfl (by rfl) ?_ ?_; rotate_left; (intro w hS; obtain ⟨-, hS1, hS2, hS3, hS4, hS5, hS6⟩ := hS; go_simp; try with_reducible rfl); simp only [Act.put, List.setIfInBounds_toArray, List.set_cons_zero, List.set_cons_succ])
        exact m_done ⟨x0.heap.size, x1.heap.size, va, by simp only [Act.put, List.setIfInBounds_toArray, List.set_cons_zero, List.set_cons_succ]; try rfl, g9, va9⟩
    · intro K hK
      go_simp
      have p1 : (x0.alloc (.cells #[.int .i64 (-2), .slice none 0 0, .int .i64 1, .slice none 0 0] 25)).heap[x0.heap.size]? = some (.cells #[.int .i64 (-2), .slice none 0 0, .int .i64 1, .slice none 0 0] 25 (0, 0)) := World.alloc_heap_new _ _
      have q1 : Below x0.heap.size x0 (x0.alloc (.cells #[.int .i64 (-2), .slice none 0 0, .int .i64 1, .slice none 0 0] 25)) := (Below.refl _ _).alloc (Nat.le_refl _) _
      have g1 := more_below g0 q1
      have u1 : Terms (fun _ => False) _ (.slice (some ⟨x0.heap.size, 0, none⟩) 2 2) ex5T.args := terms2 (t1 := .node (-2) []) (t2 := .node 1 []) p1 id (Terms.nil _ _) (Terms.nil _ _)
      refine hK.out _ _ (hS _ g1) ?_
      clear hK K
      clear p1 q1
      generalize x0.alloc (.cells #[.int .i64 (-2), .slice none 0 0, .int .i64 1, .slice none 0 0] 25) = x1 at *
      refine i_left rfl (by rfl) ?_
      intro K hK
      go_simp
      have p2 : (x1.alloc (.cells #[.int .i64 (-1), .slice none 0 0, .int .i64 (-2), .slice none 0 0] 25)).heap[x1.heap.size]? = some (.cells #[.int .i64 (-1), .slice none 0 0, .int .i64 (-2), .slice none 0 0] 25 (0, 0)) := World.alloc_heap_new _ _
      have q2 : Below x1.heap.size x1 (x1.alloc (.cells #[.int .i64 (-1), .slice none 0 0, .int .i64 (-2), .slice none 0 0] 25)) := (Below.refl _ _).alloc (Nat.le_refl _) _
      have g2 := more_below g1 q2
      have u2 : Terms (fun _ => False) _ (.slice (some ⟨x1.heap.size, 0, none⟩) 2 2) ex5P.args := terms2 (t1 := .node (-1) []) (t2 := .node (-2) []) p2 id (Terms.nil _ _) (Terms.nil _ _)
      have v2 := u1.below q2
      refine hK.out _ _ (hS _ g2) ?_
      clear hK K
      clear p2 q2
      generalize x1.alloc (.cells #[.int .i64 (-1), .slice none 0 0, .int .i64 (-2), .slice none 0 0] 25) = x2 at *
      refine i_left rfl (by rfl) ?_
      intro K hK
      go_simp
      refine (fun_calls 4 _ _ _ _).mono ?_
      rintro e x3 ⟨rfl, q3⟩
      have g3 := more_below g2 q3
      have u3 := u2.below q3
      have v3 := v2.below q3
      refine hK.out _ _ (hS _ g3) ?_
      clear hK K
      clear q3
      refine i_done ?_
      refine m_mix ?_
      refine i_left rfl (by rfl) ?_
      intro K hK
      go_simp
      refine (fun_calls 4 _ _ _ _).mono ?_
      rintro e x8 ⟨rfl, q8⟩
      have g8 := more_below g3 q8
      have up8 := u3.below q8
      have ut8 := v3.below q8
      refine hK.out _ _ (hS _ g8) ?_
      clear hK K
      clear q8
      refine i_done ?_
      refine m_mix ?_
      refine i_left rfl (by rfl) ?_
      intro K hK
      go_simp
      have hma := match_calls (fun _ => False) ex5P ex5T 4 4 _ _ x8 (by decide) (by decide) (fun _ h => h.elim) ⟨rfl, up8⟩ ⟨rfl, ut8⟩
      rw [ex5_one] at hma
      refine hma.mono ?_
      rintro e x9 ⟨va, rfl, va9, q9⟩
      have g9 := more_below g8 q9
      refine hK.out _ _ (hS _ g9) ?_
      clear hK K q9 hma
      refine i_done ?_
      iterate 7 (refine m_take (v := ?_) rfl (by rfl) ?_ ?_; rotate_left; (intro w hS; obtain ⟨-, hS1, hS2, hS3, hS4, hS5, hS6⟩ := hS; go_simp; try with_reducible rfl); simp only [Act.put, List.setIfInBounds_toArray, List.set_cons_zero, List.set_cons_succ])
      exact m_done ⟨x1.heap.size, x0.heap.size, va, by simp only [Act.put, List.setIfInBounds_toArray, List.set_cons_zero, List.set_cons_succ]; try rfl, g9, va9⟩
  rintro _ x5 ⟨b1, b2, va, rfl, g5, va5⟩
  simp only [Act.put, List.setIfInBounds_toArray, List.set_cons_zero, List.set_cons_succ]
  have k1 := (g5.block _ (Array.getElem?_eq_some_iff.1 m1).1).trans m1
  have k2 := (g5.block _ (Array.getElem?_eq_some_iff.1 m2).1).trans m2
  have k3 := (g5.block _ (Array.getElem?_eq_some_iff.1 m3).1).trans m3
  have D5 := more_below C3 g5
  clear m1 m2 m3 g5
  go_wp2_with fail
  refine cut_cap (fun a0 a' w' => ∃ b3 b4 vb, a' = ((((((((((((((((a0.put (some 27) (.agg #[.int .i64 (-1), .slice none 0 0])).put (some 28) (.agg #[.int .i64 (-1), .slice none 0 0])).put (some 31) (.agg #[.int .i64 1, .slice none 0 0])).put (some 29) (.slice (some ⟨b3, 0, none⟩) 2 2)).put (some 30) (.agg #[.int .i64 4, .slice (some ⟨b3, 0, none⟩) 2 2])).put (some 32) (.agg #[.int .i64 2, .slice none 0 0])).put (some 33) (.slice (some ⟨b4, 0, none⟩) 2 2)).put (some 34) (.agg #[.int .i64 4, .slice (some ⟨b4, 0, none⟩) 2 2])).put (some 35) (.tuple #[vb, .bool false, .int .i64 0])).put (some 26) (.tuple #[vb, .bool false, .int .i64 0])).put (some 36) vb).put (some 37) (.bool false)).put (some 38) (.int .i64 0)).put (some 7) vb).put (some 8) (.bool false)).put (some 9) (.int .i64 0)) ∧ Below x5.heap.size x5 w') ?_ ?_
  · have hS : ∀ W', Below x5.heap.size x5 W' → Below x5.heap.size x5 W' ∧ W'.cell? ⟨w1.heap.size, 0, none⟩ = some (.int .i64 (-1)) ∧ W'.cell? ⟨w1.heap.size, 1, none⟩ = some (.slice none 0 0) ∧ W'.cell? ⟨w2.heap.size, 0, none⟩ = some (.int .i64 (-2)) ∧ W'.cell? ⟨w2.heap.size, 1, none⟩ = some (.slice none 0 0) ∧ W'.cell? ⟨w3.heap.size, 0, none⟩ = some (.int .i64 1) ∧ W'.cell? ⟨w3.heap.size, 1, none⟩ = some (.slice none 0 0) := fun W' hW => by
      obtain ⟨-, z10, z11, -, -⟩ := box2 ((hW.block _ (Array.getElem?_eq_some_iff.1 k1).1).trans k1)
      obtain ⟨-, z20, z21, -, -⟩ := box2 ((hW.block _ (Array.getElem?_eq_some_iff.1 k2).1).trans k2)
      obtain ⟨-, z30, z31, -, -⟩ := box2 ((hW.block _ (Array.getElem?_eq_some_iff.1 k3).1).trans k3)
      exact ⟨hW, z10, z11, z20, z21, z30, z31⟩
    refine drawn_mix (fun W' => Below x5.heap.size x5 W' ∧ W'.cell? ⟨w1.heap.size, 0, none⟩ = some (.int .i64 (-1)) ∧ W'.cell? ⟨w1.heap.size, 1, none⟩ = some (.slice none 0 0) ∧ W'.cell? ⟨w2.heap.size, 0, none⟩ = some (.int .i64 (-2)) ∧ W'.cell? ⟨w2.heap.size, 1, none⟩ = some (.slice none 0 0) ∧ W'.cell? ⟨w3.heap.size, 0, none⟩ = some (.int .i64 1) ∧ W'.cell? ⟨w3.heap.size, 1, none⟩ = some (.slice none 0 0)) [.take 0, .take 1, .take 4, .mix [2, 3, 5, 6, 7] [], .mix [8] [], .take 9, .take 10, .take 11, .take 12, .take 13, .take 14, .take 15] (by kernel_rfl) (by kernel_rfl) (by kernel_rfl) (by kernel_rfl) (fun _ _ _ _ _ h => h) (hS _ (Below.refl _ _).drew) ?_
    have g0 := (Below.refl x5.heap.size x5).drew
    generalize x5.drew = x0 at *
    iterate 3 (refine m_take (v := ?_) rfl (by rfl) ?_ ?_; rotate_left; (intro w hS; obtain ⟨-, hS1, hS2, hS3, hS4, hS5, hS6⟩ := hS; go_simp; try with_reducible rfl); simp only [Act.put, List.setIfInBounds_toArray, List.set_cons_zero, List.set_cons_succ])
    refine m_mix ?_
    refine i_left rfl (by rfl) ?_
    intro K hK
    go_simp
    have p1 : (x0.alloc (.cells #[.int .i64 (-1), .slice none 0 0, .int .i64 (-1), .slice none 0 0] 25)).heap[x0.heap.size]? = some (.cells #[.int .i64 (-1), .slice none 0 0, .int .i64 (-1), .slice none 0 0] 25 (0, 0)) := World.alloc_heap_new _ _
    have q1 : Below x0.heap.size x0 (x0.alloc (.cells #[.int .i64 (-1), .slice none 0 0, .int .i64 (-1), .slice none 0 0] 25)) := (Below.refl _ _).alloc (Nat.le_refl _) _
    have g1 := more_below g0 q1
    have u1 : Terms (fun _ => False) _ (.slice (some ⟨x0.heap.size, 0, none⟩) 2 2) ex5Q.args := terms2 (t1 := .node (-1) []) (t2 := .node (-1) []) p1 id (Terms.nil _ _) (Terms.nil _ _)
    refine hK.out _ _ (hS _ g1) ?_
    clear hK K
    clear p1 q1
    generalize x0.alloc (.cells #[.int .i64 (-1), .slice none 0 0, .int .i64 (-1), .slice none 0 0] 25) = x1 at *
    refine i_left rfl (by rfl) ?_
    intro K hK
    go_simp
    refine (fun_calls 4 _ _ _ _).mono ?_
    rintro e x2 ⟨rfl, q2⟩
    have g2 := more_below g1 q2
    have u2 := u1.below q2
    refine hK.out _ _ (hS _ g2) ?_
    clear hK K
    clear q2
    refine i_left rfl (by rfl) ?_
    intro K hK
    go_simp
    refine (fun_calls 2 none 0 0 _).mono ?_
    rintro e x3 ⟨rfl, q3⟩
    have g3 := more_below g2 q3
    have u3 := u2.below q3
    refine hK.out _ _ (hS _ g3) ?_
    clear hK K
    clear q3
    refine i_left rfl (by rfl) ?_
    intro K hK
    go_simp
    have p4 : (x3.alloc (.cells #[.int .i64 1, .slice none 0 0, .int .i64 2, .slice none 0 0] 25)).heap[x3.heap.size]? = some (.cells #[.int .i64 1, .slice none 0 0, .int .i64 2, .slice none 0 0] 25 (0, 0)) := World.alloc_heap_new _ _
    have q4 : Below x3.heap.size x3 (x3.alloc (.cells #[.int .i64 1, .slice none 0 0, .int .i64 2, .slice none 0 0] 25)) := (Below.refl _ _).alloc (Nat.le_refl _) _
    have g4 := more_below g3 q4
    have u4 : Terms (fun _ => False) _ (.slice (some ⟨x3.heap.size, 0, none⟩) 2 2) ex5U.args := terms2 (t1 := .node 1 []) (t2 := .node 2 []) p4 id (Terms.nil _ _) (Terms.nil _ _)
    have v4 := u3.below q4
    refine hK.out _ _ (hS _ g4) ?_
    clear hK K
    clear p4 q4
    generalize x3.alloc (.cells #[.int .i64 1, .slice none 0 0, .int .i64 2, .slice none 0 0] 25) = x4 at *
    refine i_left rfl (by rfl) ?_
    intro K hK
    go_simp
    refine (fun_calls 4 _ _ _ _).mono ?_
    rintro e x8 ⟨rfl, q8⟩
    have g8 := more_below g4 q8
    have up8 := v4.below q8
    have ut8 := u4.below q8
    refine hK.out _ _ (hS _ g8) ?_
    clear hK K
    clear q8
    refine i_done ?_
    refine m_mix ?_
    refine i_left rfl (by rfl) ?_
    intro K hK
    go_simp
    have hma := match_calls (fun _ => False) ex5Q ex5U 4 4 _ _ x8 (by decide) (by decide) (fun _ h => h.elim) ⟨rfl, up8⟩ ⟨rfl, ut8⟩
    rw [ex5_two] at hma
    refine hma.mono ?_
    rintro e x9 ⟨va, rfl, va9, q9⟩
    have g9 := more_below g8 q9
    refine hK.out _ _ (hS _ g9) ?_
    clear hK K q9 hma
    refine i_done ?_
    iterate 7 (refine m_take (v := ?_) rfl (by rfl) ?_ ?_; rotate_left; (intro w hS; obtain ⟨-, hS1, hS2, hS3, hS4, hS5, hS6⟩ := hS; go_simp; try with_reducible rfl); simp only [Act.put, List.setIfInBounds_toArray, List.set_cons_zero, List.set_cons_succ])
    exact m_done ⟨x0.heap.size, x3.heap.size, va, by simp only [Act.put, List.setIfInBounds_toArray, List.set_cons_zero, List.set_cons_succ]; try rfl, g9⟩
  rintro _ x6 ⟨b3, b4, vb, rfl, g6⟩
  simp only [Act.put, List.setIfInBounds_toArray, List.set_cons_zero, List.set_cons_succ]
  have n2 := (g6.block _ (Array.getElem?_eq_some_iff.1 k2).1).trans k2
  have n3 := (g6.block _ (Array.getElem?_eq_some_iff.1 k3).1).trans k3
  have D6 := more_below D5 g6
  have va6 := va5.below g6
  clear k1 k2 k3 g6 va5
  obtain ⟨-, z20, z21, -, -⟩ := box2 n2
  obtain ⟨-, z30, z31, -, -⟩ := box2 n3
  obtain ⟨aa, ca, rfl, -, -⟩ := va6.shape
  go_wp2_with fail
  have p7 : (x6.alloc (.cells #[.int .i64 0, .int .i64 (-2), .slice none 0 0, .int .i64 1, .int .i64 1, .slice none 0 0] 60)).heap[x6.heap.size]? = some (.cells #[.int .i64 0, .int .i64 (-2), .slice none 0 0, .int .i64 1, .int .i64 1, .slice none 0 0] 60 (0, 0)) := World.alloc_heap_new _ _
  have q7 : Below x6.heap.size x6 (x6.alloc (.cells #[.int .i64 0, .int .i64 (-2), .slice none 0 0, .int .i64 1, .int .i64 1, .slice none 0 0] 60)) := (Below.refl _ _).alloc (Nat.le_refl _) _
  have vb7 : Binds (fun _ => False) _ (.slice (some ⟨x6.heap.size, 0, none⟩) 2 2) ex5B := binds2 (b1 := ⟨0, .node (-2) []⟩) (b2 := ⟨1, .node 1 []⟩) p7 id (Terms.nil _ _) (Terms.nil _ _)
  have D7 := more_below D6 q7
  have va7 := va6.below q7
  generalize x6.alloc (.cells #[.int .i64 0, .int .i64 (-2), .slice none 0 0, .int .i64 1, .int .i64 1, .slice none 0 0] 60) = x7 at *
  clear p7 q7 va6 z20 z21 z30 z31 n2 n3
  refine (same3_calls ex5B (fun _ => False) (fun _ => False) _ _ x7 (by decide) va7 vb7).mono ?_
  rintro e x8 ⟨rfl, h8⟩
  go_wp2
  go_ret
  exact ⟨rfl, more_below D7 h8⟩
end Go.Proofs.Ythplndalbfcbbaa
