/- What the proof of the law rests on: contracts of the functions, plain laws, and words. -/
import Derived.Test.YthplndalbfcbbaaKUnifyShiftedG2
import Derived.Test.YthplndalbfcbbaaKUnifyShiftedG1
import Derived.Test.YthplndalbfcbbaaKUnifyShiftedG0
set_option linter.unusedSimpArgs false
set_option linter.unusedVariables false
namespace Go.Proofs.Ythplndalbfcbbaa
open Go.RowKit
mutual
def shiftT (y : Int) : Tm → Tm
  | .node h l => if h < 0 then .node (h - y) [] else .node h (shiftL y l)
def shiftL (y : Int) : List Tm → List Tm
  | [] => []
  | t :: ts => shiftT y t :: shiftL y ts
end
end Go.Proofs.Ythplndalbfcbbaa
set_option linter.unusedSimpArgs false
set_option linter.unusedVariables false
namespace Go.Proofs.Ythplndalbfcbbaa
open Go.RowKit
def GivesE (A : Nat → Prop) (w : World) (r : Tm × Int) (e : Ending) (w' : World) : Prop := ∃ s, e = .returned (.tuple #[.agg #[.int .i64 r.1.h, s], .int .i64 r.2]) ∧ Terms A w' s r.1.args ∧ Below w.heap.size w w'
def endT (t : Tm) : Tm × Int := if chk t = 0 then (t, 0) else (.node 0 [], chk t)
theorem chk_good {t : Tm} (h : rightB t = true) : t.good = true := by
  simp only [rightB, chk, beq_iff_eq] at h
  split at h
  · simp at h
  · split at h
    · simp at h
    · split at h
      · assumption
      · simp at h
theorem ofBs_size {m : Nat} (v : Int) (hm : 1 ≤ m) : ∀ bs : List Bd, (∀ b, b ∈ bs → b.t.size ≤ m) → (ofBs v bs).size ≤ m
  | [], _ => by simpa [ofBs, Tm.size, Tm.sizes] using hm
  | b :: bs, h => by
    simp only [ofBs]
    split
    · exact h b (by simp)
    · exact ofBs_size v hm bs fun b hb => h b (by simp [hb])
mutual
theorem putT_size {m : Nat} (bs : List Bd) (hm : 1 ≤ m) (h : ∀ b, b ∈ bs → b.t.size ≤ m) : ∀ t : Tm, (putT bs t).size ≤ t.size * m
  | .node x l => by
    simp only [putT, Tm.size]
    split
    · have := ofBs_size (-1 - x) hm bs h
      have : m ≤ (1 + Tm.sizes l) * m := Nat.le_mul_of_pos_left m (by omega)
      omega
    · have := putL_size bs hm h l
      simp only [Tm.size]
      rw [Nat.add_mul]; omega
theorem putL_size {m : Nat} (bs : List Bd) (hm : 1 ≤ m) (h : ∀ b, b ∈ bs → b.t.size ≤ m) : ∀ l : List Tm, Tm.sizes (putL bs l) ≤ Tm.sizes l * m
  | [] => by simp [putL, Tm.sizes]
  | t :: ts => by
    have := putT_size bs hm h t
    have := putL_size bs hm h ts
    simp only [putL, Tm.sizes]
    rw [Nat.add_mul]; omega
end
mutual
theorem shiftT_size (y : Int) : ∀ t : Tm, (shiftT y t).size ≤ t.size
  | .node x l => by
    have := shiftL_size y l
    simp only [shiftT, Tm.size]
    split <;> simp only [Tm.size, Tm.sizes] <;> omega
theorem shiftL_size (y : Int) : ∀ l : List Tm, Tm.sizes (shiftL y l) ≤ Tm.sizes l
  | [] => by simp [shiftL, Tm.sizes]
  | t :: ts => by
    have := shiftT_size y t
    have := shiftL_size y ts
    simp only [shiftL, Tm.sizes]; omega
end
end Go.Proofs.Ythplndalbfcbbaa
set_option linter.unusedSimpArgs false
set_option linter.unusedVariables false
namespace Go.Proofs.Ythplndalbfcbbaa
open Go.RowKit
def applyT (bs : List Bd) (t : Tm) : Tm × Int := if rightBs bs = true ∧ rightB t = true then endT (putT bs t) else (.node 0 [], 1)
def shiftE (y : Int) (t : Tm) : Tm × Int := if rightB t = true ∧ 0 ≤ y ∧ y ≤ 255 then endT (shiftT y t) else (.node 0 [], 1)
end Go.Proofs.Ythplndalbfcbbaa
set_option linter.unusedSimpArgs false
set_option linter.unusedVariables false
namespace Go.Proofs.Ythplndalbfcbbaa
open Go.RowKit
theorem end_calls (t : Tm) (A : Nat → Prop) (h : Int) (s : Value) (w : World) (ht : t.size ≤ 1000000000) (hs : IsTm A w h s t) :
    Calls Try.prog 82 #[.agg #[.int .i64 h, s]] w fun e w' => GivesE A w (endT t) e w' := by
  obtain ⟨rfl, a, c, rfl, hlc, hc⟩ := hs.shape
  go_enter Try.func82, Try.ntmps82
  refine seq_cut (fun a' w' => a' = { tmps := #[.agg #[.int .i64 t.h, .slice a t.args.length c], .pointer (some ⟨w.heap.size, 0, none⟩), .pointer (some ⟨w.heap.size + 1, 0, none⟩), .int .i64 0, undef, undef, undef, undef, undef, undef, undef, undef], defers := [] } ∧ w' = (w.alloc (.cells #[.int .i64 t.h, .slice a t.args.length c] 25)).alloc (.cells #[.int .i64 0, .slice none 0 0] 25)) ?_ ?_
  · go_wp2
    first | done | exact ⟨rfl, rfl⟩ | exact ⟨trivial, trivial⟩
  rintro _ W ⟨rfl, HW⟩
  have hWa : W = allocs w [.cells #[.int .i64 t.h, .slice a t.args.length c] 25, .cells #[.int .i64 0, .slice none 0 0] 25] := HW
  have hB : Below w.heap.size w W := by rw [hWa]; exact allocs_below _ _
  have hsW : W.heap.size = w.heap.size + 2 := by rw [hWa]; exact allocs_size _ _
  have b0 : W.heap[w.heap.size]? = some (.cells #[.int .i64 t.h, .slice a t.args.length c] 25 (0, 0)) := by rw [hWa]; exact allocs_get _ _ 0 _ rfl
  have b1 : W.heap[w.heap.size + 1]? = some (.cells #[.int .i64 0, .slice none 0 0] 25 (0, 0)) := by rw [hWa]; exact allocs_get _ _ 1 _ rfl
  clear HW hWa
  have HsW := hide hsW
  clear hsW
  obtain ⟨-, z0, z1, -, -⟩ := box2 b0
  go_wp2_with fail
  refine (check_calls t A _ _ _ (hs.below hB) ht).mono ?_
  rintro e w1 ⟨rfl, h1⟩
  have x0 := (h1.block _ (by have := HsW.out; omega)).trans b0
  have x1 := (h1.block _ (by have := HsW.out; omega)).trans b1
  have hB1 := more_below hB h1
  clear h1 z0 z1 b0 b1
  obtain ⟨-, z0, z1, -, -⟩ := box2 x0
  obtain ⟨-, y0, y1, y2, y3⟩ := box2 x1
  by_cases hk : chk t = 0
  · have HE := hide (show endT t = (t, 0) by simp [endT, hk])
    have HK := hide (show (chk t != 0) = false by simp [hk])
    obtain ⟨-, q0, q1, -, -⟩ := box2 (box2_set x1 (.int .i64 t.h) (.slice a t.args.length c))
    have hBe := set2_below (b := w.heap.size + 1) hB1 (by omega) (.int .i64 t.h) (.slice a t.args.length c)
    have hTe := hs.2.below hBe
    have HK2 := HK.out
    clear hk
    go_wp2
    exact bodyPost_ret (v := .tuple #[.agg #[.int .i64 t.h, .slice a t.args.length c], .int .i64 0]) (by simp [results, Try.results82, go_sem, q0, q1]) rfl (by rw [HE.out]; exact ⟨_, rfl, hTe, hBe⟩)
  · have HE := hide (show endT t = (.node 0 [], chk t) by simp [endT, hk])
    have HK := hide (show (chk t != 0) = true by simp [hk])
    obtain ⟨-, q0, q1, -, -⟩ := box2 (box2_set x1 (.int .i64 0) (.slice none 0 0))
    have hBe := set2_below (b := w.heap.size + 1) hB1 (by omega) (.int .i64 0) (.slice none 0 0)
    have HK2 := HK.out
    clear hk
    go_wp2
    exact bodyPost_ret (v := .tuple #[.agg #[.int .i64 0, .slice none 0 0], .int .i64 (chk t)]) (by simp [results, Try.results82, go_sem, q0, q1]) rfl (by rw [HE.out]; exact ⟨_, rfl, Terms.nil _ _, hBe⟩)
theorem shof_calls (y : Int) (t : Tm) (A : Nat → Prop) (h : Int) (s : Value) (w : World) (hy0 : 0 ≤ y) (hy1 : y ≤ 1000000000) (hh : -256 ≤ t.h) (hneg : t.h < 0) (hs : IsTm A w h s t) :
    Calls Try.prog 90 #[.int .i64 y, .agg #[.int .i64 h, s]] w fun e w' => Gives A w (.node (t.h - y) []) e w' := by
  obtain ⟨rfl, a, c, rfl, hlc, hc⟩ := hs.shape
  go_enter Try.func90, Try.ntmps90
  refine seq_cut (fun a' w' => a' = { tmps := #[.int .i64 y, .agg #[.int .i64 t.h, .slice a t.args.length c], undef, .pointer (some ⟨w.heap.size, 0, none⟩), .pointer (some ⟨w.heap.size + 1, 0, none⟩), undef, undef, undef, undef, undef], defers := [] } ∧ w' = (w.alloc (.cells #[.int .i64 t.h, .slice a t.args.length c] 25)).alloc (.cells #[.int .i64 0, .slice none 0 0] 25)) ?_ ?_
  · go_wp2
    first | done | exact ⟨rfl, rfl⟩ | exact ⟨trivial, trivial⟩
  rintro _ W ⟨rfl, HW⟩
  have hWa : W = allocs w [.cells #[.int .i64 t.h, .slice a t.args.length c] 25, .cells #[.int .i64 0, .slice none 0 0] 25] := HW
  have hB : Below w.heap.size w W := by rw [hWa]; exact allocs_below _ _
  have hsW : W.heap.size = w.heap.size + 2 := by rw [hWa]; exact allocs_size _ _
  have b0 : W.heap[w.heap.size]? = some (.cells #[.int .i64 t.h, .slice a t.args.length c] 25 (0, 0)) := by rw [hWa]; exact allocs_get _ _ 0 _ rfl
  have b1 : W.heap[w.heap.size + 1]? = some (.cells #[.int .i64 0, .slice none 0 0] 25 (0, 0)) := by rw [hWa]; exact allocs_get _ _ 1 _ rfl
  clear HW hWa hsW
  obtain ⟨-, z0, z1, -, -⟩ := box2 b0
  obtain ⟨-, y0, y1, y2, y3⟩ := box2 b1
  obtain ⟨-, q0, q1, -, -⟩ := box2 (box2_set b1 (.int .i64 (t.h - y)) (.slice none 0 0))
  have hBe := set2_below (b := w.heap.size + 1) hB (by omega) (.int .i64 (t.h - y)) (.slice none 0 0)
  go_wp2
  exact bodyPost_ret (v := .agg #[.int .i64 (t.h - y), .slice none 0 0]) (by simp [results, Try.results90, go_sem, q0, q1]) rfl ⟨_, rfl, Terms.nil _ _, hBe⟩
end Go.Proofs.Ythplndalbfcbbaa
set_option linter.unusedVariables false
set_option linter.unusedSimpArgs false
namespace Go.Proofs.Ythplndalbfcbbaa
open Go.RowKit Go.Shelf
attribute [local go_sem] Oper.semAt_some
section
variable {F : Fence} {nF : Nat} {P : Program} {W : World} {ops : Array Oper} {rest : List Oper} {o : Oper} {a : Act} {Q : Exit → Act → World → Prop} {k e : TypeId}
theorem look_pl (hg : o.guard = none) (m x : Operand) (t : TypeId) (hop : o.op = .lookup t m x true) (hk : P.underlying k = some (.int .i64)) (ht : P.underlying t = some (.map k e)) {z : Value} (hz : (zeroValue e).run P W = .ok z W)
    (b : Nat) (f : Int → Option Value) (hm : a.eval m = .map (some b)) (h : MapAt W b f) (y : Int) (hx : a.eval x = .int .i64 y) (h0 : -9223372036854775808 ≤ y) (h1 : y ≤ 9223372036854775807)
    (hK : wpList P ops Q rest (a.put o.dst (.tuple #[(f y).getD z, .bool (f y).isSome])) W) : wpList P ops Q (o :: rest) a W := by
  refine wpList_plain hg fun K' hK' => ?_
  have hrun := h.look hk ht hz h0 h1
  unfold Oper.wp
  simp [execOp, hop, hm, hx, hrun, Result.andThen]
  exact hK' _ _ hK
theorem store_in (hg : o.guard = none) (m x v : Operand) (t : TypeId) (hop : o.op = .mapUpdate t m x v) (hk : P.underlying k = some (.int .i64)) (ht : P.underlying t = some (.map k e))
    (b : Nat) (f : Int → Option Value) (hm : a.eval m = .map (some b)) (h : MapAt W b f) (y : Int) (hx : a.eval x = .int .i64 y) (h0 : -9223372036854775808 ≤ y) (h1 : y ≤ 9223372036854775807) (u : Value) (hv : a.eval v = u)
    (hK : ∀ W', MapAt W' b (fun z => if z = y then some u else f z) → Keep (fun c => c ≠ b) W W' → wpListIn F nF P ops Q rest (a.put o.dst undef) W') : wpListIn F nF P ops Q (o :: rest) a W := by
  refine wpListIn_plain hg fun K' hK' => ?_
  obtain ⟨w', hrun, r1, r2⟩ := h.store hk ht h0 h1 u
  unfold Oper.wpIn
  refine ⟨by simp [Oper.about, hop], ?_⟩
  rw [Oper.semAt_plain F _ _ (by rw [hop]; intro c hc'; cases hc')]
  simp [execOp, hop, hm, hx, hv, hrun, Result.andThen]
  exact hK' _ _ (hK w' r1 r2)
end
def firstB (v : Int) : List Bd → Option Tm
  | [] => none
  | b :: bs => if b.v = v then some b.t else firstB v bs
theorem firstB_of (v : Int) : ∀ bs : List Bd, (firstB v bs).getD (.node (-1 - v) []) = ofBs v bs
  | [] => rfl
  | b :: bs => by simp only [firstB, ofBs]; split; rfl; exact firstB_of v bs
theorem firstB_drop (l : List Bd) (k : Nat) (h : k < l.length) (v : Int) : firstB v (l.drop k) = if v = l[k].v then some l[k].t else firstB v (l.drop (k + 1)) := by
  rw [List.drop_eq_getElem_cons h]
  simp only [firstB]
  by_cases e : l[k].v = v
  · rw [if_pos e, if_pos e.symm]
  · rw [if_neg e, if_neg (fun h => e h.symm)]
def MapBinds (A : Nat → Prop) (W : World) (b : Nat) (bs : List Bd) : Prop :=
  ∃ f, MapAt W b f ∧ ∀ x : Int, (firstB x bs = none → f x = none) ∧ ∀ t, firstB x bs = some t → ∃ s, f x = some (.agg #[.int .i64 t.h, s]) ∧ Terms A W s t.args
theorem MapBinds.below {A : Nat → Prop} {W W' : World} {b : Nat} {bs : List Bd} (h : MapBinds A W b bs) (hB : Below W.heap.size W W') : MapBinds A W' b bs := by
  obtain ⟨f, h1, h2⟩ := h
  exact ⟨f, h1.below hB, fun x => ⟨(h2 x).1, fun t ht => by obtain ⟨s, h3, h4⟩ := (h2 x).2 t ht; exact ⟨s, h3, h4.below hB⟩⟩⟩
theorem MapBinds.bar {A B : Nat → Prop} {W : World} {b : Nat} {bs : List Bd} (h : MapBinds A W b bs) (hB : ∀ c, c < W.heap.size → B c → A c) : MapBinds B W b bs := by
  obtain ⟨f, h1, h2⟩ := h
  exact ⟨f, h1, fun x => ⟨(h2 x).1, fun t ht => by obtain ⟨s, h3, h4⟩ := (h2 x).2 t ht; exact ⟨s, h3, h4.bar hB⟩⟩⟩
theorem zeroTerm (W : World) : (zeroValue 25).run Try.prog W = .ok (.agg #[.int .i64 0, .slice none 0 0]) W := by kernel_rfl
def ofT (bs : List Bd) (t : Tm) : Tm := (firstB (-1 - t.h) bs).getD t
set_option maxHeartbeats 1000000 in
theorem tabof_calls (bs : List Bd) (t : Tm) (mb : Nat) (A : Nat → Prop) (h : Int) (s : Value) (w : World) (hh0 : -1000000000 ≤ t.h) (hh1 : t.h ≤ 1000000000) (hm : MapBinds A w mb bs) (hs : IsTm A w h s t) :
    Calls Try.prog 85 #[.map (some mb), .agg #[.int .i64 h, s]] w fun e w' => Gives A w (ofT bs t) e w' := by
  obtain ⟨rfl, a, c, rfl, hlc, hc⟩ := hs.shape
  go_enter Try.func85, Try.ntmps85
  refine seq_cut (fun a' w' => a' = { tmps := #[.map (some mb), .agg #[.int .i64 t.h, .slice a t.args.length c], undef, .pointer (some ⟨w.heap.size, 0, none⟩), .pointer (some ⟨w.heap.size + 1, 0, none⟩), undef, undef, undef, undef, undef, undef, undef, undef, undef, undef, undef, undef, undef], defers := [] } ∧ w' = (w.alloc (.cells #[.int .i64 t.h, .slice a t.args.length c] 25)).alloc (.cells #[.int .i64 0, .slice none 0 0] 25)) ?_ ?_
  · go_wp2
    first | done | exact ⟨rfl, rfl⟩ | exact ⟨trivial, trivial⟩
  rintro _ W ⟨rfl, HW⟩
  have hWa : W = allocs w [.cells #[.int .i64 t.h, .slice a t.args.length c] 25, .cells #[.int .i64 0, .slice none 0 0] 25] := HW
  have hB : Below w.heap.size w W := by rw [hWa]; exact allocs_below _ _
  have b0 : W.heap[w.heap.size]? = some (.cells #[.int .i64 t.h, .slice a t.args.length c] 25 (0, 0)) := by rw [hWa]; exact allocs_get _ _ 0 _ rfl
  have b1 : W.heap[w.heap.size + 1]? = some (.cells #[.int .i64 0, .slice none 0 0] 25 (0, 0)) := by rw [hWa]; exact allocs_get _ _ 1 _ rfl
  clear HW hWa
  obtain ⟨f, hmf, hf⟩ := hm
  have hmf' := hmf.below hB
  obtain ⟨hsz, z0, z1, -, -⟩ := box2 b0
  obtain ⟨hsz1, y0, y1, y2, y3⟩ := box2 b1
  cases hfb : firstB (-1 - t.h) bs with
  | none =>
    have hfx := (hf _).1 hfb
    have HE := hide (show ofT bs t = t by simp [ofT, hfb])
    clear hfb hf
    have HFX := hide hfx
    clear hfx
    have hT : Terms (fun b => A b ∨ b = w.heap.size + 1) W (.slice a t.args.length c) t.args := (hs.2.bar (fun b hb h => by rcases h with h | h; exact h; omega)).below hB
    obtain ⟨hBe, hTe, q0, q1⟩ := fin2 hB (by omega) b1 hT (.int .i64 t.h) (.cells #[.int .i64 0, .slice none 0 0] 25)
    go_wp2_with (at_lookup; refine look_pl rfl _ _ 98 rfl Try.underlying3 Try.underlying98 (zeroTerm _) mb f rfl hmf' (-1 - t.h) rfl (by omega) (by omega) ?_; rw [HFX.out])
    exact bodyPost_ret (v := .agg #[.int .i64 t.h, .slice a t.args.length c]) (by simp [results, Try.results85, go_sem, q0, q1]) rfl (by rw [HE.out]; exact ⟨_, rfl, hTe, hBe⟩)
  | some u =>
    obtain ⟨s1, hfx, hTu⟩ := (hf _).2 u hfb
    have HE := hide (show ofT bs t = u by simp [ofT, hfb])
    obtain ⟨au, cu, rfl, -, -⟩ := hTu.shape
    clear hfb hf
    have HFX := hide hfx
    clear hfx
    have hT : Terms (fun b => A b ∨ b = w.heap.size + 1) W (.slice au u.args.length cu) u.args := (hTu.bar (fun b hb h => by rcases h with h | h; exact h; omega)).below hB
    obtain ⟨hBe, hTe, q0, q1⟩ := fin2 hB (by omega) b1 hT (.int .i64 u.h) (.cells #[.int .i64 u.h, .slice au u.args.length cu] 25)
    go_wp2_with (at_lookup; refine look_pl rfl _ _ 98 rfl Try.underlying3 Try.underlying98 (zeroTerm _) mb f rfl hmf' (-1 - t.h) rfl (by omega) (by omega) ?_; rw [HFX.out])
    exact bodyPost_ret (v := .agg #[.int .i64 u.h, .slice au u.args.length cu]) (by simp [results, Try.results85, go_sem, q0, q1]) rfl (by rw [HE.out]; exact ⟨_, rfl, hTe, hBe⟩)
end Go.Proofs.Ythplndalbfcbbaa
set_option linter.unusedVariables false
set_option linter.unusedSimpArgs false
namespace Go.Proofs.Ythplndalbfcbbaa
open Go.RowKit Go.Shelf
attribute [local go_sem] Oper.semAt_some
theorem MapBinds.keep {A S : Nat → Prop} {W W' : World} {b : Nat} {bs : List Bd} (h : MapBinds A W b bs) (hk : Keep S W W') (hb : S b) (hA : ∀ c, c < W.heap.size → ¬ A c → S c) : MapBinds A W' b bs := by
  obtain ⟨f, h1, h2⟩ := h
  exact ⟨f, h1.keep hk hb, fun x => ⟨(h2 x).1, fun t ht => by obtain ⟨s, h3, h4⟩ := (h2 x).2 t ht; exact ⟨s, h3, h4.keep hk hA⟩⟩⟩
theorem zip_at {β : Type} {pre : List (β × Nat)} {x : β × Nat} {rs : List β} (h : pre ++ [x] <+: rs.zipIdx.reverse) : x.2 + pre.length + 1 = rs.length ∧ ∃ hi : x.2 < rs.length, rs[x.2] = x.1 := by
  obtain ⟨t, ht⟩ := h
  have h1 : (rs.zipIdx.reverse)[pre.length]? = some x := by rw [← ht]; simp
  have h2 : pre.length < rs.length := by
    have := congrArg List.length ht
    simp at this; omega
  rw [List.getElem?_reverse (by simpa using h2)] at h1
  simp only [List.length_zipIdx, List.getElem?_zipIdx] at h1
  rw [Option.map_eq_some_iff] at h1
  obtain ⟨y, hy, rfl⟩ := h1
  simp only [Nat.zero_add]
  refine ⟨by omega, by omega, ?_⟩
  exact (List.getElem?_eq_some_iff.1 hy).2
theorem Binds.raws {A : Nat → Prop} {w : World} {a : Option Addr} {n c : Nat} {bs : List Bd} (h : Binds A w (.slice a n c) bs) :
    ∃ rs : List (Int × Int × Value), rs.length = bs.length ∧ ∀ i (hi : i < rs.length) (hi' : i < bs.length), rs[i].1 = bs[i].v ∧ rs[i].2.1 = bs[i].t.h ∧ Terms A w rs[i].2.2 bs[i].t.args ∧ (∃ a' n' c', rs[i].2.2 = .slice a' n' c') ∧
      ∃ b off, a = some ⟨b, off, none⟩ ∧ b < w.heap.size ∧ ¬ A b ∧ w.cell? ⟨b, off + i * 3, none⟩ = some (.int .i64 rs[i].1) ∧ w.cell? ⟨b, off + i * 3 + 1, none⟩ = some (.int .i64 rs[i].2.1) ∧ w.cell? ⟨b, off + i * 3 + 2, none⟩ = some rs[i].2.2 := by
  have hx : ∀ i : Fin bs.length, ∃ r : Int × Int × Value, r.1 = bs[i].v ∧ r.2.1 = bs[i].t.h ∧ Terms A w r.2.2 bs[i].t.args ∧ (∃ a' n' c', r.2.2 = .slice a' n' c') ∧
      ∃ b off, a = some ⟨b, off, none⟩ ∧ b < w.heap.size ∧ ¬ A b ∧ w.cell? ⟨b, off + i * 3, none⟩ = some (.int .i64 r.1) ∧ w.cell? ⟨b, off + i * 3 + 1, none⟩ = some (.int .i64 r.2.1) ∧ w.cell? ⟨b, off + i * 3 + 2, none⟩ = some r.2.2 := by
    intro i
    obtain ⟨b, off, a', c', h1, h2, h3, h4, h5, h6, h7⟩ := h.get i i.2
    exact ⟨(_, _, _), rfl, rfl, h7, ⟨_, _, _, rfl⟩, b, off, h1, h2, h3, h4, h5, h6⟩
  refine ⟨List.ofFn fun i => Classical.choose (hx i), by simp, fun i hi hi' => ?_⟩
  simp only [List.getElem_ofFn]
  exact Classical.choose_spec (hx ⟨i, hi'⟩)
def OpenS (m s : Nat) : Nat → Prop := fun x => x < s ∧ x ≠ m
def OpenI (A : Nat → Prop) (m : Nat) (bs : List Bd) (W : World) (_ : Nat → Prop) (pre : List ((Int × Int × Value) × Nat)) (Wx : World) : Prop :=
  Keep (OpenS m W.heap.size) W Wx ∧ ∃ k, k + pre.length = bs.length ∧ MapBinds (fun b => A b ∨ m ≤ b) Wx m (bs.drop k)
set_option maxHeartbeats 2000000 in
set_option maxRecDepth 100000 in
theorem open_calls (bs : List Bd) (A : Nat → Prop) (s : Value) (w : World) (hrange : ∀ b, b ∈ bs → -9223372036854775808 ≤ b.v ∧ b.v ≤ 9223372036854775807) (hs : Binds A w s bs) :
    Calls Try.prog 84 #[s] w fun e w' => e = .returned (.map (some w.heap.size)) ∧ MapBinds A w' w.heap.size bs ∧ Below w.heap.size w w' := by
  refine (callsIn_wide (n := 0)).1 ?_
  obtain ⟨a, c, rfl, hlc, hc⟩ := hs.shape
  have hmm := @run_makeMap Try.prog
  refine callsIn_of_wp_marks Try.func84 rfl trivial ?_ rfl
  simp only [Try.ntmps84, List.size_toArray, List.length_cons, List.length_nil, Nat.reduceAdd, Nat.reduceSub, Array.replicate_succ, Array.replicate_zero, List.push_toArray, List.append_toArray, List.nil_append, List.cons_append]
  gi_wp2_with fail
  refine ⟨trivial, rfl, (callsIn_wide.2 (backB_calls _ ⟨_, _, _, rfl⟩ _)).mono ?_⟩
  rintro e W ⟨rfl, hW⟩
  have HW := hide hW
  clear hW
  gi_wp2_with fail
  have hWa : W = allocs w [.map #[] 0, .cells #[.map (some w.heap.size)] 98, .cells #[.slice a bs.length c] 22] := HW.out
  clear HW
  have hsW0 : W.heap.size = w.heap.size + 3 := by rw [hWa, allocs_size]; rfl
  have hsW1 : W.heap.size ≤ w.heap.size + 3 := by omega
  have hsW2 : w.heap.size + 3 ≤ W.heap.size := by omega
  clear hsW0
  have hbW : Below w.heap.size w W := by rw [hWa]; exact allocs_below _ _
  have e0 : W.heap[w.heap.size]? = some (.map #[] 0) := by rw [hWa]; exact allocs_get _ _ 0 _ rfl
  have e1 : W.heap[w.heap.size + 1]? = some (.cells #[.map (some w.heap.size)] 98 (0, 0)) := by rw [hWa]; exact allocs_get _ _ 1 _ rfl
  have e2 : W.heap[w.heap.size + 1 + 1]? = some (.cells #[.slice a bs.length c] 22 (0, 0)) := by rw [hWa]; exact allocs_get _ _ 2 _ rfl
  clear hWa hmm
  have hsA : Binds (fun b => A b ∨ w.heap.size ≤ b) W (.slice a bs.length c) bs := (hs.bar (fun b hb h => by rcases h with h | h; exact h; omega)).below hbW
  obtain ⟨rs, hrl, hraw⟩ := Binds.raws hsA
  refine wp_range_out (gf := 168) (lb := #[.pointer (some ⟨w.heap.size + 1 + 1, 0, none⟩)]) (xs := rs.zipIdx.reverse) (S := OpenS w.heap.size W.heap.size) rfl (enters_of Try.func168 (by kernel_rfl) rfl)
    (backB_seq W _ (w.heap.size + 1 + 1) a c rs ⟨by omega, by omega⟩ (by rw [hrl]; simp [World.cell?, e2]) (by omega) (fun i hi => by
      obtain ⟨-, -, -, h4, b, off, h5, h6, h7, h8⟩ := hraw i hi (by omega)
      exact ⟨h4, b, off, h5, ⟨h6, fun e => h7 (.inr (by omega))⟩, h8⟩)) (fun x => rfl)
    (OpenI A w.heap.size bs W) (fun _ _ _ _ => False) ?frI (fun _ _ _ _ _ _ _ h _ _ => h)
    ⟨Keep.refl _ _, bs.length, by simp, by rw [List.drop_length]; exact ⟨fun _ => none, ⟨#[], 0, e0, by simp, by simp, by simp, by simp, MapKept.stamped_empty 0⟩, fun x => ⟨fun _ => rfl, fun t ht => by simp [firstB] at ht⟩⟩⟩ (fun b hb => hb.1)
    (fun O pre x a' Wx => ∃ Bx, Wx.heap[Bx]? = some (.cells #[.int .i64 x.1.1, .int .i64 x.1.2.1, x.1.2.2] 60 (0, 0)) ∧ ¬ O Bx ∧ W.heap.size ≤ Bx ∧ Bx < Wx.heap.size ∧ a' = { tmps := #[.slice a bs.length c, undef, .map none, .pointer (some ⟨w.heap.size + 1, 0, none⟩), undef, .pointer (some ⟨Bx, 0, none⟩), .map (some w.heap.size), .slice a bs.length c, .func (.func 168) #[] #[.pointer (some ⟨w.heap.size + 1 + 1, 0, none⟩)], .int .i64 x.2, .agg #[.int .i64 x.1.1, .int .i64 x.1.2.1, x.1.2.2], undef, undef, undef, undef, undef, undef], defers := [] }) ?hAx ?assign ?body ?done (fun _ _ _ _ _ _ _ _ _ h => h.elim)
  case frI =>
    rintro pre O O' Wx Wx' hO ⟨hk0, k, hk1, hm⟩ hk hO'
    refine ⟨hk0.trans (hk.mono fun b _ hb h => by have := (hO b h).1; have := hb.1; omega), k, hk1, hm.keep hk (fun h => by have := (hO _ h).1; omega) (fun c hc hA h => hA (.inr (by have := (hO _ h).1; omega)))⟩
  case hAx =>
    rintro O pre x a' Wx Wx' ⟨Bx, h1, h2, h3, h4, h5⟩ hk
    exact ⟨Bx, hk.obj h2 h1, h2, h3, Nat.lt_of_lt_of_le h4 hk.size, h5⟩
  case assign =>
    intro l O pre x Wx K hpx hI hO hK
    obtain ⟨-, hi, hxe⟩ := zip_at hpx
    obtain ⟨-, -, -, ⟨xa, xn, xc, hx4⟩, -⟩ := hraw x.2 hi (by omega)
    rw [hxe] at hx4
    obtain ⟨hk, -⟩ := hI
    have hsz := hk.size
    clear hpx hk
    obtain ⟨⟨xv, xh, xs⟩, xi⟩ := x
    simp only at hx4
    subst hx4
    simp only [encB]
    have HK := hide hK
    clear hK e0 e1 e2
    gi_wp2
    exact HK.out _ _ ((Keep.refl _ _).alloc _) ⟨Wx.heap.size, World.alloc_heap_new _ _, fun h => by have := (hO _ h).2; omega, by omega, by simp, rfl⟩
  case body =>
    rintro l O pre x a' Wx hpx hO hOl hrec hkx ⟨hk0, k, hk1, hm⟩ ⟨Bx, hBx1, hBx2, hBx3, hBx4, rfl⟩
    obtain ⟨hxi, hi, hxe⟩ := zip_at hpx
    have hib : x.2 < bs.length := by omega
    obtain ⟨r1, r2, r3, ⟨xa, xn, xc, hx4⟩, -⟩ := hraw x.2 hi hib
    rw [hxe] at r1 r2 r3 hx4
    clear hpx
    obtain ⟨⟨xv, xh, xs⟩, xi⟩ := x
    simp only at r1 r2 r3 hx4 hBx1 hxi hi hib
    subst hx4
    obtain ⟨f, hmf, hf⟩ := hm
    have hrg := hrange bs[xi] (List.getElem_mem _)
    have hv0 : -9223372036854775808 ≤ xv := by rw [r1]; exact hrg.1
    have hv1 : xv ≤ 9223372036854775807 := by rw [r1]; exact hrg.2
    have c0 : Wx.cell? ⟨Bx, 0, none⟩ = some (.int .i64 xv) := by simp [World.cell?, hBx1]
    have c1 : Wx.cell? ⟨Bx, 1, none⟩ = some (.int .i64 xh) := by simp [World.cell?, hBx1]
    have c2 : Wx.cell? ⟨Bx, 2, none⟩ = some (.slice xa xn xc) := by simp [World.cell?, hBx1]
    have k1 := cell_of_one (hk0.obj ⟨by omega, by omega⟩ e1)
    have R1 := hide r1
    have R2 := hide r2
    have HXI := hide hxi
    have HK1 := hide hk1
    have HF := hide hf
    have HXE := hide hxe
    clear r1 r2 hxi hk1 hBx1 hxe hrg hf e0 e1 e2
    gi_wp2_with (gi_at_mapUpdate; refine store_in rfl _ _ _ 98 rfl Try.underlying3 Try.underlying98 w.heap.size f rfl hmf xv rfl hv0 hv1 _ rfl ?_; intro W2 hm2 hk2)
    refine ⟨hk2.mono fun b _ h e => ?_, hk0.trans (hk2.mono fun b _ h => h.2), xi, by have := HXI.out; simp; omega, _, hm2, fun z => ?_⟩
    · rcases h with h | h
      · exact h.2 e
      · have := (hO b h).1; omega
    · rw [firstB_drop bs xi hib]
      by_cases hz : z = xv
      · have hz' : z = bs[xi].v := by rw [hz, R1.out]
        rw [if_pos hz']
        refine ⟨fun h => (by cases h), fun t ht => ?_⟩
        cases ht
        refine ⟨.slice xa xn xc, (if_pos hz).trans (by rw [← R2.out]; rfl), ?_⟩
        have hT := r3.keep hk0 (fun b hb hA => ⟨hb, fun e => hA (.inr (by omega))⟩)
        exact hT.keep hk2 (fun b _ hA e => hA (.inr (by omega)))
      · have hz' : ¬ z = bs[xi].v := by rw [← R1.out]; exact hz
        rw [if_neg hz']
        have hk9 : k = xi + 1 := by have := HXI.out; have := HK1.out; omega
        subst hk9
        refine ⟨fun h => (by simp [hz, (HF.out z).1 h]), fun t ht => ?_⟩
        obtain ⟨s1, g1, g2⟩ := (HF.out z).2 t ht
        exact ⟨s1, by simp [hz, g1], g2.keep hk2 (fun b _ hA e => hA (.inr (by omega)))⟩
  case done =>
    intro O Wx hO hOw hkx hdef ⟨hk0, k, hk1, hm⟩
    have k1 := cell_of_one (hk0.obj ⟨by omega, by omega⟩ e1)
    have hB : Below w.heap.size w Wx := hbW.trans (hk0.below (fun b hb => ⟨by omega, by omega⟩) (by omega))
    have hszx := hk0.size
    have hk9 : k = 0 := by simp [hrl] at hk1; omega
    subst hk9
    have FIN := hide (show MapBinds (fun b => A b ∨ w.heap.size ≤ b) Wx w.heap.size bs from by simpa using hm)
    clear e0 e1 e2 hk1 hm hkx
    have fin : ∀ (tm : Array Value), tm[2]? = some (.map (some w.heap.size)) → LeavesInM Fence.wide 0 Try.prog Try.f84 tm (fun e w' => e = .returned (.map (some w.heap.size)) ∧ MapBinds A w' w.heap.size bs ∧ Below w.heap.size w w') (marks [W.heap.size]) .returning Wx := by
      intro tm h1
      refine leaves_marks [W.heap.size] Wx ⟨by simp, fun D hD => by simp at hD; subst hD; exact hdef⟩ fun W' hk => ⟨_, results_tmp rfl _ _ _, ?_, ?_, hB.trans (hk.below (fun b hb => by simp; omega) (by omega))⟩
      · simp [h1, Array.getD_eq_getD_getElem?]
      · exact (FIN.out.keep hk (by simp; omega) (fun c hc hA e => hA (.inr (by simp at e; omega)))).bar fun _ _ h => .inl h
    gi_wp2
    exact fin _ rfl
end Go.Proofs.Ythplndalbfcbbaa
set_option linter.unusedSimpArgs false
set_option linter.unusedVariables false
namespace Go.Proofs.Ythplndalbfcbbaa
open Go.RowKit
mutual
/-- A term, something in place of each variable. -/
def rbT (g : Tm → Tm) : Tm → Tm
  | .node h l => if h < 0 then g (.node h l) else .node h (rbL g l)
def rbL (g : Tm → Tm) : List Tm → List Tm
  | [] => []
  | t :: ts => rbT g t :: rbL g ts
end
theorem rbT_neg (g : Tm → Tm) (t : Tm) (h : t.h < 0) : rbT g t = g t := by cases t; simp only [Tm.h] at h ⊢; rw [rbT, if_pos h]
theorem rbT_pos (g : Tm → Tm) (t : Tm) (h : ¬ t.h < 0) : rbT g t = .node t.h (rbL g t.args) := by cases t; simp only [Tm.h, Tm.args] at h ⊢; rw [rbT, if_neg h]
theorem rbL_map (g : Tm → Tm) (l : List Tm) : rbL g l = l.map (rbT g) := by induction l <;> simp_all [rbL]
structure Serves (F : Nat) (x : Value) (g : Tm → Tm) (OK : (Nat → Prop) → World → Prop) : Prop where
  enters : ∀ args w, (callFunc F args).run Try.prog w = .ok (.enter F args) w
  below : ∀ A w w', OK A w → Below w.heap.size w w' → OK A w'
  bar : ∀ A B w, OK A w → (∀ b, b < w.heap.size → B b → A b) → OK B w
  gives : ∀ (v : Tm) (A : Nat → Prop) (h : Int) (s : Value) (w : World), (∀ b, A b → b < w.heap.size) → v.good = true → v.h < 0 → OK A w → IsTm A w h s v → Calls Try.prog F #[x, .agg #[.int .i64 h, s]] w fun e w' => Gives A w (g v) e w'
set_option maxHeartbeats 2000000 in
theorem rebuild_calls {F : Nat} {x : Value} {g : Tm → Tm} {OK : (Nat → Prop) → World → Prop} (hF : Serves F x g OK) (n0 : Nat) : ∀ (t : Tm) (A : Nat → Prop) (h : Int) (s : Value) (w : World), t.size ≤ n0 → (∀ b, A b → b < w.heap.size) → t.good = true → OK A w → IsTm A w h s t →
    Calls Try.prog 83 #[.agg #[.int .i64 h, s], .func (.func F) #[x] #[]] w fun e w' => Gives A w (rbT g t) e w' := by
  induction n0 with
  | zero => intro t; cases t; intro A h s w ht; simp [Tm.size] at ht
  | succ n0 ih =>
    rintro t A h s w ht hA hgood hok hs
    obtain ⟨rfl, a, c, rfl, hlc, hc⟩ := hs.shape
    obtain ⟨hh, hl8, hkids⟩ := good_args hgood
    have hsz := hide t.size_eq
    have hl : t.args.length ≤ 9223372036854775807 := by omega
    go_enter Try.func83, Try.ntmps83
    refine seq_cut (fun a' w' => a' = { tmps := #[.agg #[.int .i64 t.h, .slice a t.args.length c], .func (.func F) #[x] #[], .pointer (some ⟨w.heap.size, 0, none⟩), undef, .pointer (some ⟨w.heap.size + 1, 0, none⟩), undef, undef, undef, undef, undef, undef, undef, undef, undef, undef, undef, undef, undef, undef, undef, undef, undef, undef, undef, undef, undef, undef, undef, undef, undef, undef, undef, undef, undef], defers := [] } ∧ w' = (w.alloc (.cells #[.int .i64 t.h, .slice a t.args.length c] 25)).alloc (.cells #[.int .i64 0, .slice none 0 0] 25)) ?_ ?_
    · go_wp2
      first | done | exact ⟨rfl, rfl⟩ | exact ⟨trivial, trivial⟩
    rintro _ W ⟨rfl, HW⟩
    have hWa : W = allocs w [.cells #[.int .i64 t.h, .slice a t.args.length c] 25, .cells #[.int .i64 0, .slice none 0 0] 25] := HW
    have hB : Below w.heap.size w W := by rw [hWa]; exact allocs_below _ _
    have hsW : W.heap.size = w.heap.size + 2 := by rw [hWa]; exact allocs_size _ _
    have b0 : W.heap[w.heap.size]? = some (.cells #[.int .i64 t.h, .slice a t.args.length c] 25 (0, 0)) := by rw [hWa]; exact allocs_get _ _ 0 _ rfl
    have b1 : W.heap[w.heap.size + 1]? = some (.cells #[.int .i64 0, .slice none 0 0] 25 (0, 0)) := by rw [hWa]; exact allocs_get _ _ 1 _ rfl
    clear HW hWa
    have HsW := hide hsW
    clear hsW
    obtain ⟨-, z0, z1, -, -⟩ := box2 b0
    by_cases hneg : t.h < 0
    · have HP := hide (rbT_neg g t hneg)
      have henter := hF.enters
      go_wp2_with fail
      refine (hF.gives t (fun b => A b ∨ b = w.heap.size + 1) _ _ _ (fun b hb => ?_) hgood hneg (hF.below _ _ _ (hF.bar _ _ _ hok (fun b hb h => ?_)) hB) (IsTm.below (A := fun b => A b ∨ b = w.heap.size + 1) (hs.bar (fun b hb h => ?_)) hB)).mono ?_
      · have := HsW.out
        rcases hb with hb | hb
        · have := hA b hb; omega
        · omega
      · rcases h with h | h
        · exact h
        · omega
      · rcases h with h | h
        · exact h
        · omega
      rintro e w1 ⟨s1, rfl, hT, h1⟩
      obtain ⟨a1, c1, rfl, -, -⟩ := hT.shape
      have b1' := (h1.block _ (by have := HsW.out; omega)).trans b1
      obtain ⟨-, y0, y1, y2, y3⟩ := box2 b1'
      have hB1 := more_below hB h1
      obtain ⟨-, q0, q1, -, -⟩ := box2 (box2_set b1' (.int .i64 (g t).h) (.slice a1 (g t).args.length c1))
      have hBe := set2_below (b := w.heap.size + 1) hB1 (by omega) (.int .i64 (g t).h) (.slice a1 (g t).args.length c1)
      have hTe := hT.keep (S := fun b => b ≠ w.heap.size + 1) (((Keep.refl _ w1).setCell (p := ⟨w.heap.size + 1, 0, none⟩) (by simp) (.int .i64 (g t).h)).setCell (p := ⟨w.heap.size + 1, 1, none⟩) (by simp) (.slice a1 (g t).args.length c1)) (fun b _ hb' e => hb' (.inr e))
      clear z0 z1 b0 b1 henter
      go_wp2
      exact bodyPost_ret (v := .agg #[.int .i64 (g t).h, .slice a1 (g t).args.length c1]) (by simp [results, Try.results83, go_sem, q0, q1]) rfl (by rw [HP.out]; exact ⟨_, rfl, hTe.bar (fun _ _ h => .inl h), hBe⟩)
    · have HP := hide (rbT_pos g t hneg)
      have hl2 : (rbL g t.args).length = t.args.length := by rw [rbL_map]; simp
      have HL2 := hide hl2
      clear hl2
      have hlt0 : w.heap.size < W.heap.size := by have := HsW.out; omega
      go_wp2
      go_loopw [20] (fun i wr => ∃ k v, k ≤ t.args.length ∧ i = .int .i64 k ∧ Build (fun b => A b ∨ b = w.heap.size + 1) w wr W.heap.size (W.heap.size + 1) 25 25 t.h v (((rbL g t.args).take k).map Tm.d) ∧ wr.heap[w.heap.size]? = some (.cells #[.int .i64 t.h, .slice a t.args.length c] 25 (0, 0)) ∧ wr.heap[w.heap.size + 1]? = some (.cells #[.int .i64 0, .slice none 0 0] 25 (0, 0))) (fun i _ => t.args.length - (intOf i).toNat)
      case atStart =>
        have := HsW.out
        exact ⟨0, .slice none 0 0, by omega, rfl, ⟨hB.alloc hB.size _, World.alloc_heap_new _ _, OwnD.nil _ _ _ _ _, by omega, by omega, by simp⟩, (Below.heap_alloc _ _ _ (by omega)).trans b0, (Below.heap_alloc _ _ _ (by omega)).trans b1⟩
      case round =>
        obtain ⟨k, v, hk, rfl, hbd, x0, x1⟩ := hrel
        obtain ⟨xw, y0, y1, -, -⟩ := box2 x0
        by_cases hlt : k < t.args.length
        · obtain ⟨b, off, a', c', rfl, hbs, hbA, g0, g1, g2⟩ := hs.2.get k hlt
          have hts : t.args[k].size ≤ n0 := by have := hsz.out; have := Tm.size_get t.args k hlt; omega
          have hkg := hkids k hlt
          have hlenk : (((rbL g t.args).take k).map Tm.d).length = k := by have := HL2.out; simp; omega
          have HLK := hide hlenk
          obtain ⟨av, cv, hv⟩ := hbd.own.shape
          rw [hlenk] at hv
          clear hlenk
          have HSW := hide HsW.out
          have l0 := (hbd.below.cell (p := ⟨b, off + k * 2, none⟩) hbs).trans g0
          have l1 := (hbd.below.cell (p := ⟨b, off + k * 2 + 1, none⟩) hbs).trans g1
          subst hv
          clear g0 g1 y0 y1
          go_wp2
          have hal : Below wr.heap.size wr (wr.alloc (.cells #[.int .i64 t.args[k].h, .slice a' t.args[k].args.length c'] 25)) := (Below.refl _ _).alloc (Nat.le_refl _) _
          have hbA := hbd.later hal
          have heb : (wr.alloc (.cells #[.int .i64 t.args[k].h, .slice a' t.args[k].args.length c'] 25)).heap[wr.heap.size]? = some (.cells #[.int .i64 t.args[k].h, .slice a' t.args[k].args.length c'] 25 (0, 0)) := World.alloc_heap_new _ _
          have xA0 := (hal.block _ (by have := HSW.out; have := hbd.lt; have := hbd.base; omega)).trans x0
          have xA1 := (hal.block _ (by have := HSW.out; have := hbd.lt; have := hbd.base; omega)).trans x1
          have hown : ∀ c, (Value.slice av k cv).ownBlock = some c → W.heap.size + 1 ≤ c ∧ c < wr.heap.size := hbd.ownlt
          have hwb : W.heap.size + 1 ≤ wr.heap.size := hbd.base
          generalize (wr.alloc (.cells #[.int .i64 t.args[k].h, .slice a' t.args[k].args.length c'] 25)) = WA at *
          clear hbd x0 x1 l0 l1 hal
          obtain ⟨-, u0, u1, u2, u3⟩ := box2 hbA.box
          obtain ⟨heA, i0, i1, -, -⟩ := box2 heb
          have CL : ∀ W', Below w.heap.size w W' → W'.heap[wr.heap.size]? = some (.cells #[.int .i64 t.args[k].h, .slice a' t.args[k].args.length c'] 25 (0, 0)) → Below w.heap.size w W' ∧ W'.cell? ⟨wr.heap.size, 0, none⟩ = some (.int .i64 t.args[k].h) ∧ W'.cell? ⟨wr.heap.size, 1, none⟩ = some (.slice a' t.args[k].args.length c') := by
            intro W' h1 h2
            obtain ⟨-, h3, h4, -, -⟩ := box2 h2
            exact ⟨h1, h3, h4⟩
          refine drawn_until (fun W' => Below w.heap.size w W' ∧ W'.cell? ⟨wr.heap.size, 0, none⟩ = some (.int .i64 t.args[k].h) ∧ W'.cell? ⟨wr.heap.size, 1, none⟩ = some (.slice a' t.args[k].args.length c'))
            (fun W' => W'.cell? ⟨W.heap.size, 1, none⟩ = some (.slice av k cv)) 6 [(0, 0), (1, 1), (2, 0), (3, 0), (4, 2), (5, 2), (6, 3), (7, 0), (8, 3)] (by kernel_rfl) (by kernel_rfl) (by kernel_rfl) (by kernel_rfl) (fun _ _ _ _ _ h => h) (CL _ hbA.below.drew heb) u1 ?_
          iterate 1 (refine v_take (v := ?_) rfl (by rfl) ?_ ?_; rotate_left; (intro w hS; obtain ⟨-, hS1, hS2⟩ := hS; go_simp; try with_reducible rfl); simp only [Act.put, List.setIfInBounds_toArray, List.set_cons_zero, List.set_cons_succ])
          iterate 1 (refine v_takeD (v := ?_) rfl (by rfl) ?_ ?_; rotate_left; (intro w hS; obtain ⟨-, hS1⟩ := hS; go_simp; try with_reducible rfl); simp only [Act.put, List.setIfInBounds_toArray, List.set_cons_zero, List.set_cons_succ])
          iterate 2 (refine v_take (v := ?_) rfl (by rfl) ?_ ?_; rotate_left; (intro w hS; obtain ⟨-, hS1, hS2⟩ := hS; go_simp; try with_reducible rfl); simp only [Act.put, List.setIfInBounds_toArray, List.set_cons_zero, List.set_cons_succ])
          refine v_do2 rfl (by rfl) ?_
          intro K hK
          go_simp
          refine (ih t.args[k] (fun b => ((A b ∨ b = w.heap.size + 1) ∨ b = W.heap.size) ∨ (Value.slice av k cv).ownBlock = some b) _ _ _ hts (fun b hb => ?_) hkg (hF.below _ _ _ (hF.bar _ _ _ hok (fun b hb h => ?_)) hbA.below.drew) (IsTm.below (A := fun b => ((A b ∨ b = w.heap.size + 1) ∨ b = W.heap.size) ∨ (Value.slice av k cv).ownBlock = some b) (IsTm.bar (⟨rfl, g2⟩ : IsTm A w _ _ _) (fun b hb h => ?_)) hbA.below.drew)).mono ?_
          · have := HSW.out
            show b < WA.heap.size
            rcases hb with ((hb | hb) | hb) | hb
            · have := hA b hb; omega
            · omega
            · omega
            · have := hown b hb; omega
          · have := HSW.out
            rcases h with ((h | h) | h) | h
            · exact h
            · omega
            · omega
            · have := hown b h; omega
          · have := HSW.out
            rcases h with ((h | h) | h) | h
            · exact h
            · omega
            · omega
            · have := hown b h; omega
          rintro e w1 ⟨s1, rfl, hT, h1⟩
          obtain ⟨a1, c1, hs1, -, -⟩ := hT.shape
          subst hs1
          have h1' : Below WA.heap.size WA w1 := more_below (Below.refl _ _).drew h1
          clear h1
          have hbd1 := hbA.later h1'
          obtain ⟨-, v0, v1, -, -⟩ := box2 hbd1.box
          have hba : W.heap.size + 1 ≤ w1.heap.size := hbd1.base
          have he1 := (h1'.block _ heA).trans heb
          have hl1 := h1'.size
          refine hK.out _ _ (CL _ hbd1.below he1) v1 ?_
          clear hK K
          refine v_do2 rfl (by rfl) ?_
          intro K hK
          go_simp
          refine hK.out _ _ (CL _ (hbd1.below.alloc hbd1.below.size _) ((Below.heap_alloc _ _ _ (by omega)).trans he1)) ((World.cell?_alloc_lt _ _ _ (by show W.heap.size < _; omega)).trans v1) ?_
          clear hK K
          refine v_do3 rfl (by rfl) ?_
          intro K hK
          refine app_op (.tmp 25) (.tmp 29) 23 rfl (W.heap.size + 1) 25 (.agg #[.int .i64 0, .slice none 0 0]) 32 Try.underlying23 (by kernel_rfl) rfl (v := .slice av k cv) (d := (rbT g t.args[k]).d) rfl rfl hbd1.own (repTm.2 ⟨_, rfl, hT⟩) rfl rfl (by rw [HLK.out]; unfold maxLen; omega) (by rw [HLK.out]; omega) hba ?_
          intro v' w2 o1 k1 o2
          obtain ⟨av', cv', o2⟩ := o2
          rw [HLK.out] at o2
          subst o2
          have hbw2 : Below w.heap.size w w2 := hbd1.below.trans ((hbd1.grow k1).mono (by have := HSW.out; omega))
          have he2 := k1.obj (fun e => by have := hown _ e; omega) he1
          have hbd2 := hbd1.step k1 o1
          obtain ⟨-, -, v3, -, v4⟩ := box2 (k1.obj (fun e => by have := hown _ e; omega) hbd1.box)
          refine hK.out _ _ (CL _ hbw2 he2) ?_
          clear hK K
          iterate 1 (refine v_take (v := ?_) rfl (by rfl) ?_ ?_; rotate_left; (intro w hS; obtain ⟨-, hS1, hS2⟩ := hS; go_simp; try with_reducible rfl); simp only [Act.put, List.setIfInBounds_toArray, List.set_cons_zero, List.set_cons_succ])
          refine v_do3 rfl (by rfl) ?_
          intro K hK
          go_simp
          refine hK.out _ _ (CL _ (hbw2.setCell (p := ⟨W.heap.size, 1, none⟩) (by show w.heap.size ≤ W.heap.size; have := HSW.out; omega) _) ((Below.heap_setCell _ _ _ _ (by show wr.heap.size ≠ W.heap.size; omega)).trans he2)) ?_
          clear hK K CL
          refine v_done ?_
          have hds : ((rbL g t.args).take k).map Tm.d ++ [(rbT g t.args[k]).d] = ((rbL g t.args).take (k + 1)).map Tm.d := by
            rw [rbL_map, List.take_succ_eq_append_getElem (by simpa using hlt)]; simp
          rw [hds] at hbd2
          have hk12 : ∀ c, c < W.heap.size + 1 → w2.heap[c]? = WA.heap[c]? := fun c hc => ((hbd1.grow k1).block c hc).trans (h1'.block c (by omega))
          have x0' : (w2.setCell ⟨W.heap.size, 1, none⟩ (.slice av' (k + 1) cv')).heap[w.heap.size]? = _ := (Below.heap_setCell _ _ _ _ (by show w.heap.size ≠ W.heap.size; have := HSW.out; omega)).trans ((hk12 _ (by have := HSW.out; omega)).trans xA0)
          have x1' : (w2.setCell ⟨W.heap.size, 1, none⟩ (.slice av' (k + 1) cv')).heap[w.heap.size + 1]? = _ := (Below.heap_setCell _ _ _ _ (by show w.heap.size + 1 ≠ W.heap.size; have := HSW.out; omega)).trans ((hk12 _ (by have := HSW.out; omega)).trans xA1)
          clear hds v3 v4 v0 v1 u0 u1 u2 u3 i0 i1
          go_wp2
          go_roundw
          case rel => exact ⟨k + 1, _, by omega, by go_num, hbd2, x0', x1'⟩
          case measure => simp [intOf]; omega
        · have hk2 : k = t.args.length := by omega
          have HT := hide (show Terms (fun b => A b ∨ b = w.heap.size + 1) wr v (rbT g t).args by
            rw [HP.out]
            have h9 := hbd.terms (fun b h => by have := HsW.out; rcases h with h | h; (have := hA b h; omega); omega)
            rwa [List.take_of_length_le (by rw [HL2.out]; omega)] at h9)
          have hlenk : (((rbL g t.args).take k).map Tm.d).length = k := by have := HL2.out; simp; omega
          obtain ⟨av, cv, hv⟩ := hbd.own.shape
          rw [hlenk] at hv
          subst hv
          obtain ⟨-, u0, u1, u2, u3⟩ := box2 hbd.box
          obtain ⟨-, q0, q1, q2, q3⟩ := box2 x1
          have hBe := set2_below (b := w.heap.size + 1) hbd.below (by omega) (.int .i64 t.h) (.slice av k cv)
          have hTe := HT.out.keep (S := fun b => b ≠ w.heap.size + 1) (((Keep.refl _ wr).setCell (p := ⟨w.heap.size + 1, 0, none⟩) (by simp) (.int .i64 t.h)).setCell (p := ⟨w.heap.size + 1, 1, none⟩) (by simp) (.slice av k cv)) (fun b _ hb' e => hb' (.inr e))
          obtain ⟨-, r0, r1, -, -⟩ := box2 (box2_set x1 (.int .i64 t.h) (.slice av k cv))
          clear hk2 hlenk
          go_wp2
          exact bodyPost_ret (v := .agg #[.int .i64 t.h, .slice av k cv]) (by simp [results, Try.results83, go_sem, r0, r1]) rfl ⟨_, by rw [HP.out]; rfl, hTe.bar (fun _ _ h => .inl h), hBe⟩
end Go.Proofs.Ythplndalbfcbbaa
set_option linter.unusedSimpArgs false
set_option linter.unusedVariables false
namespace Go.Proofs.Ythplndalbfcbbaa
open Go.RowKit
theorem subof_calls (bs : List Bd) (v : Int) (A : Nat → Prop) (s : Value) (w : World) (hv0 : 0 ≤ v) (hv1 : v ≤ 100000000) (hA : ∀ b, A b → b < w.heap.size) (hrange : ∀ b, b ∈ bs → -9223372036854775808 ≤ b.v ∧ b.v ≤ 9223372036854775807) (hs : Binds A w s bs) :
    Calls Try.prog 35 #[s, .int .i64 v] w fun e w' => Gives A w (ofBs v bs) e w' := by
  obtain ⟨a, c, rfl, hlc, hc⟩ := hs.shape
  have HE := hide (show ofT bs (.node (-1 - v) []) = ofBs v bs by
    unfold ofT
    simp only [Tm.h]
    rw [show -1 - (-1 - v) = v by omega, firstB_of])
  go_enter Try.func35, Try.ntmps35
  have hal : Below w.heap.size w (w.alloc (.cells #[.int .i64 0, .slice none 0 0] 25)) := (Below.refl _ _).alloc (Nat.le_refl _) _
  have hb0 : (w.alloc (.cells #[.int .i64 0, .slice none 0 0] 25)).heap[w.heap.size]? = some (.cells #[.int .i64 0, .slice none 0 0] 25 (0, 0)) := World.alloc_heap_new _ _
  go_wp2_with fail
  refine (open_calls bs (fun b => A b ∨ b = w.heap.size) _ _ hrange ((hs.bar (fun b hb h => by rcases h with h | h; exact h; omega)).below hal)).mono ?_
  rintro e w1 ⟨rfl, hm, h1⟩
  have hB1 := more_below hal h1
  have hb1 := (h1.block _ (by simp)).trans hb0
  clear h1 hal hb0
  go_wp2_with fail
  have hct := tabof_calls bs (.node (-1 - v) []) w.heap.size.succ (fun b => A b ∨ b = w.heap.size) (-1 - v) (.slice none 0 0) w1 (by simp only [Tm.h]; omega) (by simp only [Tm.h]; omega) (by simpa using hm) ⟨rfl, Terms.nil _ _⟩
  rw [HE.out] at hct
  have hsz1 : (w.alloc (.cells #[.int .i64 0, .slice none 0 0] 25)).heap.size = w.heap.size.succ := by simp
  refine hct.mono ?_
  rintro e w2 ⟨s2, he, hT, h2⟩
  subst he
  obtain ⟨a2, c2, rfl, -, -⟩ := hT.shape
  have hB2 := more_below hB1 h2
  have hb2 := (h2.block _ (Array.getElem?_eq_some_iff.1 hb1).1).trans hb1
  obtain ⟨-, y0, y1, y2, y3⟩ := box2 hb2
  have hBe := set2_below (b := w.heap.size) hB2 (Nat.le_refl _) (.int .i64 (ofBs v bs).h) (.slice a2 (ofBs v bs).args.length c2)
  obtain ⟨-, q0, q1, -, -⟩ := box2 (box2_set hb2 (.int .i64 (ofBs v bs).h) (.slice a2 (ofBs v bs).args.length c2))
  have hTe := hT.keep (S := fun b => b ≠ w.heap.size) (((Keep.refl _ w2).setCell (p := ⟨w.heap.size, 0, none⟩) (by simp) (.int .i64 (ofBs v bs).h)).setCell (p := ⟨w.heap.size, 1, none⟩) (by simp) (.slice a2 (ofBs v bs).args.length c2)) (fun b _ hb' e => hb' (.inr e))
  clear h2 hb1 hm
  go_wp2
  exact bodyPost_ret (v := .agg #[.int .i64 (ofBs v bs).h, .slice a2 (ofBs v bs).args.length c2]) (by simp [results, Try.results35, go_sem, q0, q1]) rfl ⟨_, rfl, hTe.bar (fun _ _ h => .inl h), hBe⟩
theorem box3 {w : World} {b : Nat} {x y z : Value} {t : TypeId} (h : w.heap[b]? = some (.cells #[x, y, z] t (0, 0))) :
    b < w.heap.size ∧ w.cell? ⟨b, 0, none⟩ = some x ∧ w.cell? ⟨b, 1, none⟩ = some y ∧ w.cell? ⟨b, 2, none⟩ = some z :=
  ⟨(Array.getElem?_eq_some_iff.1 h).1, by simp [World.cell?, h], by simp [World.cell?, h], by simp [World.cell?, h]⟩
set_option maxHeartbeats 2000000 in
theorem subcheck_calls (bs : List Bd) (A : Nat → Prop) (s : Value) (w : World) (hsz : ∀ b, b ∈ bs → b.t.size ≤ 1000000000) (hs : Binds A w s bs) :
    Calls Try.prog 32 #[s] w fun e w' => e = .returned (.int .i64 (check3 bs)) ∧ Below w.heap.size w w' := by
  obtain ⟨a, c, rfl, hlc, hc⟩ := hs.shape
  have hl : bs.length ≤ 9223372036854775807 := by omega
  have HG := hide (show okBs (-1) (bs.drop 0) = rightBs bs by simp [rightBs])
  go_enter Try.func32, Try.ntmps32
  go_wp2
  go_loopw [3, 8] (fun q i wr => ∃ (k : Nat) (x : Int), k ≤ bs.length ∧ i = .int .i64 k ∧ q = .int .i64 x ∧ -1 ≤ x ∧ Hid (okBs x (bs.drop k) = rightBs bs) ∧ Below w.heap.size w wr) (fun _ i _ => bs.length - (intOf i).toNat)
  case atStart => exact ⟨0, -1, by omega, rfl, rfl, by omega, HG, Below.refl _ _⟩
  case round =>
    obtain ⟨k, x, hk, rfl, rfl, hx1, hx, hB⟩ := hrel
    by_cases hlt : k < bs.length
    · obtain ⟨b, off, a', c', rfl, hbs, hbA, g0, g1, g2, g3⟩ := hs.get k hlt
      have hst : bs[k].t.size ≤ 1000000000 := hsz _ (List.getElem_mem _)
      have l0 := (hB.cell (p := ⟨b, off + k * 3, none⟩) hbs).trans g0
      have l1 := (hB.cell (p := ⟨b, off + k * 3 + 1, none⟩) hbs).trans g1
      have l2 := (hB.cell (p := ⟨b, off + k * 3 + 2, none⟩) hbs).trans g2
      have hx2 := hx.out
      rw [okBs_drop _ _ hlt] at hx2
      have hstep := hide hx2
      clear hx2 hx g0 g1 g2
      have hBa := hB.alloc hB.size (.cells #[.int .i64 bs[k].v, .int .i64 bs[k].t.h, .slice a' bs[k].t.args.length c'] 60)
      by_cases kA : bs[k].v ≤ x
      · have HF := hide (show check3 bs = 1 by unfold check3; rw [← hstep.out]; simp; intros; omega)
        clear hstep
        go_wp2
        go_ret
        exact ⟨ret_int HF.out.symm, hBa⟩
      by_cases kB : 255 < bs[k].v
      · have HF := hide (show check3 bs = 1 by unfold check3; rw [← hstep.out]; simp; intros; omega)
        clear hstep
        go_wp2
        go_ret
        exact ⟨ret_int HF.out.symm, hBa⟩
      have hw : IntKind.i64.wrap (-1 - bs[k].v) = -1 - bs[k].v := IntWalk.i64_in _ (by omega)
      have hnew := World.alloc_heap_new wr (.cells #[.int .i64 bs[k].v, .int .i64 bs[k].t.h, .slice a' bs[k].t.args.length c'] 60)
      go_wp2_with fail
      refine (check_calls bs[k].t A _ _ _ (IsTm.below (⟨rfl, g3⟩ : IsTm A w _ _ _) hBa) hst).mono ?_
      rintro e w1 ⟨rfl, h1⟩
      have hB1 := more_below hBa h1
      obtain ⟨-, m0, m1, m2⟩ := box3 ((h1.block _ (by simp)).trans hnew)
      clear h1 hnew l0 l1 l2
      by_cases kC : chk bs[k].t = 0
      · have HC := hide (show (chk bs[k].t != 0) = false by simp [kC])
        have KR := hide (show rightB bs[k].t = true by simp [rightB, kC])
        have HC2 := HC.out
        clear kC
        by_cases kH : bs[k].t.h = -1 - bs[k].v
        · have HF := hide (show check3 bs = 1 by unfold check3; rw [← hstep.out]; simp [kH])
          have DH : (bs[k].t.h == -1 - bs[k].v) = true := by simpa using kH
          clear hstep kH
          go_wp2
          go_ret
          exact ⟨ret_int HF.out.symm, hB1⟩
        · have HF := hide (show okBs bs[k].v (bs.drop (k + 1)) = rightBs bs by rw [← hstep.out]; simp [KR.out, kH]; intros; omega)
          have DH : (bs[k].t.h == -1 - bs[k].v) = false := by simpa using kH
          clear hstep kH
          go_wp2
          go_roundw
          case rel => exact ⟨k + 1, _, by omega, by go_num, rfl, by omega, HF, hB1⟩
          case measure => simp [intOf]; omega
      · have HC := hide (show (chk bs[k].t != 0) = true by simp [kC])
        have HF := hide (show check3 bs = 1 by unfold check3; rw [← hstep.out]; simp [rightB, kC])
        have HC2 := HC.out
        clear kC hstep
        go_wp2
        go_ret
        exact ⟨ret_int HF.out.symm, hB1⟩
    · have HF := hide (show check3 bs = 0 by have := hx.out; rw [List.drop_of_length_le (by omega)] at this; simp only [okBs] at this; simp [check3, ← this])
      clear hx
      go_wp2
      go_ret
      exact ⟨ret_int HF.out.symm, hB⟩
end Go.Proofs.Ythplndalbfcbbaa
set_option linter.unusedSimpArgs false
set_option linter.unusedVariables false
namespace Go.Proofs.Ythplndalbfcbbaa
open Go.RowKit
theorem good_neg {t : Tm} (h : t.good = true) (hn : t.h < 0) : t.args = [] := by
  rw [Tm.good_eq, Bool.and_eq_true] at h
  have h1 : ¬ okP t = false := by simp [h.1]
  rw [okP_iff] at h1
  rw [← List.length_eq_zero_iff]; omega
theorem goods_all {l : List Tm} (h : Tm.goods l = true) : ∀ t, t ∈ l → t.good = true := by
  induction l with
  | nil => simp
  | cons t ts ih =>
    simp only [Tm.goods, Bool.and_eq_true] at h
    intro u hu
    rcases List.mem_cons.1 hu with rfl | hu
    · exact h.1
    · exact ih h.2 u hu
mutual
theorem rbT_put (bs : List Bd) : ∀ t : Tm, t.good = true → rbT (ofT bs) t = putT bs t
  | .node h l, hg => by
    simp only [rbT, putT]
    split
    · rename_i hn
      have hl : l = [] := good_neg hg hn
      subst hl
      unfold ofT
      rw [← firstB_of]
      simp only [Tm.h]
      rw [show -1 - (-1 - h) = h by omega]
    · rw [rbL_put bs l (goods_all (by rw [Tm.good_eq, Bool.and_eq_true] at hg; exact hg.2))]
theorem rbL_put (bs : List Bd) : ∀ l : List Tm, (∀ t, t ∈ l → t.good = true) → rbL (ofT bs) l = putL bs l
  | [], _ => by simp [rbL, putL]
  | t :: ts, hg => by
    simp only [rbL, putL]
    rw [rbT_put bs t (hg t (by simp)), rbL_put bs ts fun u hu => hg u (by simp [hu])]
end
mutual
theorem rbT_shift (y : Int) : ∀ t : Tm, rbT (fun v => .node (v.h - y) []) t = shiftT y t
  | .node h l => by
    simp only [rbT, shiftT]
    rw [rbL_shift y l]
    rfl
theorem rbL_shift (y : Int) : ∀ l : List Tm, rbL (fun v => .node (v.h - y) []) l = shiftL y l
  | [] => by simp [rbL, shiftL]
  | t :: ts => by
    simp only [rbL, shiftL]
    rw [rbT_shift y t, rbL_shift y ts]
end
theorem serves_table (mb : Nat) (bs : List Bd) : Serves 85 (.map (some mb)) (ofT bs) (fun A w => MapBinds A w mb bs) where
  enters := enters_of Try.func85 (by kernel_rfl) rfl
  below := fun A w w' h hB => h.below hB
  bar := fun A B w h hB => h.bar hB
  gives := fun v A h s w hA hg hn hok hs => by
    have hh := (good_args hg).1
    exact tabof_calls bs v mb A h s w (by omega) (by omega) hok hs
theorem serves_shift (y : Int) (hy0 : 0 ≤ y) (hy1 : y ≤ 1000000000) : Serves 90 (.int .i64 y) (fun v => .node (v.h - y) []) (fun _ _ => True) where
  enters := enters_of Try.func90 (by kernel_rfl) rfl
  below := fun _ _ _ _ _ => trivial
  bar := fun _ _ _ _ _ => trivial
  gives := fun v A h s w hA hg hn hok hs => shof_calls y v A h s w hy0 hy1 (good_args hg).1 hn hs
set_option maxHeartbeats 1000000 in
theorem subshift_calls (y : Int) (t : Tm) (A : Nat → Prop) (h : Int) (s : Value) (w : World) (hA : ∀ b, A b → b < w.heap.size) (ht : t.size ≤ 1000000000) (hs : IsTm A w h s t) :
    Calls Try.prog 29 #[.agg #[.int .i64 h, s], .int .i64 y] w fun e w' => GivesE A w (shiftE y t) e w' := by
  obtain ⟨rfl, a, c, rfl, hlc, hc⟩ := hs.shape
  have hput := hide (Nat.le_trans (shiftT_size y t) ht)
  go_enter Try.func29, Try.ntmps29
  refine seq_cut (fun a' w' => a' = { tmps := #[.agg #[.int .i64 t.h, .slice a t.args.length c], .int .i64 y, .pointer (some ⟨w.heap.size, 0, none⟩), undef, .pointer (some ⟨w.heap.size + 1, 0, none⟩), .int .i64 0, undef, undef, undef, undef, undef, undef, undef, undef, undef, undef, undef, undef, undef, undef, undef, undef, undef, undef, undef], defers := [] } ∧ w' = (w.alloc (.cells #[.int .i64 t.h, .slice a t.args.length c] 25)).alloc (.cells #[.int .i64 0, .slice none 0 0] 25)) ?_ ?_
  · go_wp2
    first | done | exact ⟨rfl, rfl⟩ | exact ⟨trivial, trivial⟩
  rintro _ W ⟨rfl, HW⟩
  have hWa : W = allocs w [.cells #[.int .i64 t.h, .slice a t.args.length c] 25, .cells #[.int .i64 0, .slice none 0 0] 25] := HW
  have hB : Below w.heap.size w W := by rw [hWa]; exact allocs_below _ _
  have hsW : W.heap.size = w.heap.size + 2 := by rw [hWa]; exact allocs_size _ _
  have b0 : W.heap[w.heap.size]? = some (.cells #[.int .i64 t.h, .slice a t.args.length c] 25 (0, 0)) := by rw [hWa]; exact allocs_get _ _ 0 _ rfl
  have b1 : W.heap[w.heap.size + 1]? = some (.cells #[.int .i64 0, .slice none 0 0] 25 (0, 0)) := by rw [hWa]; exact allocs_get _ _ 1 _ rfl
  clear HW hWa
  have HsW := hide hsW
  clear hsW
  have Later : ∀ W', Below W.heap.size W W' → Below w.heap.size w W' ∧ W'.heap[w.heap.size]? = some (.cells #[.int .i64 t.h, .slice a t.args.length c] 25 (0, 0)) ∧ W'.heap[w.heap.size + 1]? = some (.cells #[.int .i64 0, .slice none 0 0] 25 (0, 0)) :=
    fun W' hW => ⟨more_below hB hW, (hW.block _ (by have := HsW.out; omega)).trans b0, (hW.block _ (by have := HsW.out; omega)).trans b1⟩
  obtain ⟨-, z0, z1, -, -⟩ := box2 b0
  go_wp2_with fail
  refine (check_calls t A _ _ _ (hs.below hB) ht).mono ?_
  rintro e w2 ⟨rfl, h2'⟩
  clear z0 z1
  obtain ⟨hB2, x0, x1⟩ := Later _ h2'
  obtain ⟨-, z0, z1, -, -⟩ := box2 x0
  obtain ⟨-, y0, y1, y2, y3⟩ := box2 x1
  by_cases hok : rightB t = true ∧ 0 ≤ y ∧ y ≤ 255
  · have HE := hide (show shiftE y t = endT (shiftT y t) by simp [shiftE, hok])
    obtain ⟨hr2, hy0, hy1⟩ := hok
    have hg := chk_good hr2
    have HC := hide (show (chk t != 0) = false by simpa [rightB] using hr2)
    have HC2 := HC.out
    clear hr2
    go_wp2_with fail
    have hrb := rbT_shift y t
    refine (rebuild_calls (serves_shift y hy0 (by omega)) _ t (fun b => A b ∨ b = w.heap.size + 1) _ _ _ (Nat.le_refl _) (fun b hb => ?_) hg trivial (IsTm.below (A := fun b => A b ∨ b = w.heap.size + 1) (hs.bar (fun b hb h => ?_)) hB2)).mono ?_
    · have := h2'.size; have := HsW.out
      rcases hb with hb | hb
      · have := hA b hb; omega
      · omega
    · rcases h with h | h
      · exact h
      · omega
    rw [hrb]
    clear hrb
    rintro e w3 ⟨s3, rfl, hT3, h3⟩
    have h3' := more_below h2' h3
    clear h2' h3 y0 y1 y2 y3 z0 z1 x0 x1
    obtain ⟨a3, c3, rfl, -, -⟩ := hT3.shape
    go_wp2_with fail
    refine (end_calls (shiftT y t) (fun b => A b ∨ b = w.heap.size + 1) _ _ _ hput.out ⟨rfl, hT3⟩).mono ?_
    rintro e w4 ⟨s4, rfl, hT4, h4⟩
    have h4' := more_below h3' h4
    obtain ⟨a4, c4, rfl, -, -⟩ := hT4.shape
    obtain ⟨hB4, x0, x1⟩ := Later _ h4'
    obtain ⟨-, z0, z1, -, -⟩ := box2 x0
    obtain ⟨-, y0, y1, y2, y3⟩ := box2 x1
    have hs4 : w.heap.size + 1 < w4.heap.size := (Array.getElem?_eq_some_iff.1 x1).1
    generalize hR : endT (shiftT y t) = R at *
    obtain ⟨rt, re⟩ := R
    clear h4 h3' h4' Later
    obtain ⟨-, q0, q1, -, -⟩ := box2 (box2_set x1 (.int .i64 rt.h) (.slice a4 rt.args.length c4))
    have hBe := set2_below (b := w.heap.size + 1) hB4 (by omega) (.int .i64 rt.h) (.slice a4 rt.args.length c4)
    have hTe := hT4.keep (S := fun b => b ≠ w.heap.size + 1) (((Keep.refl _ w4).setCell (p := ⟨w.heap.size + 1, 0, none⟩) (by simp) (.int .i64 rt.h)).setCell (p := ⟨w.heap.size + 1, 1, none⟩) (by simp) (.slice a4 rt.args.length c4)) (fun b _ hb' e => hb' (.inr e))
    go_wp2
    exact bodyPost_ret (v := .tuple #[.agg #[.int .i64 rt.h, .slice a4 rt.args.length c4], .int .i64 re]) (by simp [results, Try.results29, go_sem, q0, q1]) rfl (by rw [HE.out]; exact ⟨_, rfl, hTe.bar (fun _ _ h => .inl h), hBe⟩)
  · have HE := hide (show shiftE y t = (.node 0 [], 1) by simp only [shiftE]; rw [if_neg hok])
    obtain ⟨-, q0, q1, -, -⟩ := box2 (box2_set x1 (.int .i64 0) (.slice none 0 0))
    have hBe := set2_below (b := w.heap.size + 1) hB2 (by omega) (.int .i64 0) (.slice none 0 0)
    clear Later
    cases hr2 : rightB t
    · clear hok
      have HC := hide (show (chk t != 0) = true by simpa [rightB] using hr2)
      have HC2 := HC.out
      clear hr2
      go_wp2
      exact bodyPost_ret (v := .tuple #[.agg #[.int .i64 0, .slice none 0 0], .int .i64 1]) (by simp [results, Try.results29, go_sem, q0, q1]) rfl (by rw [HE.out]; exact ⟨_, rfl, Terms.nil _ _, hBe⟩)
    · by_cases hy : y < 0
      · clear hok
        have HC := hide (show (chk t != 0) = false by simpa [rightB] using hr2)
        have HC2 := HC.out
        clear hr2
        go_wp2
        exact bodyPost_ret (v := .tuple #[.agg #[.int .i64 0, .slice none 0 0], .int .i64 1]) (by simp [results, Try.results29, go_sem, q0, q1]) rfl (by rw [HE.out]; exact ⟨_, rfl, Terms.nil _ _, hBe⟩)
      · have hy1 : 255 < y := by
          by_cases h9 : 255 < y
          · exact h9
          · exact absurd ⟨hr2, by omega, by omega⟩ hok
        clear hok
        have HC := hide (show (chk t != 0) = false by simpa [rightB] using hr2)
        have HC2 := HC.out
        clear hr2
        go_wp2
        exact bodyPost_ret (v := .tuple #[.agg #[.int .i64 0, .slice none 0 0], .int .i64 1]) (by simp [results, Try.results29, go_sem, q0, q1]) rfl (by rw [HE.out]; exact ⟨_, rfl, Terms.nil _ _, hBe⟩)
end Go.Proofs.Ythplndalbfcbbaa
