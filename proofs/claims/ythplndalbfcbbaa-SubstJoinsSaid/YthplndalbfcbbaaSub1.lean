/- subst: end, shifter.of, rebuild, Check. -/
import Derived.Test.YthplndalbfcbbaaCheck
import Derived.Test.YthplndalbfcbbaaRef3d
set_option linter.unusedSimpArgs false
set_option linter.unusedVariables false
namespace Go.Proofs.Ythplndalbfcbbaa
open Go.RowKit

theorem end_calls (t : Tm) (A : Nat → Prop) (h : Int) (s : Value) (w : World) (ht : t.size ≤ 1000000000) (hs : IsTm A w h s t) :
    Calls Try.prog 82 #[.agg #[.int .i64 h, s]] w fun e w' => GivesE A w (endT t) e w' := by
  obtain ⟨rfl, a, c, rfl, hlc, hc⟩ := hs.shape
  go_enter Try.func82, Try.ntmps82
  refine seq_cut (fun a' w' => a' = { tmps := #[.agg #[.int .i64 t.h, .slice a t.args.length c], .pointer (some ⟨w.heap.size, 0, none⟩), .pointer (some ⟨w.heap.size + 1, 0, none⟩), .int .i64 0, undef, undef, undef, undef, undef, undef, undef, undef], defers := [] } ∧ w' = (w.alloc (.cells #[.int .i64 t.h, .slice a t.args.length c] 25)).alloc (.cells #[.int .i64 0, .slice none 0 0] 25)) ?_ ?_
  · go_wp2
    first | done | exact ⟨rfl, rfl⟩ | exact ⟨trivial, trivial⟩
  rintro _ W ⟨rfl, HW⟩
  have hWa : W = allocs w [.cells #[.int .i64 t.h, .slice a t.args.length c] 25, .cells #[.int .i64 0, .slice none 0 0] 25] := HW
  have hB : Below w.heap.size w W := by rw [hWa]; exact allocs_below _ _
  have hsW : W.heap.size = w.heap.size + 2 := by rw [hWa]; exact allocs_size _ _
  have b0 : W.heap[w.heap.size]? = some (.cells #[.int .i64 t.h, .slice a t.args.length c] 25 (0, 0)) := by rw [hWa]; exact allocs_get _ _ 0 _ rfl
  have b1 : W.heap[w.heap.size + 1]? = some (.cells #[.int .i64 0, .slice none 0 0] 25 (0, 0)) := by rw [hWa]; exact allocs_get _ _ 1 _ rfl
  clear HW hWa
  have HsW := hide hsW
  clear hsW
  obtain ⟨-, z0, z1, -, -⟩ := box2 b0
  go_wp2_with fail
  refine (check_calls t A _ _ _ (hs.below hB) ht).mono ?_
  rintro e w1 ⟨rfl, h1⟩
  have x0 := (h1.block _ (by have := HsW.out; omega)).trans b0
  have x1 := (h1.block _ (by have := HsW.out; omega)).trans b1
  have hB1 := more_below hB h1
  clear h1 z0 z1 b0 b1
  obtain ⟨-, z0, z1, -, -⟩ := box2 x0
  obtain ⟨-, y0, y1, y2, y3⟩ := box2 x1
  by_cases hk : chk t = 0
  · have HE := hide (show endT t = (t, 0) by simp [endT, hk])
    have HK := hide (show (chk t != 0) = false by simp [hk])
    obtain ⟨-, q0, q1, -, -⟩ := box2 (box2_set x1 (.int .i64 t.h) (.slice a t.args.length c))
    have hBe := set2_below (b := w.heap.size + 1) hB1 (by omega) (.int .i64 t.h) (.slice a t.args.length c)
    have hTe := hs.2.below hBe
    have HK2 := HK.out
    clear hk
    go_wp2
    exact bodyPost_ret (v := .tuple #[.agg #[.int .i64 t.h, .slice a t.args.length c], .int .i64 0]) (by simp [results, Try.results82, go_sem, q0, q1]) rfl (by rw [HE.out]; exact ⟨_, rfl, hTe, hBe⟩)
  · have HE := hide (show endT t = (.node 0 [], chk t) by simp [endT, hk])
    have HK := hide (show (chk t != 0) = true by simp [hk])
    obtain ⟨-, q0, q1, -, -⟩ := box2 (box2_set x1 (.int .i64 0) (.slice none 0 0))
    have hBe := set2_below (b := w.heap.size + 1) hB1 (by omega) (.int .i64 0) (.slice none 0 0)
    have HK2 := HK.out
    clear hk
    go_wp2
    exact bodyPost_ret (v := .tuple #[.agg #[.int .i64 0, .slice none 0 0], .int .i64 (chk t)]) (by simp [results, Try.results82, go_sem, q0, q1]) rfl (by rw [HE.out]; exact ⟨_, rfl, Terms.nil _ _, hBe⟩)

theorem shof_calls (y : Int) (t : Tm) (A : Nat → Prop) (h : Int) (s : Value) (w : World) (hy0 : 0 ≤ y) (hy1 : y ≤ 1000000000) (hh : -256 ≤ t.h) (hneg : t.h < 0) (hs : IsTm A w h s t) :
    Calls Try.prog 90 #[.int .i64 y, .agg #[.int .i64 h, s]] w fun e w' => Gives A w (.node (t.h - y) []) e w' := by
  obtain ⟨rfl, a, c, rfl, hlc, hc⟩ := hs.shape
  go_enter Try.func90, Try.ntmps90
  refine seq_cut (fun a' w' => a' = { tmps := #[.int .i64 y, .agg #[.int .i64 t.h, .slice a t.args.length c], undef, .pointer (some ⟨w.heap.size, 0, none⟩), .pointer (some ⟨w.heap.size + 1, 0, none⟩), undef, undef, undef, undef, undef], defers := [] } ∧ w' = (w.alloc (.cells #[.int .i64 t.h, .slice a t.args.length c] 25)).alloc (.cells #[.int .i64 0, .slice none 0 0] 25)) ?_ ?_
  · go_wp2
    first | done | exact ⟨rfl, rfl⟩ | exact ⟨trivial, trivial⟩
  rintro _ W ⟨rfl, HW⟩
  have hWa : W = allocs w [.cells #[.int .i64 t.h, .slice a t.args.length c] 25, .cells #[.int .i64 0, .slice none 0 0] 25] := HW
  have hB : Below w.heap.size w W := by rw [hWa]; exact allocs_below _ _
  have hsW : W.heap.size = w.heap.size + 2 := by rw [hWa]; exact allocs_size _ _
  have b0 : W.heap[w.heap.size]? = some (.cells #[.int .i64 t.h, .slice a t.args.length c] 25 (0, 0)) := by rw [hWa]; exact allocs_get _ _ 0 _ rfl
  have b1 : W.heap[w.heap.size + 1]? = some (.cells #[.int .i64 0, .slice none 0 0] 25 (0, 0)) := by rw [hWa]; exact allocs_get _ _ 1 _ rfl
  clear HW hWa hsW
  obtain ⟨-, z0, z1, -, -⟩ := box2 b0
  obtain ⟨-, y0, y1, y2, y3⟩ := box2 b1
  obtain ⟨-, q0, q1, -, -⟩ := box2 (box2_set b1 (.int .i64 (t.h - y)) (.slice none 0 0))
  have hBe := set2_below (b := w.heap.size + 1) hB (by omega) (.int .i64 (t.h - y)) (.slice none 0 0)
  go_wp2
  exact bodyPost_ret (v := .agg #[.int .i64 (t.h - y), .slice none 0 0]) (by simp [results, Try.results90, go_sem, q0, q1]) rfl ⟨_, rfl, Terms.nil _ _, hBe⟩
end Go.Proofs.Ythplndalbfcbbaa
