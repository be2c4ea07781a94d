/- The reference's layer 3: Apply, Shift. -/
import Derived.Test.YthplndalbfcbbaaRef3c
set_option linter.unusedSimpArgs false
set_option linter.unusedVariables false
namespace Go.Proofs.Ythplndalbfcbbaa
open Go.RowKit

def applyT (bs : List Bd) (t : Tm) : Tm × Int := if rightBs bs = true ∧ rightB t = true then endT (putT bs t) else (.node 0 [], 1)
def shiftE (y : Int) (t : Tm) : Tm × Int := if rightB t = true ∧ 0 ≤ y ∧ y ≤ 255 then endT (shiftT y t) else (.node 0 [], 1)

set_option maxHeartbeats 1000000 in
theorem apply3_calls (bs : List Bd) (t : Tm) (m : Nat) (A : Nat → Prop) (h : Int) (s sb : Value) (w : World) (hA : ∀ b, A b → b < w.heap.size) (hm : 1 ≤ m) (hbm : ∀ b, b ∈ bs → b.t.size ≤ m) (hm9 : m ≤ 1000000000) (ht : t.size * m ≤ 1000000000) (hsb : Binds A w sb bs) (hs : IsTm A w h s t) :
    Calls Try.prog 28 #[sb, .agg #[.int .i64 h, s]] w fun e w' => GivesE A w (applyT bs t) e w' := by
  obtain ⟨rfl, a, c, rfl, hlc, hc⟩ := hs.shape
  obtain ⟨ab, cb, rfl, hlcb, hcb⟩ := hsb.shape
  have ht1 : t.size ≤ 1000000000 := Nat.le_trans (Nat.le_mul_of_pos_right _ (by omega)) ht
  have hput := hide (Nat.le_trans (putT_size bs hm hbm t) ht)
  have hb9 : ∀ b, b ∈ bs → b.t.size ≤ 1000000000 := fun b hb => Nat.le_trans (hbm b hb) hm9
  go_enter Try.func28, Try.ntmps28
  refine seq_cut (fun a' w' => a' = { tmps := #[.slice ab bs.length cb, .agg #[.int .i64 t.h, .slice a t.args.length c], undef, .pointer (some ⟨w.heap.size, 0, none⟩), .pointer (some ⟨w.heap.size + 1, 0, none⟩), .int .i64 0, undef, undef, undef, undef, undef, undef, undef, undef, undef, undef, undef, undef, undef, undef, undef, undef, undef, undef, undef, undef], defers := [] } ∧ w' = (w.alloc (.cells #[.int .i64 t.h, .slice a t.args.length c] 25)).alloc (.cells #[.int .i64 0, .slice none 0 0] 25)) ?_ ?_
  · go_wp2
    first | done | exact ⟨rfl, rfl⟩ | exact ⟨trivial, trivial⟩
  rintro _ W ⟨rfl, HW⟩
  have hWa : W = allocs w [.cells #[.int .i64 t.h, .slice a t.args.length c] 25, .cells #[.int .i64 0, .slice none 0 0] 25] := HW
  have hB : Below w.heap.size w W := by rw [hWa]; exact allocs_below _ _
  have hsW : W.heap.size = w.heap.size + 2 := by rw [hWa]; exact allocs_size _ _
  have b0 : W.heap[w.heap.size]? = some (.cells #[.int .i64 t.h, .slice a t.args.length c] 25 (0, 0)) := by rw [hWa]; exact allocs_get _ _ 0 _ rfl
  have b1 : W.heap[w.heap.size + 1]? = some (.cells #[.int .i64 0, .slice none 0 0] 25 (0, 0)) := by rw [hWa]; exact allocs_get _ _ 1 _ rfl
  clear HW hWa
  have HsW := hide hsW
  clear hsW
  have Later : ∀ W', Below W.heap.size W W' → Below w.heap.size w W' ∧ W'.heap[w.heap.size]? = some (.cells #[.int .i64 t.h, .slice a t.args.length c] 25 (0, 0)) ∧ W'.heap[w.heap.size + 1]? = some (.cells #[.int .i64 0, .slice none 0 0] 25 (0, 0)) :=
    fun W' hW => ⟨more_below hB hW, (hW.block _ (by have := HsW.out; omega)).trans b0, (hW.block _ (by have := HsW.out; omega)).trans b1⟩
  go_wp2_with fail
  refine (right3_calls bs A _ _ hb9 (hsb.below hB)).mono ?_
  rintro e w1 ⟨rfl, h1⟩
  obtain ⟨hB1, x0, x1⟩ := Later _ h1
  obtain ⟨-, z0, z1, -, -⟩ := box2 x0
  obtain ⟨-, y0, y1, y2, y3⟩ := box2 x1
  cases hr : rightBs bs
  · have HE := hide (show applyT bs t = (.node 0 [], 1) by simp [applyT, hr])
    obtain ⟨-, q0, q1, -, -⟩ := box2 (box2_set x1 (.int .i64 0) (.slice none 0 0))
    have hBe := set2_below (b := w.heap.size + 1) hB1 (by omega) (.int .i64 0) (.slice none 0 0)
    clear hr Later h1
    go_wp2
    exact bodyPost_ret (v := .tuple #[.agg #[.int .i64 0, .slice none 0 0], .int .i64 1]) (by simp [results, Try.results28, go_sem, q0, q1]) rfl (by rw [HE.out]; exact ⟨_, rfl, Terms.nil _ _, hBe⟩)
  · have HR := hide hr
    clear hr
    go_wp2_with fail
    refine (right_calls t A _ _ _ ht1 (hs.below hB1)).mono ?_
    rintro e w2 ⟨rfl, h2⟩
    have h2' := more_below h1 h2
    clear h1 h2 y0 y1 y2 y3 z0 z1 x0 x1
    obtain ⟨hB2, x0, x1⟩ := Later _ h2'
    obtain ⟨-, z0, z1, -, -⟩ := box2 x0
    obtain ⟨-, y0, y1, y2, y3⟩ := box2 x1
    cases hr2 : rightB t
    · have HE := hide (show applyT bs t = (.node 0 [], 1) by simp [applyT, hr2])
      obtain ⟨-, q0, q1, -, -⟩ := box2 (box2_set x1 (.int .i64 0) (.slice none 0 0))
      have hBe := set2_below (b := w.heap.size + 1) hB2 (by omega) (.int .i64 0) (.slice none 0 0)
      clear hr2 Later
      go_wp2
      exact bodyPost_ret (v := .tuple #[.agg #[.int .i64 0, .slice none 0 0], .int .i64 1]) (by simp [results, Try.results28, go_sem, q0, q1]) rfl (by rw [HE.out]; exact ⟨_, rfl, Terms.nil _ _, hBe⟩)
    · have HE := hide (show applyT bs t = endT (putT bs t) by simp [applyT, HR.out, hr2])
      have hg := chk_good hr2
      clear hr2
      go_wp2_with fail
      refine (put_calls bs _ t (fun b => A b ∨ b = w.heap.size + 1) _ _ _ _ (Nat.le_refl _) (fun b hb => ?_) hg ((hsb.bar (fun b hb h => ?_)).below hB2) (IsTm.below (A := fun b => A b ∨ b = w.heap.size + 1) (hs.bar (fun b hb h => ?_)) hB2)).mono ?_
      · have := h2'.size; have := HsW.out
        rcases hb with hb | hb
        · have := hA b hb; omega
        · omega
      · rcases h with h | h
        · exact h
        · omega
      · rcases h with h | h
        · exact h
        · omega
      rintro e w3 ⟨s3, rfl, hT3, h3⟩
      have h3' := more_below h2' h3
      clear h2' h3 y0 y1 y2 y3 z0 z1 x0 x1
      obtain ⟨a3, c3, rfl, -, -⟩ := hT3.shape
      go_wp2_with fail
      refine (end3_calls (putT bs t) (fun b => A b ∨ b = w.heap.size + 1) _ _ _ hput.out ⟨rfl, hT3⟩).mono ?_
      rintro e w4 ⟨s4, rfl, hT4, h4⟩
      have h4' := more_below h3' h4
      obtain ⟨a4, c4, rfl, -, -⟩ := hT4.shape
      obtain ⟨hB4, x0, x1⟩ := Later _ h4'
      obtain ⟨-, z0, z1, -, -⟩ := box2 x0
      obtain ⟨-, y0, y1, y2, y3⟩ := box2 x1
      have hs4 : w.heap.size + 1 < w4.heap.size := (Array.getElem?_eq_some_iff.1 x1).1
      generalize hR : endT (putT bs t) = R at *
      obtain ⟨rt, re⟩ := R
      clear h4 h3' h4' Later
      obtain ⟨hBe, hTe, q0, q1⟩ := fin2 hB4 (by omega) x1 hT4 (.int .i64 rt.h) (.cells #[.int .i64 rt.h, .slice a4 rt.args.length c4] 25)
      go_wp2
      exact bodyPost_ret (v := .tuple #[.agg #[.int .i64 rt.h, .slice a4 rt.args.length c4], .int .i64 re]) (by simp [results, Try.results28, go_sem, q0, q1]) rfl (by rw [HE.out]; exact ⟨_, rfl, hTe, hBe⟩)

set_option maxHeartbeats 1000000 in
theorem shift3_calls (y : Int) (t : Tm) (A : Nat → Prop) (h : Int) (s : Value) (w : World) (hA : ∀ b, A b → b < w.heap.size) (ht : t.size ≤ 1000000000) (hs : IsTm A w h s t) :
    Calls Try.prog 30 #[.agg #[.int .i64 h, s], .int .i64 y] w fun e w' => GivesE A w (shiftE y t) e w' := by
  obtain ⟨rfl, a, c, rfl, hlc, hc⟩ := hs.shape
  have hput := hide (Nat.le_trans (shiftT_size y t) ht)
  go_enter Try.func30, Try.ntmps30
  refine seq_cut (fun a' w' => a' = { tmps := #[.agg #[.int .i64 t.h, .slice a t.args.length c], .int .i64 y, .pointer (some ⟨w.heap.size, 0, none⟩), undef, .pointer (some ⟨w.heap.size + 1, 0, none⟩), .int .i64 0, undef, undef, undef, undef, undef, undef, undef, undef, undef, undef, undef, undef, undef, undef, undef, undef, undef, undef, undef, undef, undef, undef, undef], defers := [] } ∧ w' = (w.alloc (.cells #[.int .i64 t.h, .slice a t.args.length c] 25)).alloc (.cells #[.int .i64 0, .slice none 0 0] 25)) ?_ ?_
  · go_wp2
    first | done | exact ⟨rfl, rfl⟩ | exact ⟨trivial, trivial⟩
  rintro _ W ⟨rfl, HW⟩
  have hWa : W = allocs w [.cells #[.int .i64 t.h, .slice a t.args.length c] 25, .cells #[.int .i64 0, .slice none 0 0] 25] := HW
  have hB : Below w.heap.size w W := by rw [hWa]; exact allocs_below _ _
  have hsW : W.heap.size = w.heap.size + 2 := by rw [hWa]; exact allocs_size _ _
  have b0 : W.heap[w.heap.size]? = some (.cells #[.int .i64 t.h, .slice a t.args.length c] 25 (0, 0)) := by rw [hWa]; exact allocs_get _ _ 0 _ rfl
  have b1 : W.heap[w.heap.size + 1]? = some (.cells #[.int .i64 0, .slice none 0 0] 25 (0, 0)) := by rw [hWa]; exact allocs_get _ _ 1 _ rfl
  clear HW hWa
  have HsW := hide hsW
  clear hsW
  have Later : ∀ W', Below W.heap.size W W' → Below w.heap.size w W' ∧ W'.heap[w.heap.size]? = some (.cells #[.int .i64 t.h, .slice a t.args.length c] 25 (0, 0)) ∧ W'.heap[w.heap.size + 1]? = some (.cells #[.int .i64 0, .slice none 0 0] 25 (0, 0)) :=
    fun W' hW => ⟨more_below hB hW, (hW.block _ (by have := HsW.out; omega)).trans b0, (hW.block _ (by have := HsW.out; omega)).trans b1⟩
  obtain ⟨-, z0, z1, -, -⟩ := box2 b0
  go_wp2_with fail
  refine (right_calls t A _ _ _ ht (hs.below hB)).mono ?_
  rintro e w2 ⟨rfl, h2'⟩
  clear z0 z1
  obtain ⟨hB2, x0, x1⟩ := Later _ h2'
  obtain ⟨-, z0, z1, -, -⟩ := box2 x0
  obtain ⟨-, y0, y1, y2, y3⟩ := box2 x1
  by_cases hok : rightB t = true ∧ 0 ≤ y ∧ y ≤ 255
  · have HE := hide (show shiftE y t = endT (shiftT y t) by simp [shiftE, hok])
    obtain ⟨hr2, hy0, hy1⟩ := hok
    have hg := chk_good hr2
    go_wp2_with fail
    refine (shift_calls y hy0 (by omega) _ t (fun b => A b ∨ b = w.heap.size + 1) _ _ _ (Nat.le_refl _) (fun b hb => ?_) hg (IsTm.below (A := fun b => A b ∨ b = w.heap.size + 1) (hs.bar (fun b hb h => ?_)) hB2)).mono ?_
    · have := h2'.size; have := HsW.out
      rcases hb with hb | hb
      · have := hA b hb; omega
      · omega
    · rcases h with h | h
      · exact h
      · omega
    rintro e w3 ⟨s3, rfl, hT3, h3⟩
    have h3' := more_below h2' h3
    clear h2' h3 y0 y1 y2 y3 z0 z1 x0 x1
    obtain ⟨a3, c3, rfl, -, -⟩ := hT3.shape
    go_wp2_with fail
    refine (end3_calls (shiftT y t) (fun b => A b ∨ b = w.heap.size + 1) _ _ _ hput.out ⟨rfl, hT3⟩).mono ?_
    rintro e w4 ⟨s4, rfl, hT4, h4⟩
    have h4' := more_below h3' h4
    obtain ⟨a4, c4, rfl, -, -⟩ := hT4.shape
    obtain ⟨hB4, x0, x1⟩ := Later _ h4'
    obtain ⟨-, z0, z1, -, -⟩ := box2 x0
    obtain ⟨-, y0, y1, y2, y3⟩ := box2 x1
    have hs4 : w.heap.size + 1 < w4.heap.size := (Array.getElem?_eq_some_iff.1 x1).1
    generalize hR : endT (shiftT y t) = R at *
    obtain ⟨rt, re⟩ := R
    clear h4 h3' h4' Later
    obtain ⟨hBe, hTe, q0, q1⟩ := fin2 hB4 (by omega) x1 hT4 (.int .i64 rt.h) (.cells #[.int .i64 rt.h, .slice a4 rt.args.length c4] 25)
    go_wp2
    exact bodyPost_ret (v := .tuple #[.agg #[.int .i64 rt.h, .slice a4 rt.args.length c4], .int .i64 re]) (by simp [results, Try.results30, go_sem, q0, q1]) rfl (by rw [HE.out]; exact ⟨_, rfl, hTe, hBe⟩)
  · have HE := hide (show shiftE y t = (.node 0 [], 1) by simp only [shiftE]; rw [if_neg hok])
    obtain ⟨-, q0, q1, -, -⟩ := box2 (box2_set x1 (.int .i64 0) (.slice none 0 0))
    have hBe := set2_below (b := w.heap.size + 1) hB2 (by omega) (.int .i64 0) (.slice none 0 0)
    clear Later
    cases hr2 : rightB t
    · clear hok
      have HR := hide hr2
      clear hr2
      go_wp2
      exact bodyPost_ret (v := .tuple #[.agg #[.int .i64 0, .slice none 0 0], .int .i64 1]) (by simp [results, Try.results30, go_sem, q0, q1]) rfl (by rw [HE.out]; exact ⟨_, rfl, Terms.nil _ _, hBe⟩)
    · by_cases hy : y < 0
      · clear hok
        have HR := hide hr2
        clear hr2
        go_wp2
        exact bodyPost_ret (v := .tuple #[.agg #[.int .i64 0, .slice none 0 0], .int .i64 1]) (by simp [results, Try.results30, go_sem, q0, q1]) rfl (by rw [HE.out]; exact ⟨_, rfl, Terms.nil _ _, hBe⟩)
      · have hy1 : 255 < y := by
          by_cases h9 : 255 < y
          · exact h9
          · exact absurd ⟨hr2, by omega, by omega⟩ hok
        clear hok
        have HR := hide hr2
        clear hr2
        go_wp2
        exact bodyPost_ret (v := .tuple #[.agg #[.int .i64 0, .slice none 0 0], .int .i64 1]) (by simp [results, Try.results30, go_sem, q0, q1]) rfl (by rw [HE.out]; exact ⟨_, rfl, Terms.nil _ _, hBe⟩)
end Go.Proofs.Ythplndalbfcbbaa
