/- subst: Apply, Shift. -/
import Derived.Test.YthplndalbfcbbaaSub2
set_option linter.unusedSimpArgs false
set_option linter.unusedVariables false
namespace Go.Proofs.Ythplndalbfcbbaa
open Go.RowKit

theorem good_neg {t : Tm} (h : t.good = true) (hn : t.h < 0) : t.args = [] := by
  rw [Tm.good_eq, Bool.and_eq_true] at h
  have h1 : ¬ okP t = false := by simp [h.1]
  rw [okP_iff] at h1
  rw [← List.length_eq_zero_iff]; omega
theorem goods_all {l : List Tm} (h : Tm.goods l = true) : ∀ t, t ∈ l → t.good = true := by
  induction l with
  | nil => simp
  | cons t ts ih =>
    simp only [Tm.goods, Bool.and_eq_true] at h
    intro u hu
    rcases List.mem_cons.1 hu with rfl | hu
    · exact h.1
    · exact ih h.2 u hu
mutual
theorem rbT_put (bs : List Bd) : ∀ t : Tm, t.good = true → rbT (ofT bs) t = putT bs t
  | .node h l, hg => by
    simp only [rbT, putT]
    split
    · rename_i hn
      have hl : l = [] := good_neg hg hn
      subst hl
      unfold ofT
      rw [← firstB_of]
      simp only [Tm.h]
      rw [show -1 - (-1 - h) = h by omega]
    · rw [rbL_put bs l (goods_all (by rw [Tm.good_eq, Bool.and_eq_true] at hg; exact hg.2))]
theorem rbL_put (bs : List Bd) : ∀ l : List Tm, (∀ t, t ∈ l → t.good = true) → rbL (ofT bs) l = putL bs l
  | [], _ => by simp [rbL, putL]
  | t :: ts, hg => by
    simp only [rbL, putL]
    rw [rbT_put bs t (hg t (by simp)), rbL_put bs ts fun u hu => hg u (by simp [hu])]
end
mutual
theorem rbT_shift (y : Int) : ∀ t : Tm, rbT (fun v => .node (v.h - y) []) t = shiftT y t
  | .node h l => by
    simp only [rbT, shiftT]
    rw [rbL_shift y l]
    rfl
theorem rbL_shift (y : Int) : ∀ l : List Tm, rbL (fun v => .node (v.h - y) []) l = shiftL y l
  | [] => by simp [rbL, shiftL]
  | t :: ts => by
    simp only [rbL, shiftL]
    rw [rbT_shift y t, rbL_shift y ts]
end
theorem serves_table (mb : Nat) (bs : List Bd) : Serves 85 (.map (some mb)) (ofT bs) (fun A w => MapBinds A w mb bs) where
  enters := enters_of Try.func85 (by kernel_rfl) rfl
  below := fun A w w' h hB => h.below hB
  bar := fun A B w h hB => h.bar hB
  gives := fun v A h s w hA hg hn hok hs => by
    have hh := (good_args hg).1
    exact tabof_calls bs v mb A h s w (by omega) (by omega) hok hs
theorem serves_shift (y : Int) (hy0 : 0 ≤ y) (hy1 : y ≤ 1000000000) : Serves 90 (.int .i64 y) (fun v => .node (v.h - y) []) (fun _ _ => True) where
  enters := enters_of Try.func90 (by kernel_rfl) rfl
  below := fun _ _ _ _ _ => trivial
  bar := fun _ _ _ _ _ => trivial
  gives := fun v A h s w hA hg hn hok hs => shof_calls y v A h s w hy0 hy1 (good_args hg).1 hn hs

set_option maxHeartbeats 1000000 in
theorem subshift_calls (y : Int) (t : Tm) (A : Nat → Prop) (h : Int) (s : Value) (w : World) (hA : ∀ b, A b → b < w.heap.size) (ht : t.size ≤ 1000000000) (hs : IsTm A w h s t) :
    Calls Try.prog 29 #[.agg #[.int .i64 h, s], .int .i64 y] w fun e w' => GivesE A w (shiftE y t) e w' := by
  obtain ⟨rfl, a, c, rfl, hlc, hc⟩ := hs.shape
  have hput := hide (Nat.le_trans (shiftT_size y t) ht)
  go_enter Try.func29, Try.ntmps29
  refine seq_cut (fun a' w' => a' = { tmps := #[.agg #[.int .i64 t.h, .slice a t.args.length c], .int .i64 y, .pointer (some ⟨w.heap.size, 0, none⟩), undef, .pointer (some ⟨w.heap.size + 1, 0, none⟩), .int .i64 0, undef, undef, undef, undef, undef, undef, undef, undef, undef, undef, undef, undef, undef, undef, undef, undef, undef, undef, undef], defers := [] } ∧ w' = (w.alloc (.cells #[.int .i64 t.h, .slice a t.args.length c] 25)).alloc (.cells #[.int .i64 0, .slice none 0 0] 25)) ?_ ?_
  · go_wp2
    first | done | exact ⟨rfl, rfl⟩ | exact ⟨trivial, trivial⟩
  rintro _ W ⟨rfl, HW⟩
  have hWa : W = allocs w [.cells #[.int .i64 t.h, .slice a t.args.length c] 25, .cells #[.int .i64 0, .slice none 0 0] 25] := HW
  have hB : Below w.heap.size w W := by rw [hWa]; exact allocs_below _ _
  have hsW : W.heap.size = w.heap.size + 2 := by rw [hWa]; exact allocs_size _ _
  have b0 : W.heap[w.heap.size]? = some (.cells #[.int .i64 t.h, .slice a t.args.length c] 25 (0, 0)) := by rw [hWa]; exact allocs_get _ _ 0 _ rfl
  have b1 : W.heap[w.heap.size + 1]? = some (.cells #[.int .i64 0, .slice none 0 0] 25 (0, 0)) := by rw [hWa]; exact allocs_get _ _ 1 _ rfl
  clear HW hWa
  have HsW := hide hsW
  clear hsW
  have Later : ∀ W', Below W.heap.size W W' → Below w.heap.size w W' ∧ W'.heap[w.heap.size]? = some (.cells #[.int .i64 t.h, .slice a t.args.length c] 25 (0, 0)) ∧ W'.heap[w.heap.size + 1]? = some (.cells #[.int .i64 0, .slice none 0 0] 25 (0, 0)) :=
    fun W' hW => ⟨more_below hB hW, (hW.block _ (by have := HsW.out; omega)).trans b0, (hW.block _ (by have := HsW.out; omega)).trans b1⟩
  obtain ⟨-, z0, z1, -, -⟩ := box2 b0
  go_wp2_with fail
  refine (check_calls t A _ _ _ (hs.below hB) ht).mono ?_
  rintro e w2 ⟨rfl, h2'⟩
  clear z0 z1
  obtain ⟨hB2, x0, x1⟩ := Later _ h2'
  obtain ⟨-, z0, z1, -, -⟩ := box2 x0
  obtain ⟨-, y0, y1, y2, y3⟩ := box2 x1
  by_cases hok : rightB t = true ∧ 0 ≤ y ∧ y ≤ 255
  · have HE := hide (show shiftE y t = endT (shiftT y t) by simp [shiftE, hok])
    obtain ⟨hr2, hy0, hy1⟩ := hok
    have hg := chk_good hr2
    have HC := hide (show (chk t != 0) = false by simpa [rightB] using hr2)
    have HC2 := HC.out
    clear hr2
    go_wp2_with fail
    have hrb := rbT_shift y t
    refine (rebuild_calls (serves_shift y hy0 (by omega)) _ t (fun b => A b ∨ b = w.heap.size + 1) _ _ _ (Nat.le_refl _) (fun b hb => ?_) hg trivial (IsTm.below (A := fun b => A b ∨ b = w.heap.size + 1) (hs.bar (fun b hb h => ?_)) hB2)).mono ?_
    · have := h2'.size; have := HsW.out
      rcases hb with hb | hb
      · have := hA b hb; omega
      · omega
    · rcases h with h | h
      · exact h
      · omega
    rw [hrb]
    clear hrb
    rintro e w3 ⟨s3, rfl, hT3, h3⟩
    have h3' := more_below h2' h3
    clear h2' h3 y0 y1 y2 y3 z0 z1 x0 x1
    obtain ⟨a3, c3, rfl, -, -⟩ := hT3.shape
    go_wp2_with fail
    refine (end_calls (shiftT y t) (fun b => A b ∨ b = w.heap.size + 1) _ _ _ hput.out ⟨rfl, hT3⟩).mono ?_
    rintro e w4 ⟨s4, rfl, hT4, h4⟩
    have h4' := more_below h3' h4
    obtain ⟨a4, c4, rfl, -, -⟩ := hT4.shape
    obtain ⟨hB4, x0, x1⟩ := Later _ h4'
    obtain ⟨-, z0, z1, -, -⟩ := box2 x0
    obtain ⟨-, y0, y1, y2, y3⟩ := box2 x1
    have hs4 : w.heap.size + 1 < w4.heap.size := (Array.getElem?_eq_some_iff.1 x1).1
    generalize hR : endT (shiftT y t) = R at *
    obtain ⟨rt, re⟩ := R
    clear h4 h3' h4' Later
    obtain ⟨-, q0, q1, -, -⟩ := box2 (box2_set x1 (.int .i64 rt.h) (.slice a4 rt.args.length c4))
    have hBe := set2_below (b := w.heap.size + 1) hB4 (by omega) (.int .i64 rt.h) (.slice a4 rt.args.length c4)
    have hTe := hT4.keep (S := fun b => b ≠ w.heap.size + 1) (((Keep.refl _ w4).setCell (p := ⟨w.heap.size + 1, 0, none⟩) (by simp) (.int .i64 rt.h)).setCell (p := ⟨w.heap.size + 1, 1, none⟩) (by simp) (.slice a4 rt.args.length c4)) (fun b _ hb' e => hb' (.inr e))
    go_wp2
    exact bodyPost_ret (v := .tuple #[.agg #[.int .i64 rt.h, .slice a4 rt.args.length c4], .int .i64 re]) (by simp [results, Try.results29, go_sem, q0, q1]) rfl (by rw [HE.out]; exact ⟨_, rfl, hTe.bar (fun _ _ h => .inl h), hBe⟩)
  · have HE := hide (show shiftE y t = (.node 0 [], 1) by simp only [shiftE]; rw [if_neg hok])
    obtain ⟨-, q0, q1, -, -⟩ := box2 (box2_set x1 (.int .i64 0) (.slice none 0 0))
    have hBe := set2_below (b := w.heap.size + 1) hB2 (by omega) (.int .i64 0) (.slice none 0 0)
    clear Later
    cases hr2 : rightB t
    · clear hok
      have HC := hide (show (chk t != 0) = true by simpa [rightB] using hr2)
      have HC2 := HC.out
      clear hr2
      go_wp2
      exact bodyPost_ret (v := .tuple #[.agg #[.int .i64 0, .slice none 0 0], .int .i64 1]) (by simp [results, Try.results29, go_sem, q0, q1]) rfl (by rw [HE.out]; exact ⟨_, rfl, Terms.nil _ _, hBe⟩)
    · by_cases hy : y < 0
      · clear hok
        have HC := hide (show (chk t != 0) = false by simpa [rightB] using hr2)
        have HC2 := HC.out
        clear hr2
        go_wp2
        exact bodyPost_ret (v := .tuple #[.agg #[.int .i64 0, .slice none 0 0], .int .i64 1]) (by simp [results, Try.results29, go_sem, q0, q1]) rfl (by rw [HE.out]; exact ⟨_, rfl, Terms.nil _ _, hBe⟩)
      · have hy1 : 255 < y := by
          by_cases h9 : 255 < y
          · exact h9
          · exact absurd ⟨hr2, by omega, by omega⟩ hok
        clear hok
        have HC := hide (show (chk t != 0) = false by simpa [rightB] using hr2)
        have HC2 := HC.out
        clear hr2
        go_wp2
        exact bodyPost_ret (v := .tuple #[.agg #[.int .i64 0, .slice none 0 0], .int .i64 1]) (by simp [results, Try.results29, go_sem, q0, q1]) rfl (by rw [HE.out]; exact ⟨_, rfl, Terms.nil _ _, hBe⟩)
end Go.Proofs.Ythplndalbfcbbaa
