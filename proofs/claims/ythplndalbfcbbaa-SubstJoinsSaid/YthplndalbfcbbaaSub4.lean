/- subst: Apply. -/
import Derived.Test.YthplndalbfcbbaaSub3
set_option linter.unusedSimpArgs false
set_option linter.unusedVariables false
namespace Go.Proofs.Ythplndalbfcbbaa
open Go.RowKit

set_option maxHeartbeats 1000000 in
theorem subapply_calls (bs : List Bd) (t : Tm) (m : Nat) (A : Nat → Prop) (h : Int) (s sb : Value) (w : World) (hA : ∀ b, A b → b < w.heap.size) (hrange : ∀ b, b ∈ bs → -9223372036854775808 ≤ b.v ∧ b.v ≤ 9223372036854775807) (hm : 1 ≤ m) (hbm : ∀ b, b ∈ bs → b.t.size ≤ m) (hm9 : m ≤ 1000000000) (ht : t.size * m ≤ 1000000000) (hsb : Binds A w sb bs) (hs : IsTm A w h s t) :
    Calls Try.prog 27 #[sb, .agg #[.int .i64 h, s]] w fun e w' => GivesE A w (applyT bs t) e w' := by
  obtain ⟨rfl, a, c, rfl, hlc, hc⟩ := hs.shape
  obtain ⟨ab, cb, rfl, hlcb, hcb⟩ := hsb.shape
  have ht1 : t.size ≤ 1000000000 := Nat.le_trans (Nat.le_mul_of_pos_right _ (by omega)) ht
  have hput := hide (Nat.le_trans (putT_size bs hm hbm t) ht)
  have hb9 : ∀ b, b ∈ bs → b.t.size ≤ 1000000000 := fun b hb => Nat.le_trans (hbm b hb) hm9
  go_enter Try.func27, Try.ntmps27
  refine seq_cut (fun a' w' => a' = { tmps := #[.slice ab bs.length cb, .agg #[.int .i64 t.h, .slice a t.args.length c], undef, .pointer (some ⟨w.heap.size, 0, none⟩), .pointer (some ⟨w.heap.size + 1, 0, none⟩), .int .i64 0, undef, undef, undef, undef, undef, undef, undef, undef, undef, undef, undef, undef, undef, undef, undef, undef, undef], defers := [] } ∧ w' = (w.alloc (.cells #[.int .i64 t.h, .slice a t.args.length c] 25)).alloc (.cells #[.int .i64 0, .slice none 0 0] 25)) ?_ ?_
  · go_wp2
    first | done | exact ⟨rfl, rfl⟩ | exact ⟨trivial, trivial⟩
  rintro _ W ⟨rfl, HW⟩
  have hWa : W = allocs w [.cells #[.int .i64 t.h, .slice a t.args.length c] 25, .cells #[.int .i64 0, .slice none 0 0] 25] := HW
  have hB : Below w.heap.size w W := by rw [hWa]; exact allocs_below _ _
  have hsW : W.heap.size = w.heap.size + 2 := by rw [hWa]; exact allocs_size _ _
  have b0 : W.heap[w.heap.size]? = some (.cells #[.int .i64 t.h, .slice a t.args.length c] 25 (0, 0)) := by rw [hWa]; exact allocs_get _ _ 0 _ rfl
  have b1 : W.heap[w.heap.size + 1]? = some (.cells #[.int .i64 0, .slice none 0 0] 25 (0, 0)) := by rw [hWa]; exact allocs_get _ _ 1 _ rfl
  clear HW hWa
  have HsW := hide hsW
  clear hsW
  have Later : ∀ W', Below W.heap.size W W' → Below w.heap.size w W' ∧ W'.heap[w.heap.size]? = some (.cells #[.int .i64 t.h, .slice a t.args.length c] 25 (0, 0)) ∧ W'.heap[w.heap.size + 1]? = some (.cells #[.int .i64 0, .slice none 0 0] 25 (0, 0)) :=
    fun W' hW => ⟨more_below hB hW, (hW.block _ (by have := HsW.out; omega)).trans b0, (hW.block _ (by have := HsW.out; omega)).trans b1⟩
  go_wp2_with fail
  refine (subcheck_calls bs A _ _ hb9 (hsb.below hB)).mono ?_
  rintro e w1 ⟨rfl, h1⟩
  obtain ⟨hB1, x0, x1⟩ := Later _ h1
  obtain ⟨-, z0, z1, -, -⟩ := box2 x0
  obtain ⟨-, y0, y1, y2, y3⟩ := box2 x1
  cases hr : rightBs bs
  · have HE := hide (show applyT bs t = (.node 0 [], 1) by simp [applyT, hr])
    obtain ⟨-, q0, q1, -, -⟩ := box2 (box2_set x1 (.int .i64 0) (.slice none 0 0))
    have hBe := set2_below (b := w.heap.size + 1) hB1 (by omega) (.int .i64 0) (.slice none 0 0)
    have HC := hide (show (check3 bs != 0) = true by simp [check3, hr])
    have HC2 := HC.out
    clear hr Later h1
    go_wp2
    exact bodyPost_ret (v := .tuple #[.agg #[.int .i64 0, .slice none 0 0], .int .i64 1]) (by simp [results, Try.results27, go_sem, q0, q1]) rfl (by rw [HE.out]; exact ⟨_, rfl, Terms.nil _ _, hBe⟩)
  · have HR := hide hr
    have HC := hide (show (check3 bs != 0) = false by simp [check3, hr])
    have HC2 := HC.out
    clear hr
    go_wp2_with fail
    refine (check_calls t A _ _ _ (hs.below hB1) ht1).mono ?_
    rintro e w2 ⟨rfl, h2⟩
    have h2' := more_below h1 h2
    clear h1 h2 y0 y1 y2 y3 z0 z1 x0 x1
    obtain ⟨hB2, x0, x1⟩ := Later _ h2'
    obtain ⟨-, z0, z1, -, -⟩ := box2 x0
    obtain ⟨-, y0, y1, y2, y3⟩ := box2 x1
    cases hr2 : rightB t
    · have HE := hide (show applyT bs t = (.node 0 [], 1) by simp [applyT, hr2])
      obtain ⟨-, q0, q1, -, -⟩ := box2 (box2_set x1 (.int .i64 0) (.slice none 0 0))
      have hBe := set2_below (b := w.heap.size + 1) hB2 (by omega) (.int .i64 0) (.slice none 0 0)
      have HD := hide (show (chk t != 0) = true by simpa [rightB] using hr2)
      have HD2 := HD.out
      clear hr2 Later
      go_wp2
      exact bodyPost_ret (v := .tuple #[.agg #[.int .i64 0, .slice none 0 0], .int .i64 1]) (by simp [results, Try.results27, go_sem, q0, q1]) rfl (by rw [HE.out]; exact ⟨_, rfl, Terms.nil _ _, hBe⟩)
    · have HE := hide (show applyT bs t = endT (putT bs t) by simp [applyT, HR.out, hr2])
      have hg := chk_good hr2
      have HD := hide (show (chk t != 0) = false by simpa [rightB] using hr2)
      have HD2 := HD.out
      clear hr2
      go_wp2_with fail
      have hS : ∀ W', Below W.heap.size W W' → Below w.heap.size w W' ∧ W'.cell? ⟨w.heap.size, 0, none⟩ = some (.int .i64 t.h) ∧ W'.cell? ⟨w.heap.size, 1, none⟩ = some (.slice a t.args.length c) := fun W' hW => by
        obtain ⟨-, x0, -⟩ := Later _ hW
        obtain ⟨-, z0, z1, -, -⟩ := box2 x0
        exact ⟨more_below hB hW, z0, z1⟩
      refine drawn_region (fun W' => Below w.heap.size w W' ∧ W'.cell? ⟨w.heap.size, 0, none⟩ = some (.int .i64 t.h) ∧ W'.cell? ⟨w.heap.size, 1, none⟩ = some (.slice a t.args.length c)) [(0, false), (1, false), (2, true), (3, false), (4, true), (5, true), (6, false), (7, false), (8, true), (9, false)] (by kernel_rfl) (by kernel_rfl) (by kernel_rfl) (by kernel_rfl) (fun _ _ _ _ _ h => h) (hS _ h2'.drew) ?_
      iterate 2 (refine seq_take (v := ?_) rfl (by rfl) ?_ ?_; rotate_left; (intro w hS; obtain ⟨-, hS1, hS2⟩ := hS; go_simp; try with_reducible rfl); simp only [Act.put, List.setIfInBounds_toArray, List.set_cons_zero, List.set_cons_succ])
      clear y0 y1 y2 y3 z0 z1 x0 x1
      refine seq_do rfl (by rfl) ?_
      intro K hK
      go_simp
      have hbar : ∀ b, b < w.heap.size → (fun b => A b ∨ b = w.heap.size + 1) b → A b := fun b hb h => by
        rcases h with h | h
        · exact h
        · omega
      refine (open_calls bs (fun b => A b ∨ b = w.heap.size + 1) _ _ hrange ((hsb.bar hbar).below hB2.drew)).mono ?_
      rintro e w3 ⟨rfl, hm3, h3⟩
      have h3' : Below W.heap.size W w3 := more_below h2'.drew h3
      clear h3
      refine hK.out _ _ (hS _ h3') ?_
      clear hK K
      iterate 1 (refine seq_take (v := ?_) rfl (by rfl) ?_ ?_; rotate_left; (intro w hS; obtain ⟨-, hS1, hS2⟩ := hS; go_simp; try with_reducible rfl); simp only [Act.put, List.setIfInBounds_toArray, List.set_cons_zero, List.set_cons_succ])
      refine seq_do rfl (by rfl) ?_
      intro K hK
      go_simp
      have hrb := rbT_put bs t hg
      refine (rebuild_calls (serves_table w2.heap.size bs) _ t (fun b => A b ∨ b = w.heap.size + 1) _ _ _ (Nat.le_refl _) (fun b hb => ?_) hg hm3 (IsTm.below (A := fun b => A b ∨ b = w.heap.size + 1) (hs.bar hbar) (more_below hB h3'))).mono ?_
      · have := h3'.size; have := HsW.out
        rcases hb with hb | hb
        · have := hA b hb; omega
        · omega
      rw [hrb]
      clear hrb
      rintro e w4 ⟨s4, rfl, hT4, h4⟩
      have h4' := more_below h3' h4
      obtain ⟨a4, c4, rfl, -, -⟩ := hT4.shape
      clear h4
      refine hK.out _ _ (hS _ h4') ?_
      clear hK K
      refine seq_do rfl (by rfl) ?_
      intro K hK
      go_simp
      refine (end_calls (putT bs t) (fun b => A b ∨ b = w.heap.size + 1) _ _ _ hput.out ⟨rfl, hT4⟩).mono ?_
      rintro e w5 ⟨s5, rfl, hT5, h5⟩
      have h5' := more_below h4' h5
      obtain ⟨a5, c5, rfl, -, -⟩ := hT5.shape
      obtain ⟨hB5, x0, x1⟩ := Later _ h5'
      obtain ⟨-, y0, y1, y2, y3⟩ := box2 x1
      generalize hR : endT (putT bs t) = R at *
      obtain ⟨rt, re⟩ := R
      clear h5
      refine hK.out _ _ (hS _ h5') ?_
      clear hK K
      iterate 2 (refine seq_take (v := ?_) rfl (by rfl) ?_ ?_; rotate_left; (intro w hS; obtain ⟨-, hS1, hS2⟩ := hS; go_simp; try with_reducible rfl); simp only [Act.put, List.setIfInBounds_toArray, List.set_cons_zero, List.set_cons_succ])
      refine seq_do rfl (by rfl) ?_
      intro K hK
      go_simp
      obtain ⟨-, q0, q1, -, -⟩ := box2 (box2_set x1 (.int .i64 rt.h) (.slice a5 rt.args.length c5))
      have hBe := set2_below (b := w.heap.size + 1) hB5 (by omega) (.int .i64 rt.h) (.slice a5 rt.args.length c5)
      have hkp := ((Keep.refl (fun b => b ≠ w.heap.size + 1) w5).setCell (p := ⟨w.heap.size + 1, 0, none⟩) (by simp) (.int .i64 rt.h)).setCell (p := ⟨w.heap.size + 1, 1, none⟩) (by simp) (.slice a5 rt.args.length c5)
      have hTe := hT5.keep (S := fun b => b ≠ w.heap.size + 1) hkp (fun b _ hb' e => hb' (.inr e))
      obtain ⟨-, p0, p1, -, -⟩ := box2 (hkp.obj (by simp) x0)
      refine hK.out _ _ ⟨hBe, p0, p1⟩ ?_
      clear hK K
      refine seq_take (v := ?_) rfl (by rfl) ?_ ?_
      rotate_left
      · intro w hS
        go_simp
        try with_reducible rfl
      simp only [Act.put, List.setIfInBounds_toArray, List.set_cons_zero, List.set_cons_succ]
      refine seq_done ?_
      go_wp2
      exact bodyPost_ret (v := .tuple #[.agg #[.int .i64 rt.h, .slice a5 rt.args.length c5], .int .i64 re]) (by simp [results, Try.results27, go_sem, q0, q1]) rfl (by rw [HE.out]; exact ⟨_, rfl, hTe.bar (fun _ _ h => .inl h), hBe⟩)
end Go.Proofs.Ythplndalbfcbbaa
