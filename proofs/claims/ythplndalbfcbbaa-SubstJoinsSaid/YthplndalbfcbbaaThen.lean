/- SubstThen, walked. -/
import Derived.Test.YthplndalbfcbbaaAwake
import Derived.Test.YthplndalbfcbbaaThenWalk
import Derived.Test.YthplndalbfcbbaaDoes
set_option linter.unusedSimpArgs false
set_option linter.unusedVariables false
namespace Go.Proofs.Ythplndalbfcbbaa
open Go.RowKit

theorem end_small (t : Tm) : (endT t).1.size ≤ 400 := by
  unfold endT
  split
  · rename_i h; exact right_size h
  · simp [Tm.size, Tm.sizes]
theorem apply_small (bs : List Bd) (t : Tm) : (applyT bs t).1.size ≤ 400 := by
  unfold applyT
  split
  · exact end_small _
  · simp [Tm.size, Tm.sizes]
theorem then_small (s u : List Bd) : ∀ b, b ∈ (thenT s u).1 → b.t.size ≤ 400 ∧ 0 ≤ b.v ∧ b.v ≤ 255 := by
  intro b hb
  unfold thenT at hb
  split at hb
  · unfold thenP at hb
    split at hb
    · rename_i h0
      simp only [bothL, List.mem_map, List.mem_filter] at hb
      obtain ⟨v, ⟨h1, h2⟩, rfl⟩ := hb
      have := mem_upto.1 h1
      exact ⟨right_size (thenE_zero h0 v h1), by simp only; omega, by simp only; omega⟩
    · simp at hb
  · simp at hb
theorem then_length (s u : List Bd) : (thenT s u).1.length ≤ 256 := by
  unfold thenT
  split
  · unfold thenP
    split
    · have := bothL_length s u (upto 256)
      have h2 : (upto 256).length = 256 := by simp [upto]
      simp only; omega
    · simp
  · simp
theorem few_length {bs : List Bd} (h : fewBs bs = true) : bs.length ≤ 10 := by
  simp only [fewBs, Bool.and_eq_true, decide_eq_true_eq] at h
  exact h.1

set_option maxHeartbeats 8000000 in
set_option maxRecDepth 100000 in
theorem then_calls (ss us : List Bd) (t : Tm) (h : Int) (s sb ub : Value) (w : World) (hr1 : ∀ b, b ∈ ss → -9223372036854775808 ≤ b.v ∧ b.v ≤ 9223372036854775807) (hr2 : ∀ b, b ∈ us → -9223372036854775808 ≤ b.v ∧ b.v ≤ 9223372036854775807)
    (hsb : Binds (fun _ => False) w sb ss) (hub : Binds (fun _ => False) w ub us) (hs : IsTm (fun _ => False) w h s t) :
    Calls Try.prog 8 #[sb, ub, .agg #[.int .i64 h, s]] w fun e w' => e = .returned (.bool true) ∧ Below w.heap.size w w' := by
  obtain ⟨rfl, a, c, rfl, hlc, hc⟩ := hs.shape
  obtain ⟨a1, d1, rfl, hd1, hd1'⟩ := hsb.shape
  obtain ⟨a2, d2, rfl, hd2, hd2'⟩ := hub.shape
  have HR1 := hide hr1
  have HR2 := hide hr2
  clear hr1 hr2
  go_enter Try.func8, Try.ntmps8
  have B0 : Below w.heap.size w (w.alloc (.cells #[.int .i64 t.h, .slice a t.args.length c] 25)) := (Below.refl _ _).alloc (Nat.le_refl _) _
  have k0 : (w.alloc (.cells #[.int .i64 t.h, .slice a t.args.length c] 25)).heap[w.heap.size]? = some (.cells #[.int .i64 t.h, .slice a t.args.length c] 25 (0, 0)) := World.alloc_heap_new _ _
  go_wp2_with fail
  refine (few3_calls ss (fun _ => False) _ _ (hsb.below B0)).mono ?_
  rintro e w1 ⟨rfl, h1⟩
  have B1 := more_below B0 h1
  have k1 := (h1.block _ (Array.getElem?_eq_some_iff.1 k0).1).trans k0
  clear h1 k0 B0
  obtain ⟨L1, z0, z1, -, -⟩ := box2 k1
  cases hf1 : fewBs ss
  · have HF := hide hf1
    clear hf1
    go_wp2
    go_ret
    exact ⟨rfl, B1⟩
  have HM1 := hide (few_sizes hf1)
  have HL1 := hide (few_length hf1)
  clear hf1
  go_wp2_with fail
  refine (few3_calls us (fun _ => False) _ _ (hub.below B1)).mono ?_
  rintro e w2 ⟨rfl, h2⟩
  have B2 := more_below B1 h2
  have k2 := (h2.block _ L1).trans k1
  clear h2 k1 B1 z0 z1 L1
  obtain ⟨L2, z0, z1, -, -⟩ := box2 k2
  cases hf2 : fewBs us
  · have HF := hide hf2
    clear hf2
    go_wp2
    go_ret
    exact ⟨rfl, B2⟩
  have HM2 := hide (few_sizes hf2)
  have HL2 := hide (few_length hf2)
  clear hf2
  go_wp2_with fail
  refine (few1_calls t (fun _ => False) _ _ _ (hs.below B2)).mono ?_
  rintro e w3 ⟨rfl, h3⟩
  have B3 := more_below B2 h3
  have k3 := (h3.block _ L2).trans k2
  clear h3 k2 B2 z0 z1 L2
  obtain ⟨L3, z0, z1, -, -⟩ := box2 k3
  cases hf3 : fewB t
  · have HF := hide hf3
    clear hf3
    go_wp2
    go_ret
    exact ⟨rfl, B3⟩
  have hts := few_size hf3
  clear hf3
  have HTA := hide (then_apply (s := ss) (u := us) (t := t))
  have HTS := hide (then_small ss us)
  have HTL := hide (then_length ss us)
  have HAS := hide (apply_small ss t)
  go_wp2_with fail
  have hc1 := subthen_calls ss us 500 (.slice a1 ss.length d1) (.slice a2 us.length d2) w3 HR1.out HR2.out (by omega) (by omega) (by omega) HM1.out HM2.out (by have := HL1.out; omega) (by have := HL2.out; omega) (hsb.below B3) (hub.below B3)
  generalize hRt : thenT ss us = Rt at *
  obtain ⟨bb, ee⟩ := Rt
  refine hc1.mono ?_
  rintro e w4 ⟨vb, rfl, hbb, h4⟩
  obtain ⟨a3, d3, rfl, hd3, hd3'⟩ := hbb.shape
  have B4 := more_below B3 h4
  have k4 := (h4.block _ L3).trans k3
  clear hc1 h4 k3 B3 z0 z1 L3
  obtain ⟨L4, z0, z1, -, -⟩ := box2 k4
  go_wp2_with fail
  have hc2 := subapply_calls ss t 500 (fun _ => False) t.h (.slice a t.args.length c) (.slice a1 ss.length d1) w4 (fun _ h => h.elim) HR1.out (by omega) HM1.out (by omega) (by omega) (hsb.below B4) (hs.below B4)
  generalize hRa : applyT ss t = Ra at *
  obtain ⟨ra, ea⟩ := Ra
  refine hc2.mono ?_
  rintro e w5 ⟨s5, rfl, t5, h5⟩
  obtain ⟨a4, c4, rfl, -, -⟩ := t5.shape
  have B5 := more_below B4 h5
  have k5 := (h5.block _ L4).trans k4
  have b5 := hbb.below h5
  clear hc2 h5 k4 B4 z0 z1 L4 hbb
  obtain ⟨L5, z0, z1, -, -⟩ := box2 k5
  go_wp2_with fail
  have hal : Below w5.heap.size w5 (w5.alloc (.cells #[.int .i64 ra.h, .slice a4 ra.args.length c4] 25)) := (Below.refl _ _).alloc (Nat.le_refl _) _
  have m6 : (w5.alloc (.cells #[.int .i64 ra.h, .slice a4 ra.args.length c4] 25)).heap[w5.heap.size]? = some (.cells #[.int .i64 ra.h, .slice a4 ra.args.length c4] 25 (0, 0)) := World.alloc_heap_new _ _
  have B6 := more_below B5 hal
  have k6 := (hal.block _ L5).trans k5
  have t6 := t5.below hal
  have b6 := b5.below hal
  generalize (w5.alloc (.cells #[.int .i64 ra.h, .slice a4 ra.args.length c4] 25)) = V6 at *
  clear hal k5 B5 t5 b5 z0 z1
  obtain ⟨L6, z0, z1, -, -⟩ := box2 k6
  have hc3 := subapply_calls us ra 500 (fun _ => False) ra.h (.slice a4 ra.args.length c4) (.slice a2 us.length d2) V6 (fun _ h => h.elim) HR2.out (by omega) HM2.out (by omega) (by have h9 : ra.size ≤ 400 := HAS.out; omega) (hub.below B6) ⟨rfl, t6⟩
  generalize hRb : applyT us ra = Rb at *
  obtain ⟨rb, eb⟩ := Rb
  refine hc3.mono ?_
  rintro e w7 ⟨s7, rfl, t7, h7⟩
  obtain ⟨a5, c5, rfl, -, -⟩ := t7.shape
  have B7 := more_below B6 h7
  have k7 := (h7.block _ L6).trans k6
  have b7 := b6.below h7
  clear hc3 h7 k6 B6 t6 b6 m6 z0 z1 L6
  obtain ⟨L7, z0, z1, -, -⟩ := box2 k7
  go_wp2_with fail
  have hal : Below w7.heap.size w7 (w7.alloc (.cells #[.int .i64 rb.h, .slice a5 rb.args.length c5] 25)) := (Below.refl _ _).alloc (Nat.le_refl _) _
  have m8 : (w7.alloc (.cells #[.int .i64 rb.h, .slice a5 rb.args.length c5] 25)).heap[w7.heap.size]? = some (.cells #[.int .i64 rb.h, .slice a5 rb.args.length c5] 25 (0, 0)) := World.alloc_heap_new _ _
  have B8 := more_below B7 hal
  have k8 := (hal.block _ L7).trans k7
  have t8 := t7.below hal
  have b8 := b7.below hal
  generalize (w7.alloc (.cells #[.int .i64 rb.h, .slice a5 rb.args.length c5] 25)) = V8 at *
  clear hal k7 B7 t7 b7 z0 z1
  have hc4 := subapply_calls bb t 500 (fun _ => False) t.h (.slice a t.args.length c) (.slice a3 bb.length d3) V8 (fun _ h => h.elim) (fun b hb => by have := HTS.out b hb; omega) (by omega) (fun b hb => by have := (HTS.out b hb).1; omega) (by omega) (by omega) b8 (hs.below B8)
  generalize hRc : applyT bb t = Rc at *
  obtain ⟨rc, ec⟩ := Rc
  refine hc4.mono ?_
  rintro e w9 ⟨s9, rfl, t9, h9⟩
  obtain ⟨a6, c6, rfl, -, -⟩ := t9.shape
  have B9 := more_below B8 h9
  have m9 := (h9.block _ (Array.getElem?_eq_some_iff.1 m8).1).trans m8
  have t8' := t8.below h9
  have b9 := b8.below h9
  clear hc4 h9 k8 m8 B8 t8 b8
  have hal : Below w9.heap.size w9 (w9.alloc (.cells #[.int .i64 rc.h, .slice a6 rc.args.length c6] 25)) := (Below.refl _ _).alloc (Nat.le_refl _) _
  have n10 : (w9.alloc (.cells #[.int .i64 rc.h, .slice a6 rc.args.length c6] 25)).heap[w9.heap.size]? = some (.cells #[.int .i64 rc.h, .slice a6 rc.args.length c6] 25 (0, 0)) := World.alloc_heap_new _ _
  have B10 := more_below B9 hal
  have m10 := (hal.block _ (Array.getElem?_eq_some_iff.1 m9).1).trans m9
  have t10 := t8'.below hal
  have u10 := t9.below hal
  have b10 := b9.below hal
  by_cases hee : ee = 0
  rotate_left
  · have hne : (ee != 0) = true := by simpa using hee
    clear hee HTA HTS HTL HAS hRt hRa hRb hRc B9 m9 t8' t9 b9
    go_wp2_with fail
    generalize (w9.alloc (.cells #[.int .i64 rc.h, .slice a6 rc.args.length c6] 25)) = V at *
    refine (awake_calls _).mono ?_
    rintro e x1 ⟨rfl, h1⟩
    go_wp2
    go_ret
    exact ⟨rfl, more_below B10 h1⟩
  subst hee
  by_cases hea : ea = 0
  rotate_left
  · have hne : (ea != 0) = true := by simpa using hea
    clear hea HTA HTS HTL HAS hRt hRa hRb hRc B9 m9 t8' t9 b9
    go_wp2_with fail
    generalize (w9.alloc (.cells #[.int .i64 rc.h, .slice a6 rc.args.length c6] 25)) = V at *
    refine (awake_calls _).mono ?_
    rintro e x1 ⟨rfl, h1⟩
    go_wp2
    go_ret
    exact ⟨rfl, more_below B10 h1⟩
  subst hea
  have hE : (rb, eb) = (rc, ec) := (HTA.out rfl rfl).1
  have hR : rightBs bb = true := (HTA.out rfl rfl).2
  simp only [Prod.mk.injEq] at hE
  obtain ⟨h6, h7⟩ := hE
  subst h6 h7
  have HR := hide hR
  have hsz : rb.size ≤ 400 := by have := apply_small us ra; rw [hRb] at this; exact this
  have HCK := hide (show check3 bb = 0 by rw [check3, if_pos hR])
  have HBS := hide (fun b hb => Nat.le_trans ((HTS.out b hb).1) (by omega : 400 ≤ 1000000000))
  by_cases heb : eb = 0
  rotate_left
  · have hne : (eb != 0) = true := by simpa using heb
    clear heb HTA HTS HTL HAS hRt hRa hRb hRc B9 m9 t8' t9 b9 hR
    go_wp2_with fail
    generalize (w9.alloc (.cells #[.int .i64 rb.h, .slice a6 rb.args.length c6] 25)) = V at *
    refine (awake_calls _).mono ?_
    rintro e x1 ⟨rfl, h1⟩
    go_wp2
    go_ret
    exact ⟨rfl, more_below B10 h1⟩
  subst heb
  clear HTA HTS HTL HAS hRt hRa hRb hRc B9 m9 t8' t9 b9 hR
  go_wp2_with fail
  generalize (w9.alloc (.cells #[.int .i64 rb.h, .slice a6 rb.args.length c6] 25)) = V at *
  refine (awake_calls _).mono ?_
  rintro e x1 ⟨rfl, h1⟩
  have C1 := more_below B10 h1
  obtain ⟨-, z0, z1, -, -⟩ := box2 ((h1.block _ (Array.getElem?_eq_some_iff.1 m10).1).trans m10)
  obtain ⟨-, y0, y1, -, -⟩ := box2 ((h1.block _ (Array.getElem?_eq_some_iff.1 n10).1).trans n10)
  have t11 := t10.below h1
  have u11 := u10.below h1
  have b11 := b10.below h1
  clear h1 B10 m10 n10 t10 u10 b10
  go_wp2_with fail
  refine (same_calls rb rb (fun _ => False) (fun _ => False) _ _ _ _ _ (by omega) (by omega) ⟨rfl, t11⟩ ⟨rfl, u11⟩).mono ?_
  rw [sameB_self]
  rintro e x2 ⟨rfl, h2⟩
  have C2 := more_below C1 h2
  have b12 := b11.below h2
  clear h2 C1 t11 u11 b11 z0 z1 y0 y1
  go_wp2_with fail
  refine (subcheck_calls bb (fun _ => False) _ _ HBS.out b12).mono ?_
  rw [HCK.out]
  rintro e x3 ⟨rfl, h3⟩
  have C3 := more_below C2 h3
  go_wp2
  go_ret
  exact ⟨rfl, C3⟩
end Go.Proofs.Ythplndalbfcbbaa
