/- SubstDoes, walked. -/
import Derived.Test.YthplndalbfcbbaaAwake
set_option linter.unusedSimpArgs false
set_option linter.unusedVariables false
namespace Go.Proofs.Ythplndalbfcbbaa
open Go.RowKit

theorem cnt3_le : ∀ (bs : List Bd) (n : Int), 0 ≤ n → n ≤ cnt3 n bs
  | [], n, _ => by simp [cnt3]
  | b :: bs, n, h => by
    simp only [cnt3]
    split
    · have := cntT_range b.t 500 (by omega)
      have := cnt3_le bs (n + cntT b.t 500) (by omega)
      omega
    · omega
theorem cnt3_sizes : ∀ (bs : List Bd) (n : Int), 0 ≤ n → cnt3 n bs ≤ 500 → ∀ b, b ∈ bs → b.t.size ≤ 500
  | [], _, _, _, _, hb => by simp at hb
  | b :: bs, n, h, hc, x, hx => by
    simp only [cnt3] at hc
    split at hc
    · have h1 := cntT_range b.t 500 (by omega)
      have h2 := cnt3_le bs (n + cntT b.t 500) (by omega)
      rcases List.mem_cons.1 hx with rfl | hx
      · have := (cntT_size x.t 500 (by omega)).2 (by omega); omega
      · exact cnt3_sizes bs _ (by omega) hc x hx
    · omega
theorem few_sizes {bs : List Bd} (h : fewBs bs = true) : ∀ b, b ∈ bs → b.t.size ≤ 500 := by
  simp only [fewBs, Bool.and_eq_true, decide_eq_true_eq] at h
  exact cnt3_sizes bs 0 (by omega) h.2
theorem endT_size {t : Tm} (h : t.size ≤ 1000000000) : (endT t).1.size ≤ 1000000000 := by
  unfold endT
  split
  · exact h
  · simp [Tm.size, Tm.sizes]
theorem applyT_size {bs : List Bd} {t : Tm} {m : Nat} (hm : 1 ≤ m) (hbm : ∀ b, b ∈ bs → b.t.size ≤ m) (ht : t.size * m ≤ 1000000000) : (applyT bs t).1.size ≤ 1000000000 := by
  unfold applyT
  split
  · exact endT_size (Nat.le_trans (putT_size bs hm hbm t) ht)
  · simp [Tm.size, Tm.sizes]
theorem shiftE_size {y : Int} {t : Tm} (ht : t.size ≤ 1000000000) : (shiftE y t).1.size ≤ 1000000000 := by
  unfold shiftE
  split
  · exact endT_size (Nat.le_trans (shiftT_size y t) ht)
  · simp [Tm.size, Tm.sizes]

set_option maxHeartbeats 4000000 in
set_option maxRecDepth 100000 in
theorem does_calls (bs : List Bd) (t : Tm) (n : Int) (h : Int) (s sb : Value) (w : World) (hrange : ∀ b, b ∈ bs → -9223372036854775808 ≤ b.v ∧ b.v ≤ 9223372036854775807)
    (hsb : Binds (fun _ => False) w sb bs) (hs : IsTm (fun _ => False) w h s t) :
    Calls Try.prog 3 #[sb, .agg #[.int .i64 h, s], .int .i64 n] w fun e w' => e = .returned (.bool true) ∧ Below w.heap.size w w' := by
  obtain ⟨rfl, a, c, rfl, hlc, hc⟩ := hs.shape
  obtain ⟨ab, cb, rfl, hlcb, hcb⟩ := hsb.shape
  go_enter Try.func3, Try.ntmps3
  have hal : Below w.heap.size w (w.alloc (.cells #[.int .i64 t.h, .slice a t.args.length c] 25)) := (Below.refl _ _).alloc (Nat.le_refl _) _
  have k0 : (w.alloc (.cells #[.int .i64 t.h, .slice a t.args.length c] 25)).heap[w.heap.size]? = some (.cells #[.int .i64 t.h, .slice a t.args.length c] 25 (0, 0)) := World.alloc_heap_new _ _
  go_wp2_with fail
  refine (few3_calls bs (fun _ => False) _ _ (hsb.below hal)).mono ?_
  rintro e w1 ⟨rfl, h1⟩
  have B1 := more_below hal h1
  have k1 := (h1.block _ (Array.getElem?_eq_some_iff.1 k0).1).trans k0
  clear h1 k0 hal
  obtain ⟨-, z0, z1, -, -⟩ := box2 k1
  cases hf : fewBs bs
  · have HF := hide hf
    clear hf
    go_wp2
    go_ret
    exact ⟨rfl, B1⟩
  have hbm := few_sizes hf
  clear hf
  go_wp2_with fail
  refine (few1_calls t (fun _ => False) _ _ _ (hs.below B1)).mono ?_
  rintro e w2 ⟨rfl, h2⟩
  have B2 := more_below B1 h2
  have k2 := (h2.block _ (Array.getElem?_eq_some_iff.1 k1).1).trans k1
  clear h2 k1 z0 z1 B1
  obtain ⟨-, z0, z1, -, -⟩ := box2 k2
  cases hf : fewB t
  · have HF := hide hf
    clear hf
    go_wp2
    go_ret
    exact ⟨rfl, B2⟩
  have hts := few_size hf
  clear hf
  have htm : t.size * 500 ≤ 1000000000 := by omega
  have hb9 : ∀ b, b ∈ bs → b.t.size ≤ 1000000000 := fun b hb => by have := hbm b hb; omega
  have HA := hide (applyT_size (by omega) hbm htm)
  have HSH := hide (shiftE_size (y := n) (t := t) (by omega))
  generalize hRa : applyT bs t = Ra at *
  obtain ⟨ra, ea⟩ := Ra
  generalize hRs : shiftE n t = Rs at *
  obtain ⟨rs, es⟩ := Rs
  go_wp2_with fail
  have hc1 := subapply_calls bs t 500 (fun _ => False) t.h (.slice a t.args.length c) (.slice ab bs.length cb) w2 (fun _ h => h.elim) hrange (by omega) hbm (by omega) htm (hsb.below B2) (hs.below B2)
  rw [hRa] at hc1
  refine hc1.mono ?_
  rintro e w3 ⟨s3', he, t3, h3⟩
  subst he
  obtain ⟨a3, c3, rfl, -, -⟩ := t3.shape
  have B3 := more_below B2 h3
  have k3 := (h3.block _ (Array.getElem?_eq_some_iff.1 k2).1).trans k2
  clear hc1 h3 k2 z0 z1 B2
  obtain ⟨L3, z0, z1, -, -⟩ := box2 k3
  go_wp2_with fail
  -- a is laid; the reference's answer
  have hal : Below w3.heap.size w3 (w3.alloc (.cells #[.int .i64 ra.h, .slice a3 ra.args.length c3] 25)) := (Below.refl _ _).alloc (Nat.le_refl _) _
  have m4 : (w3.alloc (.cells #[.int .i64 ra.h, .slice a3 ra.args.length c3] 25)).heap[w3.heap.size]? = some (.cells #[.int .i64 ra.h, .slice a3 ra.args.length c3] 25 (0, 0)) := World.alloc_heap_new _ _
  have B4 := more_below B3 hal
  have k4 := (hal.block _ L3).trans k3
  have t4 := t3.below hal
  generalize (w3.alloc (.cells #[.int .i64 ra.h, .slice a3 ra.args.length c3] 25)) = V4 at *
  clear hal k3 z0 z1 B3 t3
  have hc2 := apply3_calls bs t 500 (fun _ => False) t.h (.slice a t.args.length c) (.slice ab bs.length cb) V4 (fun _ h => h.elim) (by omega) hbm (by omega) htm (hsb.below B4) (hs.below B4)
  rw [hRa] at hc2
  refine hc2.mono ?_
  rintro e w5 ⟨s5', he, t5, h5⟩
  subst he
  obtain ⟨a5, c5, rfl, -, -⟩ := t5.shape
  have B5 := more_below B4 h5
  have k5 := (h5.block _ (Array.getElem?_eq_some_iff.1 k4).1).trans k4
  have m5 := (h5.block _ (Array.getElem?_eq_some_iff.1 m4).1).trans m4
  have t4' := t4.below h5
  clear hc2 h5 k4 m4 B4 t4
  obtain ⟨L5, z0, z1, -, -⟩ := box2 k5
  go_wp2_with fail
  have hal : Below w5.heap.size w5 (w5.alloc (.cells #[.int .i64 ra.h, .slice a5 ra.args.length c5] 25)) := (Below.refl _ _).alloc (Nat.le_refl _) _
  have m6 : (w5.alloc (.cells #[.int .i64 ra.h, .slice a5 ra.args.length c5] 25)).heap[w5.heap.size]? = some (.cells #[.int .i64 ra.h, .slice a5 ra.args.length c5] 25 (0, 0)) := World.alloc_heap_new _ _
  have B6 := more_below B5 hal
  have k6 := (hal.block _ L5).trans k5
  have m5' := (hal.block _ (Array.getElem?_eq_some_iff.1 m5).1).trans m5
  have t6 := t5.below hal
  have t4a := t4'.below hal
  generalize (w5.alloc (.cells #[.int .i64 ra.h, .slice a5 ra.args.length c5] 25)) = V6 at *
  clear hal k5 z0 z1 B5 t5 m5 t4'
  have hc3 := subshift_calls n t (fun _ => False) t.h (.slice a t.args.length c) V6 (fun _ h => h.elim) (by omega) (hs.below B6)
  rw [hRs] at hc3
  refine hc3.mono ?_
  rintro e w7 ⟨s7', he, t7, h7⟩
  subst he
  obtain ⟨a7, c7, rfl, -, -⟩ := t7.shape
  have B7 := more_below B6 h7
  have k7 := (h7.block _ (Array.getElem?_eq_some_iff.1 k6).1).trans k6
  have m5b := (h7.block _ (Array.getElem?_eq_some_iff.1 m5').1).trans m5'
  have m6b := (h7.block _ (Array.getElem?_eq_some_iff.1 m6).1).trans m6
  have t4b := t4a.below h7
  have t6b := t6.below h7
  clear hc3 h7 k6 m5' m6 B6 t4a t6
  obtain ⟨L7, z0, z1, -, -⟩ := box2 k7
  go_wp2_with fail
  have hal : Below w7.heap.size w7 (w7.alloc (.cells #[.int .i64 rs.h, .slice a7 rs.args.length c7] 25)) := (Below.refl _ _).alloc (Nat.le_refl _) _
  have m8 : (w7.alloc (.cells #[.int .i64 rs.h, .slice a7 rs.args.length c7] 25)).heap[w7.heap.size]? = some (.cells #[.int .i64 rs.h, .slice a7 rs.args.length c7] 25 (0, 0)) := World.alloc_heap_new _ _
  have B8 := more_below B7 hal
  have k8 := (hal.block _ L7).trans k7
  have m5c := (hal.block _ (Array.getElem?_eq_some_iff.1 m5b).1).trans m5b
  have m6c := (hal.block _ (Array.getElem?_eq_some_iff.1 m6b).1).trans m6b
  have t4c := t4b.below hal
  have t6c := t6b.below hal
  have t8 := t7.below hal
  generalize (w7.alloc (.cells #[.int .i64 rs.h, .slice a7 rs.args.length c7] 25)) = V8 at *
  clear hal k7 z0 z1 B7 t7 m5b m6b t4b t6b
  have hc4 := shift3_calls n t (fun _ => False) t.h (.slice a t.args.length c) V8 (fun _ h => h.elim) (by omega) (hs.below B8)
  rw [hRs] at hc4
  refine hc4.mono ?_
  rintro e w9 ⟨s9', he, t9, h9⟩
  subst he
  obtain ⟨a9, c9, rfl, -, -⟩ := t9.shape
  have B9 := more_below B8 h9
  have k9 := (h9.block _ (Array.getElem?_eq_some_iff.1 k8).1).trans k8
  have m5d := (h9.block _ (Array.getElem?_eq_some_iff.1 m5c).1).trans m5c
  have m6d := (h9.block _ (Array.getElem?_eq_some_iff.1 m6c).1).trans m6c
  have m8d := (h9.block _ (Array.getElem?_eq_some_iff.1 m8).1).trans m8
  have t4d := t4c.below h9
  have t6d := t6c.below h9
  have t8d := t8.below h9
  clear hc4 h9 k8 m5c m6c m8 B8 t4c t6c t8
  go_wp2_with fail
  have hal : Below w9.heap.size w9 (w9.alloc (.cells #[.int .i64 rs.h, .slice a9 rs.args.length c9] 25)) := (Below.refl _ _).alloc (Nat.le_refl _) _
  have m10 : (w9.alloc (.cells #[.int .i64 rs.h, .slice a9 rs.args.length c9] 25)).heap[w9.heap.size]? = some (.cells #[.int .i64 rs.h, .slice a9 rs.args.length c9] 25 (0, 0)) := World.alloc_heap_new _ _
  have B10 := more_below B9 hal
  have m5e := (hal.block _ (Array.getElem?_eq_some_iff.1 m5d).1).trans m5d
  have m6e := (hal.block _ (Array.getElem?_eq_some_iff.1 m6d).1).trans m6d
  have m8e := (hal.block _ (Array.getElem?_eq_some_iff.1 m8d).1).trans m8d
  have t4e := t4d.below hal
  have t6e := t6d.below hal
  have t8e := t8d.below hal
  have t10 := t9.below hal
  generalize (w9.alloc (.cells #[.int .i64 rs.h, .slice a9 rs.args.length c9] 25)) = V at *
  clear hal k9 B9 t9 m5d m6d m8d t4d t6d t8d
  -- what holds in each later world
  have Later : ∀ W', Below V.heap.size V W' → Below w.heap.size w W' ∧ W'.heap[w3.heap.size]? = some (.cells #[.int .i64 ra.h, .slice a3 ra.args.length c3] 25 (0, 0)) ∧ W'.heap[w5.heap.size]? = some (.cells #[.int .i64 ra.h, .slice a5 ra.args.length c5] 25 (0, 0)) ∧
      W'.heap[w7.heap.size]? = some (.cells #[.int .i64 rs.h, .slice a7 rs.args.length c7] 25 (0, 0)) ∧ W'.heap[w9.heap.size]? = some (.cells #[.int .i64 rs.h, .slice a9 rs.args.length c9] 25 (0, 0)) := fun W' hW =>
    ⟨more_below B10 hW, (hW.block _ (Array.getElem?_eq_some_iff.1 m5e).1).trans m5e, (hW.block _ (Array.getElem?_eq_some_iff.1 m6e).1).trans m6e, (hW.block _ (Array.getElem?_eq_some_iff.1 m8e).1).trans m8e, (hW.block _ (Array.getElem?_eq_some_iff.1 m10).1).trans m10⟩
  clear m5e m6e m8e m10
  refine (awake_calls _).mono ?_
  rintro e x1 ⟨rfl, h1⟩
  go_wp2_with fail
  refine (subcheck_calls bs (fun _ => False) _ _ hb9 (hsb.below (more_below B10 h1))).mono ?_
  rintro e x2 ⟨rfl, h2⟩
  have h2' := more_below h1 h2
  clear h1 h2
  go_wp2_with fail
  refine (check3_calls bs (fun _ => False) _ _ hb9 (hsb.below (more_below B10 h2'))).mono ?_
  rintro e x3 ⟨rfl, h3⟩
  have h3' := more_below h2' h3
  clear h3 h2'
  obtain ⟨C3, n1, n2, n3, n4⟩ := Later _ h3'
  obtain ⟨-, q1, q2, -, -⟩ := box2 n1
  obtain ⟨-, q3, q4, -, -⟩ := box2 n2
  clear n1 n2 n3 n4
  go_wp2_with fail
  refine (same_calls ra ra (fun _ => False) (fun _ => False) _ _ _ _ _ HA.out HA.out ⟨rfl, t4e.below h3'⟩ ⟨rfl, t6e.below h3'⟩).mono ?_
  rw [sameB_self]
  rintro e x4 ⟨rfl, h4⟩
  have h4' := more_below h3' h4
  clear h4 h3' q1 q2 q3 q4 C3
  obtain ⟨C4, n1, n2, n3, n4⟩ := Later _ h4'
  obtain ⟨-, q1, q2, -, -⟩ := box2 n3
  obtain ⟨-, q3, q4, -, -⟩ := box2 n4
  clear n1 n2 n3 n4
  go_wp2_with fail
  refine (same_calls rs rs (fun _ => False) (fun _ => False) _ _ _ _ _ HSH.out HSH.out ⟨rfl, t8e.below h4'⟩ ⟨rfl, t10.below h4'⟩).mono ?_
  rw [sameB_self]
  rintro e x5 ⟨rfl, h5⟩
  have h5' := more_below h4' h5
  have C5 := more_below B10 h5'
  clear h5 h4' q1 q2 q3 q4 C4 Later
  by_cases hn0 : n < 0
  · go_wp2
    go_ret
    exact ⟨rfl, C5⟩
  by_cases hn1 : 1000 < n
  · go_wp2
    go_ret
    exact ⟨rfl, C5⟩
  have hofs := ofBs_size (m := 500) n (by omega) bs hbm
  have HOF := hide hofs
  clear hofs
  go_wp2_with fail
  refine (subof_calls bs n (fun _ => False) _ _ (by omega) (by omega) (fun _ h => h.elim) hrange (hsb.below C5)).mono ?_
  rintro e x6 ⟨s6', rfl, t11, h6⟩
  obtain ⟨a11, c11, rfl, -, -⟩ := t11.shape
  have C6 := more_below C5 h6
  clear h6
  go_wp2_with fail
  refine (of3_calls bs n (fun _ => False) _ _ (by omega) (by omega) (hsb.below C6)).mono ?_
  rintro e x7 ⟨s7'', rfl, t12, h7⟩
  obtain ⟨a12, c12, rfl, -, -⟩ := t12.shape
  have C7 := more_below C6 h7
  have t11' := t11.below h7
  clear h7 t11
  go_wp2_with fail
  refine (same_calls (ofBs n bs) (ofBs n bs) (fun _ => False) (fun _ => False) _ _ _ _ _ (by have := HOF.out; omega) (by have := HOF.out; omega) ⟨rfl, t11'⟩ ⟨rfl, t12⟩).mono ?_
  rw [sameB_self]
  rintro e x8 ⟨rfl, h8⟩
  have C8 := more_below C7 h8
  clear h8 C7
  go_wp2
  go_ret
  exact ⟨rfl, C8⟩
end Go.Proofs.Ythplndalbfcbbaa
