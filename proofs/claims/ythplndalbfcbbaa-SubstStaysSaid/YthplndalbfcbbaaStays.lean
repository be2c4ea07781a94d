/- SubstStays, walked. -/
import Derived.Test.YthplndalbfcbbaaAwake
import Derived.Test.YthplndalbfcbbaaThenLaw
import Derived.Test.YthplndalbfcbbaaTVars
import Derived.Test.YthplndalbfcbbaaTSame
import Derived.Test.YthplndalbfcbbaaDoes
set_option linter.unusedSimpArgs false
set_option linter.unusedVariables false
namespace Go.Proofs.Ythplndalbfcbbaa
open Go.RowKit

theorem stays_none_snoc (bs : List Bd) (vs : List Int) (k : Nat) (h : k < vs.length) : noneB bs (vs.take (k + 1)) = (noneB bs (vs.take k) && sameB (ofBs vs[k] bs) (.node (-1 - vs[k]) [])) := by
  rw [List.take_succ_eq_append_getElem h, noneB_snoc]
theorem stays_all_snoc (bs : List Bd) (vs : List Int) (k : Nat) (h : k < vs.length) : allT bs (vs.take (k + 1)) = allT bs (vs.take k) ++ varsT (ofBs vs[k] bs) := by
  rw [List.take_succ_eq_append_getElem h, allT_snoc]
/-- What the loops' round needs of the own variables. -/
theorem own_range {t : Tm} (hg : t.good = true) {v : Int} (hv : v ∈ varsT t) : 0 ≤ v ∧ v ≤ 255 := by
  obtain ⟨h, h1, h2, rfl⟩ := mem_varsT.1 hv
  have := good_heads t hg h h1
  omega

set_option maxHeartbeats 8000000 in
set_option maxRecDepth 100000 in
theorem stays_calls (bs : List Bd) (t : Tm) (h : Int) (s sb : Value) (w : World) (hrange : ∀ b, b ∈ bs → -9223372036854775808 ≤ b.v ∧ b.v ≤ 9223372036854775807)
    (hsb : Binds (fun _ => False) w sb bs) (hs : IsTm (fun _ => False) w h s t) :
    Calls Try.prog 4 #[sb, .agg #[.int .i64 h, s]] w fun e w' => e = .returned (.bool true) ∧ Below w.heap.size w w' := by
  obtain ⟨rfl, a, c, rfl, hlc, hc⟩ := hs.shape
  obtain ⟨ab, cb, rfl, hlcb, hcb⟩ := hsb.shape
  go_enter Try.func4, Try.ntmps4
  have hal : Below w.heap.size w (w.alloc (.cells #[.int .i64 t.h, .slice a t.args.length c] 25)) := (Below.refl _ _).alloc (Nat.le_refl _) _
  have k0 : (w.alloc (.cells #[.int .i64 t.h, .slice a t.args.length c] 25)).heap[w.heap.size]? = some (.cells #[.int .i64 t.h, .slice a t.args.length c] 25 (0, 0)) := World.alloc_heap_new _ _
  go_wp2_with fail
  refine (few3_calls bs (fun _ => False) _ _ (hsb.below hal)).mono ?_
  rintro e w1 ⟨rfl, h1⟩
  have B1 := more_below hal h1
  have k1 := (h1.block _ (Array.getElem?_eq_some_iff.1 k0).1).trans k0
  clear h1 k0 hal
  obtain ⟨-, z0, z1, -, -⟩ := box2 k1
  cases hf : fewBs bs
  · have HF := hide hf
    clear hf
    go_wp2
    go_ret
    exact ⟨rfl, B1⟩
  have hbm := few_sizes hf
  clear hf
  go_wp2_with fail
  refine (few1_calls t (fun _ => False) _ _ _ (hs.below B1)).mono ?_
  rintro e w2 ⟨rfl, h2⟩
  have B2 := more_below B1 h2
  have k2 := (h2.block _ (Array.getElem?_eq_some_iff.1 k1).1).trans k1
  clear h2 k1 z0 z1 B1
  obtain ⟨-, z0, z1, -, -⟩ := box2 k2
  cases hf : fewB t
  · have HF := hide hf
    clear hf
    go_wp2
    go_ret
    exact ⟨rfl, B2⟩
  have hts := few_size hf
  clear hf
  have htm : t.size * 500 ≤ 1000000000 := by omega
  have HA := hide (applyT_size (bs := bs) (t := t) (by omega) hbm htm)
  have HOK := hide (apply_ok (bs := bs) (t := t))
  have HBAD := hide (apply_bad (bs := bs) (t := t))
  have HNIL := hide (apply_nil t)
  generalize hRa : applyT bs t = Ra at *
  obtain ⟨ra, ea⟩ := Ra
  go_wp2_with fail
  have hc1 := subapply_calls bs t 500 (fun _ => False) t.h (.slice a t.args.length c) (.slice ab bs.length cb) w2 (fun _ h => h.elim) hrange (by omega) hbm (by omega) htm (hsb.below B2) (hs.below B2)
  rw [hRa] at hc1
  refine hc1.mono ?_
  rintro e w3 ⟨s3', he, t3, h3⟩
  subst he
  obtain ⟨a3, c3, rfl, -, -⟩ := t3.shape
  have B3 := more_below B2 h3
  have k3 := (h3.block _ (Array.getElem?_eq_some_iff.1 k2).1).trans k2
  clear hc1 h3 k2 z0 z1 B2
  obtain ⟨L3, z0, z1, -, -⟩ := box2 k3
  go_wp2_with fail
  have hal : Below w3.heap.size w3 (w3.alloc (.cells #[.int .i64 ra.h, .slice a3 ra.args.length c3] 25)) := (Below.refl _ _).alloc (Nat.le_refl _) _
  have m4 : (w3.alloc (.cells #[.int .i64 ra.h, .slice a3 ra.args.length c3] 25)).heap[w3.heap.size]? = some (.cells #[.int .i64 ra.h, .slice a3 ra.args.length c3] 25 (0, 0)) := World.alloc_heap_new _ _
  have B4 := more_below B3 hal
  have k4 := (hal.block _ L3).trans k3
  have t4 := t3.below hal
  generalize (w3.alloc (.cells #[.int .i64 ra.h, .slice a3 ra.args.length c3] 25)) = V4 at *
  clear hal k3 z0 z1 B3 t3
  obtain ⟨L4, z0, z1, -, -⟩ := box2 k4
  generalize hRb : applyT [] t = Rb at *
  obtain ⟨rb, eb⟩ := Rb
  have hc2 := subapply_calls [] t 500 (fun _ => False) t.h (.slice a t.args.length c) (.slice none 0 0) V4 (fun _ h => h.elim) (by simp) (by omega) (by simp) (by omega) htm (by simp only [Binds, RepD, List.map_nil]; exact ⟨none, 0, 0, rfl, rfl, by omega, by omega, by simp⟩) (hs.below B4)
  rw [hRb] at hc2
  refine hc2.mono ?_
  rintro e w5 ⟨s5', he, t5, h5⟩
  subst he
  obtain ⟨a5, c5, rfl, -, -⟩ := t5.shape
  have B5 := more_below B4 h5
  have k5 := (h5.block _ L4).trans k4
  have m5 := (h5.block _ (Array.getElem?_eq_some_iff.1 m4).1).trans m4
  have t4' := t4.below h5
  clear hc2 h5 k4 m4 B4 t4 z0 z1
  obtain ⟨L5, z0, z1, -, -⟩ := box2 k5
  cases hrt : rightB t
  · -- the term is not right: both are refused
    have e1 := HBAD.out hrt
    have e2 := HNIL.out
    rw [hrt] at e2
    simp only [Bool.false_eq_true, if_false, Prod.mk.injEq] at e1 e2
    obtain ⟨rfl, rfl⟩ := e1
    obtain ⟨rfl, rfl⟩ := e2
    have hal := (Below.refl w5.heap.size w5).alloc (Nat.le_refl _) (.cells #[.int .i64 (Tm.node 0 []).h, .slice a5 (Tm.node 0 []).args.length c5] 25)
    clear HA HOK HBAD HNIL hRa hRb
    go_wp2_with fail
    refine (awake_calls _).mono ?_
    rintro e x1 ⟨rfl, h1⟩
    go_wp2
    go_ret
    exact ⟨rfl, more_below (more_below B5 hal) h1⟩
  have e2 := HNIL.out
  rw [hrt, if_pos rfl] at e2
  simp only [Prod.mk.injEq] at e2
  obtain ⟨h6, rfl⟩ := e2
  obtain rfl := h6.symm
  clear HNIL HBAD hRb
  have hal : Below w5.heap.size w5 (w5.alloc (.cells #[.int .i64 t.h, .slice a5 t.args.length c5] 25)) := (Below.refl _ _).alloc (Nat.le_refl _) _
  have m6 : (w5.alloc (.cells #[.int .i64 t.h, .slice a5 t.args.length c5] 25)).heap[w5.heap.size]? = some (.cells #[.int .i64 t.h, .slice a5 t.args.length c5] 25 (0, 0)) := World.alloc_heap_new _ _
  have B6 := more_below B5 hal
  have k6 := (hal.block _ L5).trans k5
  have m5' := (hal.block _ (Array.getElem?_eq_some_iff.1 m5).1).trans m5
  have t6 := t5.below hal
  have t4a := t4'.below hal
  clear hal k5 z0 z1 B5 t5 m5 t4'
  by_cases hea : ea = 0
  rotate_left
  · have hea' : (ea != 0) = true := by simpa using hea
    clear hea HOK HA hRa
    go_wp2_with fail
    generalize (w5.alloc (.cells #[.int .i64 t.h, .slice a5 t.args.length c5] 25)) = V6 at *
    refine (awake_calls _).mono ?_
    rintro e x1 ⟨rfl, h1⟩
    go_wp2
    go_ret
    exact ⟨rfl, more_below B6 h1⟩
  subst hea
  have hr3 := (HOK.out rfl).1
  have hput : ra = putT bs t := (HOK.out rfl).2.2.2
  have hgt := chk_good hrt
  have hga : ra.good = true := by rw [hput]; exact putT_good hr3 t hgt
  have hchk : chk ra = 0 := by rw [hput]; exact (HOK.out rfl).2.2.1
  have hsa := right_size hchk
  have hst : t.size ≤ 400 := right_size (by simpa [rightB] using hrt)
  have HPUT := hide hput
  have HR3 := hide hr3
  have HGT := hide hgt
  have HGA := hide hga
  clear HOK HA hRa hput hr3 hgt hga hchk hrt
  obtain ⟨L6, z0, z1, -, -⟩ := box2 k6
  obtain ⟨-, y0, y1, -, -⟩ := box2 m6
  go_wp2_with fail
  generalize (w5.alloc (.cells #[.int .i64 t.h, .slice a5 t.args.length c5] 25)) = V6 at *
  refine (same_calls t t (fun _ => False) (fun _ => False) _ _ _ _ _ (by omega) (by omega) ⟨rfl, t6⟩ (hs.below B6)).mono ?_
  rw [sameB_self]
  rintro e w7 ⟨rfl, h7⟩
  have B7 := more_below B6 h7
  have k7 := (h7.block _ L6).trans k6
  have m7 := (h7.block _ (Array.getElem?_eq_some_iff.1 m5').1).trans m5'
  have t7 := t4a.below h7
  clear h7 z0 z1 y0 y1 m6 k6 m5' B6 t6 t4a
  obtain ⟨L7, z0, z1, -, -⟩ := box2 k7
  obtain ⟨M7, y0, y1, -, -⟩ := box2 m7
  go_wp2_with fail
  refine (tvars_calls t (fun _ => False) (fun _ => False) _ _ _ (fun _ h => h.elim) (hs.below B7) (by omega) (good_heads t HGT.out)).mono ?_
  rintro e w8 ⟨vo, rfl, io, h8⟩
  have B8 := more_below B7 h8
  have k8 := (h8.block _ L7).trans k7
  have m8 := (h8.block _ M7).trans m7
  have t8 := t7.below h8
  obtain ⟨ao, co, rfl, hlo, hco⟩ := io.shape
  clear h8 z0 z1 y0 y1 k7 m7 B7 t7
  obtain ⟨L8, z0, z1, -, -⟩ := box2 k8
  obtain ⟨M8, y0, y1, -, -⟩ := box2 m8
  go_wp2_with fail
  refine (tvars_calls ra (fun _ => False) (fun _ => False) _ _ _ (fun _ h => h.elim) ⟨rfl, t8⟩ (by omega) (good_heads ra HGA.out)).mono ?_
  rintro e w9 ⟨vn, rfl, inw, h9⟩
  have B9 := more_below B8 h9
  have k9 := (h9.block _ L8).trans k8
  have m9 := (h9.block _ M8).trans m8
  have t9 := t8.below h9
  have io9 := io.below h9
  obtain ⟨an, cn, rfl, hln, hcn⟩ := inw.shape
  clear h9 z0 z1 y0 y1 k8 m8 B8 t8 io
  have HALL := hide (fun v => all_iff (bs := bs) (t := t) HGT.out v)
  have HNONE := hide (none_same (bs := bs) (t := t) HGT.out)
  rw [← HPUT.out] at HALL HNONE
  have hown : ∀ v, v ∈ varsT t → 0 ≤ v ∧ v ≤ 255 := fun v hv => own_range HGT.out hv
  have HOWN := hide hown
  clear hown
  have hol : (varsT t).length ≤ 400 := Nat.le_trans (varsT_length t) hst
  have hnl : (varsT ra).length ≤ 400 := Nat.le_trans (varsT_length ra) hsa
  generalize hOw : varsT t = own at *
  generalize hNw : varsT ra = now at *
  clear hOw hNw
  go_wp2
  go_loopw [11, 12, 13] (fun q v i wr => ∃ k : Nat, k ≤ own.length ∧ i = .int .i64 k ∧ q = .bool (noneB bs (own.take k)) ∧ OwnD (fun _ => False) wr w9.heap.size 3 1 v ((allT bs (own.take k)).map intD) ∧ Below w9.heap.size w9 wr) (fun _ _ i _ => own.length - (intOf i).toNat)
  case atStart => exact ⟨0, by omega, rfl, by simp [noneB], by simpa [allT] using OwnD.nil _ _ _ _ _, Below.refl _ _⟩
  case round =>
    obtain ⟨k, hk, rfl, rfl, hO, hB⟩ := hrel
    by_cases hlt : k < own.length
    · have hv := HOWN.out own[k] (List.getElem_mem hlt)
      obtain ⟨b, off, rfl, hbs, -, g0⟩ := io9.get k hlt
      have hc1 := (hB.cell (p := ⟨b, off + k, none⟩) hbs).trans g0
      have Bwr := more_below B9 hB
      have kr := (hB.block _ (Array.getElem?_eq_some_iff.1 k9).1).trans k9
      obtain ⟨Lr, z0, z1, -, -⟩ := box2 kr
      clear g0
      go_wp2_with fail
      refine (subof_calls bs own[k] (fun _ => False) _ _ hv.1 (by omega) (fun _ h => h.elim) hrange (hsb.below Bwr)).mono ?_
      rintro e w10 ⟨su, rfl, tu, h10⟩
      have HUG := hide (ofBs_good HR3.out hv.1 hv.2)
      have HUS := hide (ofBs_size own[k] (by omega) bs hbm)
      have HNS := hide (stays_none_snoc bs own k hlt)
      have HAS := hide (stays_all_snoc bs own k hlt)
      generalize hu : ofBs own[k] bs = u at *
      clear hu
      obtain ⟨au, cu, rfl, -, -⟩ := tu.shape
      have B10 := hB.trans (h10.mono hB.size)
      have O10 := hO.below h10
      have hc2 := (B10.cell (p := ⟨b, off + k, none⟩) hbs).trans (by first | exact g0' | exact (io9.get k hlt).elim (fun _ h => by obtain ⟨_, h1, _, _, h2⟩ := h; cases h1; exact h2))
      clear hc1 h10 Bwr kr Lr z0 z1 hB hO
      go_wp2_with fail
      have hal : Below w10.heap.size w10 (w10.alloc (.cells #[.int .i64 u.h, .slice au u.args.length cu] 25)) := (Below.refl _ _).alloc (Nat.le_refl _) _
      have kU : (w10.alloc (.cells #[.int .i64 u.h, .slice au u.args.length cu] 25)).heap[w10.heap.size]? = some (.cells #[.int .i64 u.h, .slice au u.args.length cu] 25 (0, 0)) := World.alloc_heap_new _ _
      have BV := B10.trans (hal.mono B10.size)
      have OV := O10.below hal
      have tV := tu.below hal
      generalize (w10.alloc (.cells #[.int .i64 u.h, .slice au u.args.length cu] 25)) = V at *
      clear B10 O10 tu hal hc2
      have hS : ∀ W', Below V.heap.size V W' → Below V.heap.size V W' ∧ W'.cell? ⟨w10.heap.size, 0, none⟩ = some (.int .i64 u.h) ∧ W'.cell? ⟨w10.heap.size, 1, none⟩ = some (.slice au u.args.length cu) ∧ W'.cell? ⟨b, off + k, none⟩ = some (.int .i64 own[k]) := fun W' hW => by
        obtain ⟨-, x0, x1, -, -⟩ := box2 ((hW.block _ (Array.getElem?_eq_some_iff.1 kU).1).trans kU)
        exact ⟨hW, x0, x1, ((BV.trans (hW.mono BV.size)).cell (p := ⟨b, off + k, none⟩) hbs).trans (by obtain ⟨_, _, h1, _, _, h2⟩ := io9.get k hlt; cases h1; exact h2)⟩
      have hi0 : (k : Int) < own.length := by omega
      refine cut_cap (fun a0 a' w' => ∃ x72 x73 x74 x75 x76 x77 x78 x79 x80 x81, a' = ((((((((((a0.put (some 72) x72).put (some 73) x73).put (some 74) x74).put (some 75) x75).put (some 76) x76).put (some 77) x77).put (some 78) x78).put (some 79) x79).put (some 80) x80).put (some 81) x81).put (some 11) (.bool (noneB bs (own.take (k + 1)))) ∧ Below V.heap.size V w') ?_ ?_
      · refine drawn_two (fun W' => Below V.heap.size V W' ∧ W'.cell? ⟨w10.heap.size, 0, none⟩ = some (.int .i64 u.h) ∧ W'.cell? ⟨w10.heap.size, 1, none⟩ = some (.slice au u.args.length cu) ∧ W'.cell? ⟨b, off + k, none⟩ = some (.int .i64 own[k])) [.take 0, .take 1, .take 2, .take 3, .take 4, .take 5, .take 6, .one 7, .one 8, .take 9, .take 10] (by kernel_rfl) (by kernel_rfl) (by kernel_rfl) (by kernel_rfl) (fun _ _ _ _ _ h => h) (hS _ (Below.refl _ _).drew) ?_
        have HN2 := HNS.out
        cases hnb : noneB bs (own.take k)
        · rw [hnb, Bool.false_and] at HN2
          have HNF := hide HN2
          clear HN2
          iterate 2 (refine p_take (v := ?_) rfl (by rfl) ?_ ?_; rotate_left; (intro w hS; obtain ⟨-, S1, S2, S3⟩ := hS; go_simp; try with_reducible rfl); simp only [Act.put, List.setIfInBounds_toArray, List.set_cons_zero, List.set_cons_succ])
          iterate 5 (refine p_skip rfl (by rfl) ?_; simp only [Act.put, List.setIfInBounds_toArray, List.set_cons_zero, List.set_cons_succ])
          refine p_pass rfl (by rfl) (hS _ (Below.refl _ _).drew) ?_
          simp only [Act.put, List.setIfInBounds_toArray, List.set_cons_zero, List.set_cons_succ]
          refine p_pass rfl (by rfl) (hS _ (Below.refl _ _).drew) ?_
          simp only [Act.put, List.setIfInBounds_toArray, List.set_cons_zero, List.set_cons_succ]
          iterate 2 (refine p_take (v := ?_) rfl (by rfl) ?_ ?_; rotate_left; (intro w hS; obtain ⟨-, S1, S2, S3⟩ := hS; go_simp; try with_reducible rfl); simp only [Act.put, List.setIfInBounds_toArray, List.set_cons_zero, List.set_cons_succ])
          refine p_done ⟨.bool false, .bool false, undef, undef, undef, undef, undef, undef, undef, .bool false, ?_, (Below.refl _ _).drew⟩
          rw [HNF.out]
        · rw [hnb, Bool.true_and] at HN2
          have HNF := hide HN2
          clear HN2
          iterate 7 (refine p_take (v := ?_) rfl (by rfl) ?_ ?_; rotate_left; (intro w hS; obtain ⟨-, S1, S2, S3⟩ := hS; go_simp; try with_reducible rfl); simp only [Act.put, List.setIfInBounds_toArray, List.set_cons_zero, List.set_cons_succ])
          refine p_one rfl (by rfl) ?_
          intro K hK
          go_simp
          refine (var_calls own[k] hv.1 (by omega) _).mono ?_
          rintro e x1 ⟨rfl, h1⟩
          have h1' := more_below (Below.refl V.heap.size V).drew h1
          refine hK.out _ _ (hS _ h1') ?_
          clear hK K h1
          try simp only [Act.put, List.setIfInBounds_toArray, List.set_cons_zero, List.set_cons_succ]
          refine p_one rfl (by rfl) ?_
          intro K hK
          go_simp
          refine (tsame_calls u (.node (-1 - own[k]) []) (fun _ => False) (fun _ => False) _ _ _ _ _ (by have := HUS.out; omega) ⟨rfl, tV.below h1'⟩ ⟨rfl, Terms.nil _ _⟩).mono ?_
          rintro e x2 ⟨rfl, h2⟩
          have h2' := more_below h1' h2
          refine hK.out _ _ (hS _ h2') ?_
          clear hK K h2
          try simp only [Act.put, List.setIfInBounds_toArray, List.set_cons_zero, List.set_cons_succ]
          rw [← HNF.out]
          generalize hnn : noneB bs (own.take (k + 1)) = nn at *
          clear hnn
          iterate 2 (refine p_take (v := ?_) rfl (by rfl) ?_ ?_; rotate_left; (intro w hS; obtain ⟨-, S1, S2, S3⟩ := hS; go_simp; try with_reducible rfl); simp only [Act.put, List.setIfInBounds_toArray, List.set_cons_zero, List.set_cons_succ])
          refine p_done ⟨.bool true, .bool true, .agg #[.int .i64 u.h, .slice au u.args.length cu], .slice (some ⟨b, off, none⟩) own.length co, .int .i64 k, .pointer (some ⟨b, off + k, none⟩), .int .i64 own[k], .agg #[.int .i64 (-1 - own[k]), .slice none 0 0], .bool nn, .bool nn, ?_, h2'⟩
          try simp only [Act.put, List.setIfInBounds_toArray, List.set_cons_zero, List.set_cons_succ]
          try rfl
      rintro _ W2 ⟨x72, x73, x74, x75, x76, x77, x78, x79, x80, x81, rfl, hW2⟩
      simp only [Act.put, List.setIfInBounds_toArray, List.set_cons_zero, List.set_cons_succ]
      go_wp2_with fail
      have B2 := BV.trans (hW2.mono BV.size)
      have O2 := OV.below hW2
      have tu2 := tV.below hW2
      refine (tvars_calls u (fun b => u12.ownBlock = some b) (fun _ => False) _ _ _ (fun b hb => (O2.lt b hb).2) ⟨rfl, tu2⟩ (by have := HUS.out; omega) (good_heads u HUG.out)).mono ?_
      rintro e w11 ⟨vv, rfl, iv, h11⟩
      have B11 := B2.trans (h11.mono B2.size)
      have O11 := O2.below h11
      have hl1 := allT_length bs 500 (by omega) hbm (own.take k)
      have hl2 : (own.take k).length ≤ 400 := by rw [List.length_take]; omega
      have hl3 := Nat.le_trans (varsT_length u) HUS.out
      have hl4 : (allT bs (own.take k)).length + (varsT u).length ≤ 1000000 := by omega
      have hb9 := B11.size
      clear hl1 hl2 hl3 O2 tu2 B2 hW2 OV tV BV kU
      have IV : RepD (fun b => False ∨ u12.ownBlock = some b) w11 (.row 1 ((varsT u).map intD)) [vv] := iv.bar fun b _ h => by
        rcases h with h | h
        · exact h.elim
        · exact h
      have HIV := hide IV
      have HO11 := hide O11
      have HNN := hide HAS.out
      clear IV iv O11
      go_wp2_with (at_builtin; refine app_all_pl rfl (.tmp 82) (.tmp 84) 37 rfl w9.heap.size 3 (.int .i64 0) 1 8 Try.underlying37 (by kernel_rfl) rfl (by decide) (v := u12) (xv := vv) rfl rfl HO11.out HIV.out (fun d hd => by obtain ⟨z, -, rfl⟩ := List.mem_map.1 hd; exact intD_oneD z) (by simp [maxLen]; omega) (by simp; omega) hb9 ?_; intro v' w' o' kp ob hsh)
      go_roundw
      case rel =>
        refine ⟨k + 1, by omega, by go_num, rfl, ?_, B11.trans (kp.below (fun b hb h => by have := (HO11.out.lt b h).1; omega) hb9)⟩
        rw [HNN.out, List.map_append]; exact o'
      case measure => simp [intOf]; omega
    · have hke : k = own.length := by omega
      subst hke
      rw [List.take_length] at hO
      have IA := hO.ints (A := fun _ => False) (fun _ h => h.elim)
      have HNE := hide (show noneB bs (own.take own.length) = noneB bs own by rw [List.take_length])
      have B10 := more_below B9 hB
      have k10 := (hB.block _ (Array.getElem?_eq_some_iff.1 k9).1).trans k9
      have m10 := (hB.block _ (Array.getElem?_eq_some_iff.1 m9).1).trans m9
      have t10 := t9.below hB
      have in10 := inw.below hB
      obtain ⟨aa, ca, rfl, hla, hca⟩ := IA.shape
      generalize hnn : noneB bs (own.take own.length) = nn at *
      generalize hal : allT bs own = al at *
      clear hnn hal hO hB k9 m9 t9 B9 io9 hlt hk
      generalize wr = Wa at *
      have hall : al.length ≤ 9223372036854775807 := by omega
      go_wp2
      go_loopw [15] (fun i w' => ∃ j : Nat, j ≤ al.length ∧ i = .int .i64 j ∧ Below Wa.heap.size Wa w') (fun i _ => al.length - (intOf i).toNat)
      case atStart => exact ⟨0, by omega, rfl, Below.refl _ _⟩
      case round =>
        obtain ⟨j, hj, rfl, hB⟩ := hrel
        by_cases hlt : j < al.length
        · obtain ⟨b, off, rfl, hbs, -, g0⟩ := IA.get j hlt
          have hc1 := (hB.cell (p := ⟨b, off + j, none⟩) hbs).trans g0
          have HIN := hide (hasB_iff.2 ((HALL.out al[j]).1 (List.getElem_mem hlt)))
          clear g0
          go_wp2_with fail
          refine (in_calls al[j] now (fun _ => False) _ _ (in10.below hB)).mono ?_
          rw [HIN.out]
          rintro e x1 ⟨rfl, h1⟩
          have hB1 := hB.trans (h1.mono hB.size)
          clear h1 hc1 hB
          go_wp2
          go_roundw
          case rel => exact ⟨j + 1, by omega, by go_num, hB1⟩
          case measure => simp [intOf]; omega
        · obtain rfl : j = al.length := by omega
          clear hlt hj
          generalize wr = Wb at *
          go_wp2
          go_loopw [16] (fun i w' => ∃ j : Nat, j ≤ now.length ∧ i = .int .i64 j ∧ Below Wa.heap.size Wa w') (fun i _ => now.length - (intOf i).toNat)
          case atStart => exact ⟨0, by omega, rfl, hB⟩
          case round =>
            obtain ⟨j2, hj, rfl, hB2⟩ := hrel
            by_cases hlt : j2 < now.length
            · obtain ⟨b, off, rfl, hbs, -, g0⟩ := in10.get j2 hlt
              have hc1 := (hB2.cell (p := ⟨b, off + j2, none⟩) hbs).trans g0
              have HIN := hide (hasB_iff.2 ((HALL.out now[j2]).2 (List.getElem_mem hlt)))
              clear g0
              go_wp2_with fail
              refine (in_calls now[j2] al (fun _ => False) _ _ (IA.below hB2)).mono ?_
              rw [HIN.out]
              rintro e x1 ⟨rfl, h1⟩
              have hB1 := hB2.trans (h1.mono hB2.size)
              clear h1 hc1 hB2
              go_wp2
              go_roundw
              case rel => exact ⟨j2 + 1, by omega, by go_num, hB1⟩
              case measure => simp [intOf]; omega
            · obtain rfl : j2 = now.length := by omega
              clear hlt hj
              generalize wr = Wc at *
              have kc := (hB2.block _ (Array.getElem?_eq_some_iff.1 k10).1).trans k10
              have mc := (hB2.block _ (Array.getElem?_eq_some_iff.1 m10).1).trans m10
              have tc := t10.below hB2
              have Bc := more_below B10 hB2
              clear hB hB2 k10 m10 t10 B10 IA in10
              go_wp2_with fail
              refine (awake_calls _).mono ?_
              rintro e x1 ⟨rfl, h1⟩
              have Bx := more_below Bc h1
              obtain ⟨-, z0, z1, -, -⟩ := box2 ((h1.block _ (Array.getElem?_eq_some_iff.1 kc).1).trans kc)
              obtain ⟨-, y0, y1, -, -⟩ := box2 ((h1.block _ (Array.getElem?_eq_some_iff.1 mc).1).trans mc)
              have tx := tc.below h1
              clear h1 kc mc tc Bc
              cases hnn : nn
              · have HZ := hide hnn
                clear hnn
                go_wp2
                go_ret
                exact ⟨rfl, Bx⟩
              · have HRT := hide (HNONE.out (HNE.out.symm.trans hnn))
                clear hnn
                go_wp2_with fail
                refine (same_calls ra t (fun _ => False) (fun _ => False) _ _ _ _ _ (by omega) (by omega) ⟨rfl, tx⟩ (hs.below Bx)).mono ?_
                rw [sameB_iff.2 HRT.out]
                rintro e x2 ⟨rfl, h2⟩
                have By := more_below Bx h2
                clear h2 z0 z1 y0 y1
                go_wp2
                go_ret
                exact ⟨rfl, By⟩
end Go.Proofs.Ythplndalbfcbbaa
