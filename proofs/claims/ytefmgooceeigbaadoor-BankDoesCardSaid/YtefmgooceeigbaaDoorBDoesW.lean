/- BankDoes, walked. -/
import Derived.Test.YtefmgooceeigbaaDoorBDoesP
import Derived.Test.YtefmgooceeigbaaDoorBank9
import Derived.Test.YtefmgooceeigbaaDoorBank10
import Derived.Test.YtefmgooceeigbaaDoorAwake6
set_option linter.unusedSimpArgs false
set_option linter.unusedVariables false
namespace Go.Proofs.YtefmgooceeigbaaDoor
open Go.RowKit

theorem box4 {w : World} {b : Nat} {x y z u : Value} {t : TypeId} (h : w.heap[b]? = some (.cells #[x, y, z, u] t (0, 0))) : b < w.heap.size ∧ w.cell? ⟨b, 0, none⟩ = some x ∧ w.cell? ⟨b, 1, none⟩ = some y ∧ w.cell? ⟨b, 2, none⟩ = some z ∧ w.cell? ⟨b, 3, none⟩ = some u :=
  ⟨(Array.getElem?_eq_some_iff.1 h).1, by simp [World.cell?, h], by simp [World.cell?, h], by simp [World.cell?, h], by simp [World.cell?, h]⟩

set_option maxHeartbeats 16000000 in
set_option maxRecDepth 100000 in
theorem bdoes_calls (sp : List Bs) (s : Value) (w : World) (hok : ∀ x, x ∈ sp → HOk x.t) (ht : tabB w.heap.size w) (hs : Steps (fun _ => False) w s sp) : Calls Tryd.prog 4 #[s] w fun e w' => e = .returned (.bool true) ∧ Below w.heap.size w w' := by
  have HT := hide ht
  have HOK := hide hok
  have HS := hide hs
  obtain ⟨a, c, rfl, hlc, hlm⟩ := hs.shape
  have HGT := hide (show ∀ i (hi : i < sp.length), ∃ b off a1 c1, a = some ⟨b, off, none⟩ ∧ Terms (fun b => w.heap.size ≤ b) w (.slice a1 (sp[i]).t.args.length c1) (sp[i]).t.args ∧ ∀ W, Below w.heap.size w W → W.cell? ⟨b, off + i * 4, none⟩ = some (.int .i64 (sp[i]).what) ∧ W.cell? ⟨b, off + i * 4 + 1, none⟩ = some (.int .i64 (sp[i]).t.h) ∧ W.cell? ⟨b, off + i * 4 + 2, none⟩ = some (.slice a1 (sp[i]).t.args.length c1) ∧ W.cell? ⟨b, off + i * 4 + 3, none⟩ = some (.int .i64 (sp[i]).id) from fun i hi => by
    obtain ⟨b, off, a1, c1, e1, e2, e3, e4, e5, e6, e7⟩ := hs.get i hi
    exact ⟨b, off, a1, c1, e1, e7.bar fun b h h' => absurd h' (by omega), fun W hW => ⟨(hW.cell (p := ⟨b, off + i * 4, none⟩) e2).trans e3, (hW.cell (p := ⟨b, off + i * 4 + 1, none⟩) e2).trans e4, (hW.cell (p := ⟨b, off + i * 4 + 2, none⟩) e2).trans e5, (hW.cell (p := ⟨b, off + i * 4 + 3, none⟩) e2).trans e6⟩⟩)
  clear ht hs hok
  go_enter Tryd.func4, Tryd.ntmps4
  go_wp2
  go_loopw [3, 4] (fun q i wr => ∃ (k : Nat) (x : Int), k ≤ sp.length ∧ i = .int .i64 k ∧ q = .int .i64 x ∧ 0 ≤ x ∧ x ≤ 1001 ∧ Hid (cntS x ((stT sp).drop k) = cntS 0 (stT sp)) ∧ Hid (Below w.heap.size w wr)) (fun _ i _ => sp.length - (intOf i).toNat)
  case atStart => exact ⟨0, 0, by omega, rfl, rfl, by omega, by omega, hide (by simp), hide (Below.refl _ _)⟩
  case round =>
    obtain ⟨k, x, hk, rfl, rfl, hx0, hx1, hx, hB⟩ := hrel
    by_cases hle : x ≤ 500
    rotate_left
    · have hx2 : ¬ cntS 0 (stT sp) ≤ 500 := by
        have h1 := hx.out
        by_cases hlt : k < sp.length
        · rw [stT_get _ _ hlt, if_neg hle] at h1; omega
        · rw [List.drop_of_length_le (by rw [stT, List.length_map]; omega)] at h1
          simp only [cntS] at h1; omega
      clear hx
      by_cases hlt : k < sp.length
      · go_wp2
        go_ret
        exact ⟨rfl, hB.out⟩
      · go_wp2
        go_ret
        exact ⟨rfl, hB.out⟩
    by_cases hlt : k < sp.length
    · obtain ⟨b, off, a1, c1, rfl, gt, hc⟩ := HGT.out k hlt
      obtain ⟨g0, g1, g2, g3⟩ := hc _ hB.out
      have hr := cntT_range (sp[k]).t 500 (by omega)
      have hx2 := hx.out
      rw [stT_get _ _ hlt, if_pos hle] at hx2
      have HX2 := hide hx2
      have HG := hide (gt.below hB.out)
      clear hx2 hc gt g0 g3
      go_wp2_with fail
      refine (count_calls _ (sp[k]).t _ _ _ _ 500 (Nat.le_refl _) (by omega) (by omega) ⟨rfl, HG.out⟩).mono ?_
      rintro e w1 ⟨rfl, hB1⟩
      obtain ⟨hr1, hr2⟩ := hr
      have HB2 := hide (more_below hB.out hB1)
      clear hB1 hB g1 g2 HG hx
      go_wp2
      go_roundw
      case rel => exact ⟨k + 1, _, by omega, by go_num, rfl, by omega, by omega, HX2, HB2⟩
      case measure => simp [intOf]; omega
    · have h500 : cntS 0 (stT sp) ≤ 500 := by
        have h1 := hx.out
        rw [List.drop_of_length_le (by rw [stT, List.length_map]; omega)] at h1
        simp only [cntS] at h1; omega
      have HZ := hide (stT_size h500)
      clear hx h500
      go_wp2_with fail
      refine (new_calls (fun _ => False) _ (fun _ h => h.elim)).mono ?_
      rintro e w2 ⟨xb, mb, rfl, hx2, b2⟩
      have HB2 := hide (hB.out.trans (b2.mono hB.out.size))
      have HBS := hide hB.out.size
      have hb3 : Below w2.heap.size w2 (w2.alloc (.cells #[.slice none 0 0] 45)) := (Below.refl _ _).alloc (Nat.le_refl _) _
      have HB3 := hide (more_below HB2.out hb3)
      have HY3 := hide (show RBk (w2.alloc (.cells #[.slice none 0 0] 45)) (BZ xb mb (.slice none 0 0)) w2.heap.size [] (.slice none 0 0) wr.heap.size from
        ⟨World.alloc_heap_new _ _, OwnD.nil _ _ _ _ _, b2.size, by simp [Value.ownBlock], fun b hb hz => by
            have := (hx2.lt b hz).2
            rcases hb with hb | hb
            · omega
            · simp [Value.ownBlock] at hb, fun b hb => by have := (hx2.lt b hb).2; simp; omega⟩)
      have HX3 := hide (show BankAt (w2.alloc (.cells #[.slice none 0 0] 45)) (RZ w2.heap.size (.slice none 0 0)) xb mb [] (.slice none 0 0) (fun _ => none) wr.heap.size from hx2.step ⟨Keep.of_below hb3, fun b h => by
        rcases h with h | h
        · exact .inr (by omega)
        · simp [Value.ownBlock] at h⟩ fun b h => by
        rcases h with h | h
        · simp; omega
        · simp [Value.ownBlock] at h)
      generalize wr.heap.size = base at *
      clear hb3 b2 hx2 HB2 hB
      go_wp2
      generalize w2.alloc (.cells #[.slice none 0 0] 45) = w3 at *
      generalize w2.heap.size = yb at *
      go_loopw [7] (fun i wr => ∃ (j : Nat) (R : List Rw) (rv : Value) (f : Value → Option Value) (L : List Tm) (lv : Value), i = .int .i64 j ∧ j ≤ sp.length ∧ Hid (BankAt wr (RZ yb lv) xb mb R rv f base) ∧ Hid (RBk wr (BZ xb mb rv) yb L lv base) ∧ Hid (Twin R L) ∧ Hid (LOk L 1000000) ∧ Hid (Sized R 500) ∧ Hid (Below w.heap.size w wr)) (fun i _ => sp.length - (intOf i).toNat)
      case atStart => exact ⟨0, [], _, _, [], _, rfl, by omega, HX3, HY3, hide Twin.nil, hide (LOk.nil _), hide (.nil 500), HB3⟩
      case round =>
        clear HX3 HY3 HB3
        obtain ⟨j, R, rv, f, L, lv, rfl, hj, HX, HY, HTW, HLO, HZR, HB⟩ := hrel
        by_cases hlt : j < sp.length
        · obtain ⟨b, off, a1, c1, rfl, gt, hc⟩ := HGT.out j hlt
          obtain ⟨g0, g1, g2, g3⟩ := hc _ HB.out
          have HT1 := hide gt
          have hzj := HZ.out j hlt
          have HHJ := hide (HOK.out _ (List.getElem_mem hlt))
          have hbo : Below wr.heap.size wr (wr.alloc (.cells #[.int .i64 (sp[j]).what, .int .i64 (sp[j]).t.h, .slice a1 (sp[j]).t.args.length c1, .int .i64 (sp[j]).id] 42)) := (Below.refl _ _).alloc (Nat.le_refl _) _
          have HKO := hide (World.alloc_heap_new wr (.cells #[.int .i64 (sp[j]).what, .int .i64 (sp[j]).t.h, .slice a1 (sp[j]).t.args.length c1, .int .i64 (sp[j]).id] 42))
          have HX1 := hide (HX.out.below hbo)
          have HY1 := hide (HY.out.below hbo)
          have HB1 := hide (more_below HB.out hbo)
          have HNB := hide (show ¬ BZ xb mb rv wr.heap.size from fun h => by have := (HX.out.lt _ h).2; omega)
          have HNR := hide (show ¬ RZ yb lv wr.heap.size from fun h => by have := (HY.out.lt _ h).2; omega)
          clear gt hc
          have HTE := hide (HT1.out.below HB1.out)
          generalize hwv : (sp[j]).what = wv at *
          by_cases hw0 : wv = 0
          · subst hw0
            go_wp2_with fail
            generalize wr.alloc (.cells #[.int .i64 0, .int .i64 (sp[j]).t.h, .slice a1 (sp[j]).t.args.length c1, .int .i64 (sp[j]).id] 42) = w4 at *
            have hbz : ∀ b, BZ xb mb rv b → w.heap.size ≤ b := fun b hz => Nat.le_trans HBS.out (HX1.out.lt b hz).1
            have hrz : ∀ b, RZ yb lv b → w.heap.size ≤ b := fun b hz => Nat.le_trans HBS.out (HY1.out.lt b hz).1
            refine (bPut_calls xb mb base (RZ yb lv) (sp[j]).t R rv f _ _ w4 (by omega) (tabB.up (HT.out.on HB1.out) HBS.out) HX1.out ⟨rfl, HTE.out.bar fun b _ hz => hbz b hz⟩).mono ?_
            rintro e w5 ⟨rfl, rv', f', hx5, mv5⟩
            obtain ⟨R', L', x, er, hp1, hp2, htw, hR', hL'⟩ := does_put HX1.out.g HTW.out (sp[j]).t
            rw [hp1] at hx5 ⊢
            simp only at hx5 ⊢
            have HTT := hide htw
            have HB5 := hide (HB1.out.trans (mv5.under hbz HB1.out.size))
            have HY5 := hide (HY1.out.step mv5 fun b hb => (hx5.lt b hb).2)
            obtain ⟨ho5, hn5⟩ := mv5.obj HNB.out HKO.out
            have HO5 := hide ho5
            have HX5 := hide hx5
            have HTE5 := hide (HT1.out.below HB5.out)
            have HP2 := hide hp2
            have HLT := hide (show LOk L' 1000000 by
              rcases hL' with rfl | rfl
              · exact HLO.out
              · exact rputT_ok _ _ HLO.out (by omega))
            have HST := hide (show Sized R' 500 by
              rcases hR' with rfl | rfl
              · exact HZR.out
              · exact HZR.out.kept (putT_kept (sp[j]).t R HX1.out.g).1 hzj)
            obtain ⟨ol, y0, y1, y2, y3⟩ := box4 ho5
            clear hp1 hp2 htw hR' hL' hx5 mv5 ho5 hbz HX1 HY1 HX HY HKO HNB
            go_wp2_with fail
            refine (rPut_calls yb base (BZ xb mb rv') (sp[j]).t L lv _ _ w5 (by omega) HLO.out HY5.out ⟨rfl, HTE5.out.bar fun b _ hz => hrz b hz⟩).mono ?_
            rintro e wt ⟨rfl, lv', hy6, mv6⟩
            rw [HP2.out] at hy6 ⊢
            simp only at hy6 ⊢
            have HXT := hide (HX5.out.step mv6 fun b hb => (hy6.lt b hb).2)
            have HYT := hide hy6
            have HBT := hide (HB5.out.trans (mv6.under hrz HB5.out.size))
            clear HX5 HY5 HO5 HTE5 HP2 hy6 mv6 hrz HB5 HB1 HTE y0 y1 y2 y3
            go_wp2
            obtain ⟨lta, ltc, hltv, -⟩ := HYT.out.row
            obtain ⟨-, yt0, -⟩ := box1 HYT.out.x
            rw [hltv] at yt0
            have hlt9 := HTT.out.len
            go_wp2
            refine drawn_tree (fun W' => W'.cell? ⟨yb, 0, none⟩ = some (.slice lta L'.length ltc)) (.take 0 (.take 2 (.take 3 (.take 4 (.take 5 (.take 6 (.one 1 (.take 7 .done)))))))) (by kernel_rfl) (by kernel_rfl) (by kernel_rfl) (by kernel_rfl) (fun _ _ _ _ _ h => h) yt0 ?_
            have gt := (Below.refl wt.heap.size wt).drew
            have HXT2 := hide (HXT.out.below gt)
            have HYT2 := hide (HYT.out.below gt)
            have HBT2 := hide (more_below HBT.out gt)
            clear HXT HYT HBT gt yt0
            generalize wt.drew = wu at *
            iterate 6 (refine t_take (v := ?_) rfl (by rfl) ?_ ?_; rotate_left; (intro w hS; have hS1 := hS; go_simp; try with_reducible rfl); simp only [Act.put, List.setIfInBounds_toArray, List.set_cons_zero, List.set_cons_succ])
            refine t_one rfl (by rfl) ?_
            intro K hK
            go_simp
            refine (bsize_calls wu HXT2.out).mono ?_
            rintro e wv ⟨rfl, rfl⟩
            obtain ⟨-, yt0, -⟩ := box1 HYT2.out.x
            rw [hltv] at yt0
            refine hK.out _ _ yt0 ?_
            clear hK K
            iterate 1 (refine t_take (v := ?_) rfl (by rfl) ?_ ?_; rotate_left; (intro w hS; have hS1 := hS; go_simp; try with_reducible rfl); simp only [Act.put, List.setIfInBounds_toArray, List.set_cons_zero, List.set_cons_succ])
            refine t_done ?_
            try rw [hlt9]
            clear hltv hlt9 yt0
            go_wp2
            go_roundw
            case rel => exact ⟨j + 1, R', rv', f', L', lv', by go_num, by omega, HXT2, HYT2, HTT, HLT, HST, HBT2⟩
            case measure => simp [intOf]; omega
          by_cases hw1 : wv = 1
          · subst hw1
            go_wp2_with fail
            generalize wr.alloc (.cells #[.int .i64 1, .int .i64 (sp[j]).t.h, .slice a1 (sp[j]).t.args.length c1, .int .i64 (sp[j]).id] 42) = w4 at *
            refine (bfind_calls xb mb base (sp[j]).t.size (RZ yb lv) _ (sp[j]).t R rv f _ _ w4 (Nat.le_refl _) (by omega) HHJ.out (tabB.up (HT.out.on HB1.out) HBS.out) HX1.out ⟨rfl, HTE.out⟩).mono ?_
            rintro e w5 ⟨rfl, b5⟩
            have HX5 := hide (HX1.out.below b5)
            have HY5 := hide (HY1.out.below b5)
            have HB5 := hide (more_below HB1.out b5)
            have HTE5 := hide (HTE.out.below b5)
            have ho5 := (b5.block _ (Array.getElem?_eq_some_iff.1 HKO.out).1).trans HKO.out
            obtain ⟨ol, y0, y1, y2, y3⟩ := box4 ho5
            clear b5 HX1 HY1 HX HY HKO HNB HB1 HTE
            go_wp2_with fail
            refine (rfind_calls (BZ xb mb rv) _ yb L lv base (sp[j]).t _ _ w5 (fun u hu => by have := HLO.out.1 u hu; omega) (by omega) (by have := HLO.out.2; omega) HY5.out ⟨rfl, HTE5.out⟩).mono ?_
            rintro e wt ⟨rfl, b6⟩
            rw [HTW.out.find HX5.out.g (sp[j]).t]
            generalize numV (findT R (sp[j]).t) = xx
            generalize (findT R (sp[j]).t).isSome = yy
            have HXT := hide (HX5.out.below b6)
            have HYT := hide (HY5.out.below b6)
            have HBT := hide (more_below HB5.out b6)
            have HTT := HTW
            have HLT := HLO
            have HST := HZR
            clear HX5 HY5 HTE5 b6 HB5 y0 y1 y2 y3 ho5
            go_wp2
            obtain ⟨lta, ltc, hltv, -⟩ := HYT.out.row
            obtain ⟨-, yt0, -⟩ := box1 HYT.out.x
            rw [hltv] at yt0
            have hlt9 := HTT.out.len
            go_wp2
            refine drawn_tree (fun W' => W'.cell? ⟨yb, 0, none⟩ = some (.slice lta L.length ltc)) (.take 0 (.take 2 (.take 3 (.take 4 (.take 5 (.take 6 (.one 1 (.take 7 .done)))))))) (by kernel_rfl) (by kernel_rfl) (by kernel_rfl) (by kernel_rfl) (fun _ _ _ _ _ h => h) yt0 ?_
            have gt := (Below.refl wt.heap.size wt).drew
            have HXT2 := hide (HXT.out.below gt)
            have HYT2 := hide (HYT.out.below gt)
            have HBT2 := hide (more_below HBT.out gt)
            clear HXT HYT HBT gt yt0
            generalize wt.drew = wu at *
            iterate 6 (refine t_take (v := ?_) rfl (by rfl) ?_ ?_; rotate_left; (intro w hS; have hS1 := hS; go_simp; try with_reducible rfl); simp only [Act.put, List.setIfInBounds_toArray, List.set_cons_zero, List.set_cons_succ])
            refine t_one rfl (by rfl) ?_
            intro K hK
            go_simp
            refine (bsize_calls wu HXT2.out).mono ?_
            rintro e wv ⟨rfl, rfl⟩
            obtain ⟨-, yt0, -⟩ := box1 HYT2.out.x
            rw [hltv] at yt0
            refine hK.out _ _ yt0 ?_
            clear hK K
            iterate 1 (refine t_take (v := ?_) rfl (by rfl) ?_ ?_; rotate_left; (intro w hS; have hS1 := hS; go_simp; try with_reducible rfl); simp only [Act.put, List.setIfInBounds_toArray, List.set_cons_zero, List.set_cons_succ])
            refine t_done ?_
            try rw [hlt9]
            clear hltv hlt9 yt0
            go_wp2
            go_roundw
            case rel => exact ⟨j + 1, R, rv, f, L, lv, by go_num, by omega, HXT2, HYT2, HTT, HLT, HST, HBT2⟩
            case measure => simp [intOf]; omega
          · have hw0' : (wv == 0) = false := by simp [hw0]
            have hw1' : (wv == 1) = false := by simp [hw1]
            go_wp2_with fail
            generalize wr.alloc (.cells #[.int .i64 wv, .int .i64 (sp[j]).t.h, .slice a1 (sp[j]).t.args.length c1, .int .i64 (sp[j]).id] 42) = w4 at *
            refine (bterm_calls xb mb base 500 (fun _ => False) (RZ yb lv) R rv f (sp[j]).id w4 (by omega) (fun _ h => h.elim) HX1.out HZR.out).mono ?_
            rintro e w5 ⟨th, ts, tc, rfl, b5, hr⟩
            obtain ⟨sa, sn, sc, rfl⟩ : ∃ sa sn sc, ts = .slice sa sn sc := by
              rcases hr with ⟨i, t, hi, h2, h3, h4, h5⟩ | ⟨h2, h3, h4, h5⟩
              · obtain ⟨q1, q2, q3, -, -⟩ := h4.shape; exact ⟨_, _, _, q3⟩
              · exact ⟨_, _, _, h4⟩
            have HR1 := hide hr
            have hb6 : Below w5.heap.size w5 (w5.alloc (.cells #[.int .i64 th, .slice sa sn sc] 26)) := (Below.refl _ _).alloc (Nat.le_refl _) _
            have HT61 := hide (World.alloc_heap_new w5 (.cells #[.int .i64 th, .slice sa sn sc] 26))
            have HB56 := hide hb6
            have HX6 := hide ((HX1.out.below b5).below hb6)
            have HY6 := hide ((HY1.out.below b5).below hb6)
            have HB6 := hide (more_below (more_below HB1.out b5) hb6)
            have ho6 := (hb6.block _ (Nat.lt_of_lt_of_le (Array.getElem?_eq_some_iff.1 HKO.out).1 b5.size)).trans ((b5.block _ (Array.getElem?_eq_some_iff.1 HKO.out).1).trans HKO.out)
            have ho5 := (b5.block _ (Array.getElem?_eq_some_iff.1 HKO.out).1).trans HKO.out
            obtain ⟨ol, y0, y1, y2, y3⟩ := box4 ho5
            have HO6 := hide ho6
            clear hr hb6 b5 HX1 HY1 HX HY HKO HNB HB1 HTE ho6 ho5
            go_wp2_with fail
            clear y0 y1 y2 y3
            generalize w5.alloc (.cells #[.int .i64 th, .slice sa sn sc] 26) = w6 at *
            refine (rterm_calls yb base (BZ xb mb rv) L lv (sp[j]).id w6 HLO.out.2 HY6.out).mono ?_
            rintro e w7 ⟨uh, us, uc, rfl, b7, hr2⟩
            obtain ⟨ua, un, ux, rfl⟩ : ∃ sa sn sc, us = .slice sa sn sc := by
              rcases hr2 with ⟨i, hi, h2, h3, h4, h5⟩ | ⟨h2, h3, h4, h5⟩
              · obtain ⟨q1, q2, q3, -, -⟩ := h4.shape; exact ⟨_, _, _, q3⟩
              · exact ⟨_, _, _, h4⟩
            have hcomb : ∃ t1 : Tm, th = t1.h ∧ Terms (fun _ => False) w5 (.slice sa sn sc) t1.args ∧ uh = t1.h ∧ Terms (fun _ => False) w7 (.slice ua un ux) t1.args ∧ tc = uc ∧ t1.size ≤ 1000000 := by
              have hlen := HTW.out.len
              rcases HR1.out with ⟨i, t, hi, h2, h3, h4, h5⟩ | ⟨h2, h3, h4, h5⟩ <;> rcases hr2 with ⟨i', hi', e1, e2, e3, e4⟩ | ⟨e1, e2, e3, e4⟩
              · obtain rfl : i = i' := by omega
                have hq := does_term HTW.out h2 hi'
                rw [hq] at e2 e3
                exact ⟨t, h3, h4, e2, e3.bar fun _ _ h => h.elim, by rw [h5, e4], by rw [← hq]; exact HLO.out.1 _ (List.getElem_mem hi')⟩
              · have := h2.lt; omega
              · omega
              · rw [h4, e3]
                exact ⟨.node 0 [], h3, Terms.nil _ _, e2, Terms.nil _ _, by rw [h5, e4], by simp [Tm.size, Tm.sizes]⟩
            obtain ⟨t1, rfl, hT5, rfl, hT7, rfl, hts⟩ := hcomb
            have HTA := hide ((hT5.below HB56.out).below b7)
            have HTB := hide hT7
            have hb8 : Below w7.heap.size w7 (w7.alloc (.cells #[.int .i64 t1.h, .slice ua un ux] 26)) := (Below.refl _ _).alloc (Nat.le_refl _) _
            have HT82 := hide (World.alloc_heap_new w7 (.cells #[.int .i64 t1.h, .slice ua un ux] 26))
            have HT81 := hide ((hb8.block _ (Nat.lt_of_lt_of_le (Array.getElem?_eq_some_iff.1 HT61.out).1 b7.size)).trans ((b7.block _ (Array.getElem?_eq_some_iff.1 HT61.out).1).trans HT61.out))
            have ho7 := (b7.block _ (Array.getElem?_eq_some_iff.1 HO6.out).1).trans HO6.out
            have HO8 := hide ((hb8.block _ (Array.getElem?_eq_some_iff.1 ho7).1).trans ho7)
            have HX8 := hide ((HX6.out.below b7).below hb8)
            have HY8 := hide ((HY6.out.below b7).below hb8)
            have HB8 := hide (more_below (more_below HB6.out b7) hb8)
            have HTA8 := hide (HTA.out.below hb8)
            have HTB8 := hide (HTB.out.below hb8)
            obtain ⟨ol7, y0, y1, y2, y3⟩ := box4 ho7
            clear hr2 HR1 hb8 b7 HX6 HY6 HB6 HT61 HO6 HTA HTB hT5 hT7 HB56 ho7
            go_wp2_with fail
            clear y0 y1 y2 y3
            generalize w7.alloc (.cells #[.int .i64 t1.h, .slice ua un ux] 26) = w8 at *
            refine (bargs_calls xb mb base (RZ yb lv) R rv f (sp[j]).id w8 HX8.out (fun i hi => by have := HZR.out.lens i hi; omega)).mono ?_
            rintro e w9 ⟨v1, l1, k1, rfl, b9, hi1, hr3⟩
            have HX9 := hide (HX8.out.below b9)
            have HY9 := hide (HY8.out.below b9)
            have HB9 := hide (more_below HB8.out b9)
            have HTA9 := hide (HTA8.out.below b9)
            have HTB9 := hide (HTB8.out.below b9)
            have HT91 := hide ((b9.block _ (Array.getElem?_eq_some_iff.1 HT81.out).1).trans HT81.out)
            have HT92 := hide ((b9.block _ (Array.getElem?_eq_some_iff.1 HT82.out).1).trans HT82.out)
            have ho9 := (b9.block _ (Array.getElem?_eq_some_iff.1 HO8.out).1).trans HO8.out
            have HI1 := hide hi1
            have HR3 := hide hr3
            obtain ⟨ol9, y0, y1, y2, y3⟩ := box4 ho9
            clear b9 HX8 HY8 HB8 HTA8 HTB8 HT81 HT82 HO8 hi1 hr3 ho9
            go_wp2_with fail
            refine (rargs_calls yb base (BZ xb mb rv) L lv (sp[j]).id w9 HLO.out HY9.out).mono ?_
            rintro e wa ⟨v2, l2, k2, rfl, ba, hi2, hr4⟩
            have hcomb : l1 = l2 ∧ k1 = k2 := by
              have hlen := HTW.out.len
              rcases HR3.out with ⟨i, hi, h1, h2, h3⟩ | ⟨h1, h2, h3⟩ <;> rcases hr4 with ⟨i', hi', e1, e2, e3⟩ | ⟨e1, e2, e3⟩
              · obtain rfl : i = i' := by omega
                exact ⟨by rw [h2, e2, does_row HX9.out.g HTW.out hi hi'], by rw [h3, e3]⟩
              · omega
              · omega
              · exact ⟨by rw [h2, e2], by rw [h3, e3]⟩
            obtain ⟨rfl, rfl⟩ := hcomb
            obtain ⟨va, vc, rfl, -, -⟩ := HI1.out.shape
            obtain ⟨vb, vd, rfl, -, -⟩ := hi2.shape
            have HXA := hide (HX9.out.below ba)
            have HYA := hide (HY9.out.below ba)
            have HBA := hide (more_below HB9.out ba)
            have HTAA := hide (HTA9.out.below ba)
            have HTBA := hide (HTB9.out.below ba)
            have HIA := hide (HI1.out.below ba)
            have HIB := hide hi2
            obtain ⟨q9, z0, z1, -, -⟩ := box2 ((ba.block _ (Array.getElem?_eq_some_iff.1 HT91.out).1).trans HT91.out)
            obtain ⟨q8, z2, z3, -, -⟩ := box2 ((ba.block _ (Array.getElem?_eq_some_iff.1 HT92.out).1).trans HT92.out)
            clear ba hr4 HR3 HX9 HY9 HB9 HTA9 HTB9 HT91 HT92 HI1 hi2 y0 y1 y2 y3
            go_wp2_with fail
            refine (same_calls t1 t1 _ _ _ _ _ _ wa (by omega) (by omega) ⟨rfl, HTAA.out⟩ ⟨rfl, HTBA.out⟩).mono ?_
            rintro e wb ⟨rfl, bb⟩
            rw [sameB_self]
            have HXB := hide (HXA.out.below bb)
            have HYB := hide (HYA.out.below bb)
            have HBB := hide (more_below HBA.out bb)
            have HIA2 := hide (HIA.out.below bb)
            have HIB2 := hide (HIB.out.below bb)
            clear bb HXA HYA HBA HTAA HTBA HIA HIB z0 z1 z2 z3
            go_wp2_with fail
            refine (rints_calls l1 l1 va vb vc vd wb HIA2.out.ins HIB2.out.ins).mono ?_
            rintro e wt ⟨rfl, bt⟩
            rw [show decide (l1 = l1) = true by simp]
            have HXT := hide (HXB.out.below bt)
            have HYT := hide (HYB.out.below bt)
            have HBT := hide (more_below HBB.out bt)
            have HTT := HTW
            have HLT := HLO
            have HST := HZR
            clear HXB HYB HBB bt HIA2 HIB2
            go_wp2
            obtain ⟨lta, ltc, hltv, -⟩ := HYT.out.row
            obtain ⟨-, yt0, -⟩ := box1 HYT.out.x
            rw [hltv] at yt0
            have hlt9 := HTT.out.len
            go_wp2
            refine drawn_tree (fun W' => W'.cell? ⟨yb, 0, none⟩ = some (.slice lta L.length ltc)) (.take 0 (.take 2 (.take 3 (.take 4 (.take 5 (.take 6 (.one 1 (.take 7 .done)))))))) (by kernel_rfl) (by kernel_rfl) (by kernel_rfl) (by kernel_rfl) (fun _ _ _ _ _ h => h) yt0 ?_
            have gt := (Below.refl wt.heap.size wt).drew
            have HXT2 := hide (HXT.out.below gt)
            have HYT2 := hide (HYT.out.below gt)
            have HBT2 := hide (more_below HBT.out gt)
            clear HXT HYT HBT gt yt0
            generalize wt.drew = wu at *
            iterate 6 (refine t_take (v := ?_) rfl (by rfl) ?_ ?_; rotate_left; (intro w hS; have hS1 := hS; go_simp; try with_reducible rfl); simp only [Act.put, List.setIfInBounds_toArray, List.set_cons_zero, List.set_cons_succ])
            refine t_one rfl (by rfl) ?_
            intro K hK
            go_simp
            refine (bsize_calls wu HXT2.out).mono ?_
            rintro e wv ⟨rfl, rfl⟩
            obtain ⟨-, yt0, -⟩ := box1 HYT2.out.x
            rw [hltv] at yt0
            refine hK.out _ _ yt0 ?_
            clear hK K
            iterate 1 (refine t_take (v := ?_) rfl (by rfl) ?_ ?_; rotate_left; (intro w hS; have hS1 := hS; go_simp; try with_reducible rfl); simp only [Act.put, List.setIfInBounds_toArray, List.set_cons_zero, List.set_cons_succ])
            refine t_done ?_
            try rw [hlt9]
            clear hltv hlt9 yt0
            go_wp2
            go_roundw
            case rel => exact ⟨j + 1, R, rv, f, L, lv, by go_num, by omega, HXT2, HYT2, HTT, HLT, HST, HBT2⟩
            case measure => simp [intOf]; omega
        · go_wp2_with fail
          refine (awake6_calls w.heap.size wr (HT.out.on HB.out) HB.out.size).mono ?_
          rintro e w3 ⟨rfl, b3⟩
          have HB3 := hide (more_below HB.out b3)
          go_wp2
          go_ret
          exact ⟨rfl, HB3.out⟩
end Go.Proofs.YtefmgooceeigbaaDoor
