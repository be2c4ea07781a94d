/- BankOnce, walked. -/
import Derived.Test.YtefmgooceeigbaaDoorBOnceP
import Derived.Test.YtefmgooceeigbaaDoorBank9
import Derived.Test.YtefmgooceeigbaaDoorBank10
import Derived.Test.YtefmgooceeigbaaDoorFew5
import Derived.Test.YtefmgooceeigbaaDoorAwake6
import Derived.Test.YtefmgooceeigbaaDoorDraw8
set_option linter.unusedSimpArgs false
set_option linter.unusedVariables false
namespace Go.Proofs.YtefmgooceeigbaaDoor
open Go.RowKit

set_option maxHeartbeats 16000000 in
set_option maxRecDepth 100000 in
theorem bonce_calls (ts : List Tm) (s : Value) (w : World) (hok : HOks ts) (ht : tabB w.heap.size w) (hs : Terms (fun _ => False) w s ts) : Calls Tryd.prog 6 #[s] w fun e w' => e = .returned (.bool true) ∧ Below w.heap.size w w' := by
  have HT := hide ht
  have HF := hide (few5_calls ts (fun _ => False) s w hs)
  have HOK := hide hok
  obtain ⟨a, c, rfl, hlc, hlm⟩ := hs.shape
  have HTS := hide (show Terms (fun b => w.heap.size ≤ b) w (.slice a ts.length c) ts from hs.bar fun b h h' => absurd h' (by omega))
  clear ht hs hok
  go_enter Tryd.func6, Tryd.ntmps6
  go_wp2_with fail
  refine HF.out.mono ?_
  rintro e w1 ⟨rfl, b1⟩
  have HB1 := hide b1
  clear b1 HF
  cases hfew : fewS ts with
  | false =>
    clear hfew
    go_wp2
    go_ret
    exact ⟨rfl, HB1.out⟩
  | true =>
  have HSZ := hide (fewS_sizes hfew)
  clear hfew
  go_wp2_with fail
  refine (new_calls (fun _ => False) w1 (fun _ h => h.elim)).mono ?_
  rintro e w2 ⟨xb, mb, rfl, hx2, b2⟩
  have HX2 := hide hx2
  have HB2 := hide (HB1.out.trans (b2.mono HB1.out.size))
  have HBS := hide HB1.out.size
  generalize w1.heap.size = base at *
  clear hx2 b2 HB1
  go_wp2
  go_loopw [4] (fun i wr => ∃ (j : Nat) (R : List Rw) (rv : Value) (f : Value → Option Value), i = .int .i64 j ∧ j ≤ ts.length ∧ Hid (R.length ≤ Tm.sizes (ts.take j)) ∧ Hid (BankAt wr (fun _ => False) xb mb R rv f base) ∧ Hid (Sized R 500) ∧ Hid (Below w.heap.size w wr)) (fun i _ => ts.length - (intOf i).toNat)
  case atStart => exact ⟨0, [], _, _, rfl, by omega, hide (by simp), HX2, hide (.nil 500), HB2⟩
  case round =>
    obtain ⟨j, R, rv, f, rfl, hj, HRL, HX, HZ, HB⟩ := hrel
    by_cases hlt : j < ts.length
    · obtain ⟨b, off, a', c', rfl, hbs, -, q0, q1, qt⟩ := HTS.out.get j hlt
      have HC := hide (show ∀ W, Below w.heap.size w W → (W.cell? ⟨b, off + j * 2, none⟩ = some (.int .i64 ts[j].h) ∧ W.cell? ⟨b, off + j * 2 + 1, none⟩ = some (.slice a' ts[j].args.length c')) ∧ Terms (fun b => w.heap.size ≤ b) W (.slice a' ts[j].args.length c') ts[j].args from fun W hW =>
        ⟨⟨(hW.cell (p := ⟨b, off + j * 2, none⟩) hbs).trans q0, (hW.cell (p := ⟨b, off + j * 2 + 1, none⟩) hbs).trans q1⟩, qt.below hW⟩)
      have HQT := hide qt
      clear q0 q1 qt
      obtain ⟨⟨g0, g1⟩, gt⟩ := HC.out _ HB.out
      obtain ⟨hz1, hz2⟩ := sizes_take ts j hlt
      have HZ1 := hide hz1
      have HZ2 := hide hz2
      have HTJ := hide (show (ts[j]).size ≤ 500 by have := HSZ.out; omega)
      have hBZ : ∀ b, BZ xb mb rv b → w.heap.size ≤ b := fun b hz => Nat.le_trans HBS.out (HX.out.lt b hz).1
      have HG := hide (show IsTm (BZ xb mb rv) wr ts[j].h (.slice a' ts[j].args.length c') ts[j] from ⟨rfl, gt.bar fun b _ hz => hBZ b hz⟩)
      have HHJ := hide (HOK.out.get j hlt)
      clear hz1 hz2 gt
      go_wp2_with fail
      refine (bPut_calls xb mb _ _ ts[j] R rv f _ _ wr (by have := HTJ.out; omega) (tabB.up (HT.out.on HB.out) HBS.out) HX.out HG.out).mono ?_
      rintro e w3 ⟨he, rv3, f3, hx3, mv3⟩
      have HB3 := hide (HB.out.trans (mv3.under hBZ HB.out.size))
      clear mv3 hBZ HG g0 g1
      obtain ⟨⟨g0, g1⟩, gt⟩ := HC.out _ HB3.out
      by_cases hc : chk ts[j] = 0
      rotate_left
      · have hp : putB R ts[j] = (R, 0, 1) := by rw [putB, if_neg hc]
        rw [hp] at he hx3
        simp only at he hx3
        subst he
        have HX3 := hide hx3
        have hne : (chk ts[j] == 0) = false := by simp [hc]
        have HRL3 := hide (show R.length ≤ Tm.sizes (ts.take (j + 1)) by rw [HZ1.out]; have := HRL.out; omega)
        clear hx3 hp hc HX HB HRL
        go_wp2_with fail
        refine (check_calls ts[j] _ _ _ w3 ⟨rfl, gt⟩ (by have := HTJ.out; omega)).mono ?_
        rintro e w4 ⟨rfl, b4⟩
        have HX4 := hide (HX3.out.below b4)
        have HB4 := hide (more_below HB3.out b4)
        clear b4 HX3 HB3 gt g0 g1
        go_wp2
        go_roundw
        case rel => exact ⟨j + 1, R, rv3, f3, by go_num, by omega, HRL3, HX4, HZ, HB4⟩
        case measure => simp [intOf]; omega
      · obtain ⟨R', n, hp1, hat, hkp, hp2, hfd, hln⟩ := once_put HX.out.g hc (by have := HTJ.out; have := HRL.out; have := HSZ.out; have := HZ1.out; have := HZ2.out; omega)
        rw [hp1] at he hx3
        simp only at he hx3
        subst he
        have HP2 := hide hp2
        have HAT := hide hat
        have HFD := hide hfd
        have HLN := hide hln
        have HX3 := hide hx3
        have HRL3 := hide (show R'.length ≤ Tm.sizes (ts.take (j + 1)) by rw [HZ1.out]; have := HRL.out; have := hkp.few; omega)
        have HZ3 := hide (HZ.out.kept hkp HTJ.out)
        have hnl := hat.lt
        clear hp1 hat hkp hp2 hfd hx3 hc hln HX HB HRL HZ
        go_wp2_with fail
        refine (bsize_calls w3 HX3.out).mono ?_
        rintro e w4 ⟨rfl, rfl⟩
        go_wp2_with fail
        have hBZ : ∀ b, BZ xb mb rv3 b → w.heap.size ≤ b := fun b hz => Nat.le_trans HBS.out (HX3.out.lt b hz).1
        refine (bPut_calls xb mb _ _ ts[j] R' rv3 f3 _ _ w3 (by have := HTJ.out; omega) (tabB.up (HT.out.on HB3.out) HBS.out) HX3.out ⟨rfl, gt.bar fun b _ hz => hBZ b hz⟩).mono ?_
        rintro e w5 ⟨he, rv5, f5, hx5, mv5⟩
        rw [HP2.out] at he hx5
        simp only at he hx5
        subst he
        have HB5 := hide (HB3.out.trans (mv5.under hBZ HB3.out.size))
        have HX5 := hide hx5
        clear mv5 hBZ hx5 HX3 HB3 HP2 g0 g1 gt
        obtain ⟨⟨g0, g1⟩, gt⟩ := HC.out _ HB5.out
        go_wp2_with fail
        refine (bfind_calls xb mb base ts[j].size _ _ ts[j] R' rv5 f5 _ _ w5 (Nat.le_refl _) (by have := HTJ.out; omega) HHJ.out (tabB.up (HT.out.on HB5.out) HBS.out) HX5.out ⟨rfl, gt⟩).mono ?_
        rintro e w6 ⟨rfl, b6⟩
        rw [HFD.out]
        simp only [numV, Option.getD_some, Option.isSome_some]
        have HB6 := hide (more_below HB5.out b6)
        have HX6 := hide (HX5.out.below b6)
        clear b6 HB5 HX5 g0 g1 gt
        go_wp2_with fail
        refine (bterm_calls xb mb base 500 (fun _ => False) _ R' rv5 f5 n w6 (by omega) (fun _ h => h.elim) HX6.out HZ3.out).mono ?_
        rintro e w7 ⟨th, tsl, tc, rfl, b7, hr⟩
        have hr' : th = ts[j].h ∧ Terms (fun _ => False) w7 tsl ts[j].args ∧ tc = 0 := by
          rcases hr with ⟨i, t, hi, h2, h3, h4, h5⟩ | ⟨h2, -⟩
          · obtain rfl : n = i := by omega
            obtain rfl := IsAt.one _ _ _ h2 HAT.out
            exact ⟨h3, h4, h5⟩
          · omega
        obtain ⟨rfl, hT7, rfl⟩ := hr'
        clear hr
        obtain ⟨ta, tcc, rfl, -, -⟩ := hT7.shape
        have hb8 : Below w7.heap.size w7 (w7.alloc (.cells #[.int .i64 ts[j].h, .slice ta ts[j].args.length tcc] 26)) := (Below.refl _ _).alloc (Nat.le_refl _) _
        have k8 := World.alloc_heap_new w7 (.cells #[.int .i64 ts[j].h, .slice ta ts[j].args.length tcc] 26)
        have HX8 := hide ((HX6.out.below b7).below hb8)
        have HB8 := hide (more_below (more_below HB6.out b7) hb8)
        have HT8 := hide (hT7.below hb8)
        clear hb8 HX6 HB6 b7 hT7
        go_wp2
        generalize w7.alloc (.cells #[.int .i64 ts[j].h, .slice ta ts[j].args.length tcc] 26) = w8 at *
        generalize w7.heap.size = tb at *
        have HTC := hide (show ∀ W', Below w8.heap.size w8 W' → W'.cell? ⟨tb, 0, none⟩ = some (.int .i64 ts[j].h) ∧ W'.cell? ⟨tb, 1, none⟩ = some (.slice ta ts[j].args.length tcc) ∧ W'.cell? ⟨b, off + j * 2, none⟩ = some (.int .i64 ts[j].h) ∧ W'.cell? ⟨b, off + j * 2 + 1, none⟩ = some (.slice a' ts[j].args.length c') from fun W' hW => by
          obtain ⟨-, z0, z1, -, -⟩ := box2 ((hW.block _ (Array.getElem?_eq_some_iff.1 k8).1).trans k8)
          obtain ⟨⟨g0, g1⟩, -⟩ := HC.out _ (more_below HB8.out hW)
          exact ⟨z0, z1, g0, g1⟩)
        clear k8
        refine drawn_tree (fun W' => W'.cell? ⟨tb, 0, none⟩ = some (.int .i64 ts[j].h) ∧ W'.cell? ⟨tb, 1, none⟩ = some (.slice ta ts[j].args.length tcc) ∧ W'.cell? ⟨b, off + j * 2, none⟩ = some (.int .i64 ts[j].h) ∧ W'.cell? ⟨b, off + j * 2 + 1, none⟩ = some (.slice a' ts[j].args.length c')) (.take 0 (.take 1 (.take 2 (.take 3 (.take 4 (.take 5 (.take 6 (.take 7 (.take 8 (.take 9 (.take 10 (.take 11 (.take 12 (.take 13 (.take 14 (.take 15 (.take 16 (.take 17 (.take 18 (.take 19 (.take 20 (.take 21 (.take 22 (.take 23 (.take 24 (.take 25 (.one 26 (.take 27 (.take 28 (.take 29 (.take 30 (.take 32 (.one 31 (.take 33 (.take 34 (.take 35 (.take 36 (.take 37 (.take 38 (.take 39 (.take 40 (.take 41 (.take 42 (.take 43 .done)))))))))))))))))))))))))))))))))))))))))))) (by kernel_rfl) (by kernel_rfl) (by kernel_rfl) (by kernel_rfl) (fun _ _ _ _ _ h => h) (HTC.out _ (Below.refl _ _).drew) ?_
        have g8 := (Below.refl w8.heap.size w8).drew
        have HX9 := hide (HX8.out.below g8)
        have HB9 := hide (more_below HB8.out g8)
        have HT9 := hide (HT8.out.below g8)
        have HC9 := hide (show ∀ W', Below w8.drew.heap.size w8.drew W' → _ from fun W' hW => HTC.out W' (g8.trans hW))
        clear HX8 HB8 HT8 HTC g8
        generalize w8.drew = w9 at *
        iterate 26 (refine t_take (v := ?_) rfl (by rfl) ?_ ?_; rotate_left; (intro w hS; obtain ⟨hS1, hS2, hS3, hS4⟩ := hS; go_simp; try with_reducible rfl); simp only [Act.put, List.setIfInBounds_toArray, List.set_cons_zero, List.set_cons_succ])
        refine t_one rfl (by rfl) ?_
        intro K hK
        go_simp
        obtain ⟨-, gt⟩ := HC.out _ HB9.out
        refine (tsame_calls ts[j] ts[j] _ _ _ _ _ _ w9 (by have := HTJ.out; omega) ⟨rfl, HT9.out⟩ ⟨rfl, gt⟩).mono ?_
        rintro e wa ⟨rfl, ba⟩
        rw [sameB_self]
        have HXA := hide (HX9.out.below ba)
        have HBA := hide (more_below HB9.out ba)
        have HSA := hide (HC9.out _ ba)
        refine hK.out _ _ HSA.out ?_
        clear hK K ba HX9 HB9 HT9 HC9 gt
        iterate 5 (refine t_take (v := ?_) rfl (by rfl) ?_ ?_; rotate_left; (intro w hS; obtain ⟨hS1, hS2, hS3, hS4⟩ := hS; go_simp; try with_reducible rfl); simp only [Act.put, List.setIfInBounds_toArray, List.set_cons_zero, List.set_cons_succ])
        refine t_one rfl (by rfl) ?_
        intro K hK
        go_simp
        refine (bsize_calls wa HXA.out).mono ?_
        rintro e wb ⟨rfl, rfl⟩
        refine hK.out _ _ HSA.out ?_
        clear hK K
        have hnl2 : decide ((n : Int) ≥ (R'.length : Int)) = false := by simp; omega
        iterate 11 (refine t_take (v := ?_) rfl (by rfl) ?_ ?_; rotate_left; (intro w hS; obtain ⟨hS1, hS2, hS3, hS4⟩ := hS; go_simp; try with_reducible rfl); simp only [Act.put, List.setIfInBounds_toArray, List.set_cons_zero, List.set_cons_succ])
        refine t_done ?_
        clear HSA hnl2
        go_wp2_with fail
        have HLE := hide HZ3.out.lens
        refine (bargs_calls xb mb base _ R' rv5 f5 n wa HXA.out (fun i hi => by have := HLE.out i hi; omega)).mono ?_
        rintro e wb ⟨v, l, cc, rfl, bb, hI, hr⟩
        obtain ⟨hni, hrh, hra⟩ := isAt_row HAT.out
        have hr' : l = zs (R'[n]).2 ∧ cc = 0 := by
          rcases hr with ⟨i, hi, h1, h2, h3⟩ | ⟨h1, -⟩
          · obtain rfl : n = i := by omega
            exact ⟨h2, h3⟩
          · omega
        obtain ⟨rfl, rfl⟩ := hr'
        clear hr
        have hlen := AreAt.length _ _ hra
        have hll : (zs (R'[n]).2).length = ts[j].args.length := by rw [zs_length, hlen]
        obtain ⟨va, vc, rfl, -, hvl⟩ := hI.shape
        rw [hll] at hI hvl
        have HXB := hide (HXA.out.below bb)
        have HBB := hide (more_below HBA.out bb)
        have HAK := hide (show ∀ k (hk : k < ts[j].args.length), ∃ (vb vo m : Nat), va = some ⟨vb, vo, none⟩ ∧ vb < wb.heap.size ∧ wb.cell? ⟨vb, vo + k, none⟩ = some (.int .i64 (m : Int)) ∧ IsAt R' ts[j].args[k] m ∧ m < n from fun k hk => by
          have hk2 : k < (R'[n]).2.length := by rw [← hlen]; exact hk
          obtain ⟨vb, vo, e1, e2, e3, e4⟩ := hI.get k (by rw [zs_length]; exact hk2)
          refine ⟨vb, vo, (R'[n]).2[k], e1, e2, by rw [e4]; simp [zs], AreAt.get _ _ hra k hk hk2, ?_⟩
          exact HXA.out.g.ok n (R'[n]).1 (R'[n]).2 (List.getElem?_eq_getElem hni) _ (List.getElem_mem hk2))
        rw [hll]
        clear bb hI hra hlen hll HXA HBA hrh HLE
        obtain ⟨⟨g0, g1⟩, -⟩ := HC.out _ HBB.out
        go_wp2
        go_loopw [16] (fun q wr => ∃ k : Nat, q = .int .i64 k ∧ k ≤ ts[j].args.length ∧ Hid (Below wb.heap.size wb wr)) (fun q _ => ts[j].args.length - (intOf q).toNat)
        case atStart => exact ⟨0, rfl, by omega, hide (Below.refl _ _)⟩
        case round =>
          obtain ⟨k, rfl, hk, HW⟩ := hrel
          by_cases hkl : k < ts[j].args.length
          · obtain ⟨vb, vo, m, rfl, hvb, hvc, hmat, hmn⟩ := HAK.out k hkl
            have HVC := hide (show ∀ W, Below wb.heap.size wb W → W.cell? ⟨vb, vo + k, none⟩ = some (.int .i64 (m : Int)) from fun W hW => (hW.cell (p := ⟨vb, vo + k, none⟩) hvb).trans hvc)
            have HMA := hide hmat
            have hv := HVC.out _ HW.out
            have HX1 := hide (HXB.out.below HW.out)
            clear hvc hmat g0 g1
            go_wp2_with fail
            refine (bterm_calls xb mb base 500 (fun _ => False) _ R' rv5 f5 m _ (by omega) (fun _ h => h.elim) HX1.out HZ3.out).mono ?_
            rintro e wc ⟨uh, us, uc, rfl, bc, hr⟩
            have hr' : uh = ts[j].args[k].h ∧ Terms (fun _ => False) wc us ts[j].args[k].args ∧ uc = 0 := by
              rcases hr with ⟨i, t, hi, h2, h3, h4, h5⟩ | ⟨h2, -⟩
              · obtain rfl : m = i := by omega
                obtain rfl := IsAt.one _ _ _ h2 HMA.out
                exact ⟨h3, h4, h5⟩
              · omega
            obtain ⟨rfl, hTc, rfl⟩ := hr'
            clear hr
            obtain ⟨ua, ucc, rfl, -, -⟩ := hTc.shape
            have hbd : Below wc.heap.size wc (wc.alloc (.cells #[.int .i64 ts[j].args[k].h, .slice ua ts[j].args[k].args.length ucc] 26)) := (Below.refl _ _).alloc (Nat.le_refl _) _
            have kd := World.alloc_heap_new wc (.cells #[.int .i64 ts[j].args[k].h, .slice ua ts[j].args[k].args.length ucc] 26)
            have HWD := hide (more_below (more_below HW.out bc) hbd)
            have HTD := hide (hTc.below hbd)
            clear hbd HW bc hTc HX1 hv
            go_wp2
            generalize wc.alloc (.cells #[.int .i64 ts[j].args[k].h, .slice ua ts[j].args[k].args.length ucc] 26) = wd at *
            generalize wc.heap.size = td at *
            obtain ⟨p2, o2, a2, c2, rfl, hp2, -, e20, e21, -⟩ := HQT.out.get k hkl
            have hwwd := more_below HBB.out HWD.out
            have HSD := hide (show ∀ W', Below wd.heap.size wd W' → W'.cell? ⟨td, 0, none⟩ = some (.int .i64 ts[j].args[k].h) ∧ W'.cell? ⟨td, 1, none⟩ = some (.slice ua ts[j].args[k].args.length ucc) ∧ W'.cell? ⟨vb, vo + k, none⟩ = some (.int .i64 (m : Int)) ∧ W'.cell? ⟨b, off + j * 2 + 1, none⟩ = some (.slice (some ⟨p2, o2, none⟩) ts[j].args.length c') ∧ W'.cell? ⟨p2, o2 + k * 2, none⟩ = some (.int .i64 ts[j].args[k].h) ∧ W'.cell? ⟨p2, o2 + k * 2 + 1, none⟩ = some (.slice a2 ts[j].args[k].args.length c2) from fun W' hW => by
              obtain ⟨-, z0, z1, -, -⟩ := box2 ((hW.block _ (Array.getElem?_eq_some_iff.1 kd).1).trans kd)
              have hww := more_below hwwd hW
              obtain ⟨⟨-, g1⟩, -⟩ := HC.out _ hww
              exact ⟨z0, z1, HVC.out _ (more_below HWD.out hW), g1, (hww.cell (p := ⟨p2, o2 + k * 2, none⟩) hp2).trans e20, (hww.cell (p := ⟨p2, o2 + k * 2 + 1, none⟩) hp2).trans e21⟩)
            clear kd hwwd e20 e21
            refine drawn_tree (fun W' => W'.cell? ⟨td, 0, none⟩ = some (.int .i64 ts[j].args[k].h) ∧ W'.cell? ⟨td, 1, none⟩ = some (.slice ua ts[j].args[k].args.length ucc) ∧ W'.cell? ⟨vb, vo + k, none⟩ = some (.int .i64 (m : Int)) ∧ W'.cell? ⟨b, off + j * 2 + 1, none⟩ = some (.slice (some ⟨p2, o2, none⟩) ts[j].args.length c') ∧ W'.cell? ⟨p2, o2 + k * 2, none⟩ = some (.int .i64 ts[j].args[k].h) ∧ W'.cell? ⟨p2, o2 + k * 2 + 1, none⟩ = some (.slice a2 ts[j].args[k].args.length c2)) (.take 0 (.take 1 (.take 2 (.take 3 (.take 4 (.take 5 (.take 6 (.take 7 (.take 8 (.take 9 (.take 10 (.take 11 (.take 12 (.take 13 (.take 14 (.take 15 (.take 16 (.take 17 (.take 18 (.take 19 (.take 20 (.take 21 (.take 22 (.take 23 (.take 24 (.take 25 (.take 26 (.one 27 (.take 28 (.take 29 .done)))))))))))))))))))))))))))))) (by kernel_rfl) (by kernel_rfl) (by kernel_rfl) (by kernel_rfl) (fun _ _ _ _ _ h => h) (HSD.out _ (Below.refl _ _).drew) ?_
            have gd := (Below.refl wd.heap.size wd).drew
            have HTE := hide (HTD.out.below gd)
            have HWE := hide (more_below HWD.out gd)
            have HSE := hide (show ∀ W', Below wd.drew.heap.size wd.drew W' → _ from fun W' hW => HSD.out W' (gd.trans hW))
            clear HSD HTD HWD gd
            generalize wd.drew = we at *
            have hmn0 : decide (n ≤ m) = false := by simp; omega
            iterate 12 (refine t_take (v := ?_) rfl (by rfl) ?_ ?_; rotate_left; (intro w hS; obtain ⟨hS1, hS2, hS3, hS4, hS5, hS6⟩ := hS; go_simp; try with_reducible rfl); simp only [Act.put, List.setIfInBounds_toArray, List.set_cons_zero, List.set_cons_succ])
            iterate 15 (refine t_take (v := ?_) rfl (by rfl) ?_ ?_; rotate_left; (intro w hS; obtain ⟨hS1, hS2, hS3, hS4, hS5, hS6⟩ := hS; go_simp; try with_reducible rfl); simp only [Act.put, List.setIfInBounds_toArray, List.set_cons_zero, List.set_cons_succ])
            refine t_one rfl (by rfl) ?_
            intro K hK
            go_simp
            obtain ⟨p3, o3, a3, c3, e3, f0, f1, ft⟩ := HQT.out.getW (more_below HBB.out HWE.out) k hkl
            simp only [Option.some.injEq, Addr.mk.injEq, and_true] at e3
            obtain ⟨rfl, rfl⟩ := e3
            have hse := (HSE.out _ (Below.refl _ _)).2.2.2.2.2
            rw [f1] at hse
            simp only [Option.some.injEq, Value.slice.injEq, true_and] at hse
            obtain ⟨rfl, rfl⟩ := hse
            have hks : ts[j].args[k].size ≤ 1000000000 := by have := HTJ.out; have := ts[j].size_eq; have := Tm.size_get ts[j].args k hkl; omega
            refine (tsame_calls ts[j].args[k] ts[j].args[k] _ _ _ _ _ _ we hks ⟨rfl, HTE.out⟩ ft).mono ?_
            rintro e wf ⟨rfl, bf⟩
            rw [sameB_self]
            have HWF := hide (more_below HWE.out bf)
            have HSA := hide (HSE.out _ bf)
            refine hK.out _ _ HSA.out ?_
            clear hK K bf HWE HSE HTE f0 f1 ft
            iterate 2 (refine t_take (v := ?_) rfl (by rfl) ?_ ?_; rotate_left; (intro w hS; obtain ⟨hS1, hS2, hS3, hS4, hS5, hS6⟩ := hS; go_simp; try with_reducible rfl); simp only [Act.put, List.setIfInBounds_toArray, List.set_cons_zero, List.set_cons_succ])
            refine t_done ?_
            clear HSA hmn0
            go_wp2
            go_roundw
            case rel => exact ⟨k + 1, by go_num, by omega, HWF⟩
            case measure => simp [intOf]; omega
          · obtain rfl : k = ts[j].args.length := by omega
            have HX7 := hide (HXB.out.below HW.out)
            have HB7 := hide (more_below HBB.out HW.out)
            clear HW HXB HBB HAK hk hkl g0 g1
            go_wp2
            go_loopw [19] (fun q wq => ∃ k : Nat, q = .int .i64 k ∧ k ≤ j ∧ Hid (Below wr.heap.size wr wq)) (fun q _ => j - (intOf q).toNat)
            case atStart => exact ⟨0, rfl, by omega, hide (Below.refl _ _)⟩
            case round =>
              obtain ⟨k, rfl, hk, HW⟩ := hrel
              have HX8 := hide (HX7.out.below HW.out)
              have HB8 := hide (more_below HB7.out HW.out)
              by_cases hkl : k < j
              · have hkt : k < ts.length := by omega
                have hks : (ts[k]).size ≤ 500 := by have := HSZ.out; have := Tm.size_get ts k hkt; omega
                obtain ⟨b4, o4, a4, c4, e4, p0, p1, gt⟩ := HTS.out.getW HB8.out k hkt
                simp only [Option.some.injEq, Addr.mk.injEq, and_true] at e4
                obtain ⟨rfl, rfl⟩ := e4
                have HGT := hide gt
                clear gt
                go_wp2_with fail
                refine (bfind_calls xb mb base (ts[k]).size _ _ ts[k] R' rv5 f5 _ _ _ (Nat.le_refl _) (by omega) (HOK.out.get k hkt) (tabB.up (HT.out.on HB8.out) HBS.out) HX8.out HGT.out).mono ?_
                rintro e wg ⟨rfl, bg⟩
                have HWG := hide (more_below HW.out bg)
                have HBG := hide (more_below HB8.out bg)
                have HGT2 := hide (HGT.out.below bg)
                have HP := hide (show wg.cell? ⟨b, off + k * 2, none⟩ = some (.int .i64 ts[k].h) ∧ wg.cell? ⟨b, off + k * 2 + 1, none⟩ = some (.slice a4 ts[k].args.length c4) from ⟨(bg.cell (p := ⟨b, off + k * 2, none⟩) (World.block_lt_of_cell? _ _ p0)).trans p0, (bg.cell (p := ⟨b, off + k * 2 + 1, none⟩) (World.block_lt_of_cell? _ _ p1)).trans p1⟩)
                have HSG := hide (show ∀ W', Below wg.heap.size wg W' → W'.cell? ⟨b, off + k * 2, none⟩ = some (.int .i64 ts[k].h) ∧ W'.cell? ⟨b, off + k * 2 + 1, none⟩ = some (.slice a4 ts[k].args.length c4) ∧ W'.cell? ⟨b, off + j * 2, none⟩ = some (.int .i64 ts[j].h) ∧ W'.cell? ⟨b, off + j * 2 + 1, none⟩ = some (.slice a' ts[j].args.length c') from fun W' hW => by
                  obtain ⟨⟨y0, y1⟩, -⟩ := HC.out _ (more_below HBG.out hW)
                  exact ⟨(hW.cell (p := ⟨b, off + k * 2, none⟩) (World.block_lt_of_cell? _ _ HP.out.1)).trans HP.out.1, (hW.cell (p := ⟨b, off + k * 2 + 1, none⟩) (World.block_lt_of_cell? _ _ HP.out.2)).trans HP.out.2, y0, y1⟩)
                clear bg p0 p1 HGT HB8 HX8 HW
                have HSM := hide (fun (m : Nat) (h : findT R' ts[k] = some m) => once_same HX7.out.g HAT.out h)
                cases hf : findT R' ts[k] with
                | none =>
                  simp only [numV, Option.getD_none, Option.isSome_none, Int.natCast_zero]
                  clear hf HSM
                  go_wp2
                  refine drawn_tree (fun W' => W'.cell? ⟨b, off + k * 2, none⟩ = some (.int .i64 ts[k].h) ∧ W'.cell? ⟨b, off + k * 2 + 1, none⟩ = some (.slice a4 ts[k].args.length c4) ∧ W'.cell? ⟨b, off + j * 2, none⟩ = some (.int .i64 ts[j].h) ∧ W'.cell? ⟨b, off + j * 2 + 1, none⟩ = some (.slice a' ts[j].args.length c')) (.take 0 (.take 1 (.take 2 (.take 3 (.take 4 (.take 5 (.take 6 (.take 7 (.take 8 (.take 9 (.take 10 (.take 11 (.take 12 (.one 13 (.take 14 (.take 15 .done)))))))))))))))) (by kernel_rfl) (by kernel_rfl) (by kernel_rfl) (by kernel_rfl) (fun _ _ _ _ _ h => h) (HSG.out _ (Below.refl _ _).drew) ?_
                  have HWH := hide (more_below HWG.out (Below.refl wg.heap.size wg).drew)
                  have HSH := hide (HSG.out _ (Below.refl wg.heap.size wg).drew)
                  clear HSG HWG
                  generalize wg.drew = wh at *
                  iterate 2 (refine t_take (v := ?_) rfl (by rfl) ?_ ?_; rotate_left; (intro w hS; obtain ⟨hS1, hS2, hS3, hS4⟩ := hS; go_simp; try with_reducible rfl); simp only [Act.put, List.setIfInBounds_toArray, List.set_cons_zero, List.set_cons_succ])
                  iterate 11 (refine t_skip rfl (by rfl) ?_; simp only [Act.put, List.setIfInBounds_toArray, List.set_cons_zero, List.set_cons_succ])
                  refine t_one_skip rfl (by rfl) HSH.out ?_
                  simp only [Act.put, List.setIfInBounds_toArray, List.set_cons_zero, List.set_cons_succ]
                  iterate 1 (refine t_skip rfl (by rfl) ?_; simp only [Act.put, List.setIfInBounds_toArray, List.set_cons_zero, List.set_cons_succ])
                  iterate 1 (refine t_take (v := ?_) rfl (by rfl) ?_ ?_; rotate_left; (intro w hS; obtain ⟨hS1, hS2, hS3, hS4⟩ := hS; go_simp; try with_reducible rfl); simp only [Act.put, List.setIfInBounds_toArray, List.set_cons_zero, List.set_cons_succ])
                  refine t_done ?_
                  go_wp2
                  go_roundw
                  case rel => exact ⟨k + 1, by go_num, by omega, HWH⟩
                  case measure => simp [intOf]; omega
                | some m =>
                  simp only [numV, Option.getD_some, Option.isSome_some]
                  have HSE := hide (HSM.out m hf)
                  clear hf HSM
                  go_wp2
                  refine drawn_tree (fun W' => W'.cell? ⟨b, off + k * 2, none⟩ = some (.int .i64 ts[k].h) ∧ W'.cell? ⟨b, off + k * 2 + 1, none⟩ = some (.slice a4 ts[k].args.length c4) ∧ W'.cell? ⟨b, off + j * 2, none⟩ = some (.int .i64 ts[j].h) ∧ W'.cell? ⟨b, off + j * 2 + 1, none⟩ = some (.slice a' ts[j].args.length c')) (.take 0 (.take 1 (.take 2 (.take 3 (.take 4 (.take 5 (.take 6 (.take 7 (.take 8 (.take 9 (.take 10 (.take 11 (.take 12 (.one 13 (.take 14 (.take 15 .done)))))))))))))))) (by kernel_rfl) (by kernel_rfl) (by kernel_rfl) (by kernel_rfl) (fun _ _ _ _ _ h => h) (HSG.out _ (Below.refl _ _).drew) ?_
                  have gd := (Below.refl wg.heap.size wg).drew
                  have HWH := hide (more_below HWG.out gd)
                  have HBH := hide (more_below HBG.out gd)
                  have HGH := hide (HGT2.out.below gd)
                  have HSH := hide (show ∀ W', Below wg.drew.heap.size wg.drew W' → _ from fun W' hW => HSG.out W' (gd.trans hW))
                  clear HSG HWG HBG HGT2 gd
                  generalize wg.drew = wh at *
                  iterate 13 (refine t_take (v := ?_) rfl (by rfl) ?_ ?_; rotate_left; (intro w hS; obtain ⟨hS1, hS2, hS3, hS4⟩ := hS; go_simp; try with_reducible rfl); simp only [Act.put, List.setIfInBounds_toArray, List.set_cons_zero, List.set_cons_succ])
                  refine t_one rfl (by rfl) ?_
                  intro K hK
                  go_simp
                  obtain ⟨-, gj⟩ := HC.out _ HBH.out
                  refine (tsame_calls ts[k] ts[j] _ _ _ _ _ _ wh (by omega) HGH.out ⟨rfl, gj⟩).mono ?_
                  rintro e wi ⟨rfl, bi⟩
                  have HWI := hide (more_below HWH.out bi)
                  have HSA := hide (HSH.out _ bi)
                  refine hK.out _ _ HSA.out ?_
                  clear hK K bi HSH HWH HBH HGH gj
                  have hse := HSE.out
                  generalize sameB ts[k] ts[j] = y at *
                  by_cases hmn : m = n
                  · subst hmn
                    simp at hse
                    subst hse
                    iterate 2 (refine t_take (v := ?_) rfl (by rfl) ?_ ?_; rotate_left; (intro w hS; obtain ⟨hS1, hS2, hS3, hS4⟩ := hS; go_simp; try with_reducible rfl); simp only [Act.put, List.setIfInBounds_toArray, List.set_cons_zero, List.set_cons_succ])
                    refine t_done ?_
                    go_wp2
                    go_roundw
                    case rel => exact ⟨k + 1, by go_num, by omega, HWI⟩
                    case measure => simp [intOf]; omega
                  · have hyf : y = false := by
                      cases y
                      · rfl
                      · simp at hse; omega
                    subst hyf
                    have hmf : decide (m = n) = false := by simp [hmn]
                    iterate 2 (refine t_take (v := ?_) rfl (by rfl) ?_ ?_; rotate_left; (intro w hS; obtain ⟨hS1, hS2, hS3, hS4⟩ := hS; go_simp; try with_reducible rfl); simp only [Act.put, List.setIfInBounds_toArray, List.set_cons_zero, List.set_cons_succ])
                    refine t_done ?_
                    go_wp2
                    go_roundw
                    case rel => exact ⟨k + 1, by go_num, by omega, HWI⟩
                    case measure => simp [intOf]; omega
              · go_wp2
                go_roundw
                case rel => exact ⟨j + 1, R', rv5, f5, by go_num, by omega, HRL3, HX8, HZ3, HB8⟩
                case measure => simp [intOf]; omega
    · obtain rfl : j = ts.length := by omega
      go_wp2_with fail
      refine (awake6_calls w.heap.size wr (HT.out.on HB.out) HB.out.size).mono ?_
      rintro e w3 ⟨rfl, b3⟩
      have HB3 := hide (more_below HB.out b3)
      go_wp2
      go_ret
      exact ⟨rfl, HB3.out⟩
end Go.Proofs.YtefmgooceeigbaaDoor
