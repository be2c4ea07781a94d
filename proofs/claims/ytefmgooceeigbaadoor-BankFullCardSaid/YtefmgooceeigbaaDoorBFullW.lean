/- BankFull, walked. -/
import Derived.Test.YtefmgooceeigbaaDoorBank8
import Derived.Test.YtefmgooceeigbaaDoorBankF
import Derived.Test.YtefmgooceeigbaaDoorAwake6
set_option linter.unusedSimpArgs false
set_option linter.unusedVariables false
namespace Go.Proofs.YtefmgooceeigbaaDoor
open Go.RowKit

theorem two_fit {w : World} {r : Nat} {x y : Value} {t : TypeId} (h : w.heap[r]? = some (.cells #[x, y] t (0, 0))) : r < w.heap.size := (Array.getElem?_eq_some_iff.1 h).1
set_option maxHeartbeats 4000000 in
set_option maxRecDepth 100000 in
theorem wide_calls (v : Nat) (hv : v ≤ 1000000) (B : Nat → Prop) (w : World) (hB : ∀ b, B b → b < w.heap.size) :
    Calls Tryd.prog 8 #[.int .i64 7, .int .i64 v] w (GivesB B w (wide v)) := by
  have h0 : Below w.heap.size w (w.alloc (.cells #[.int .i64 0, .slice none 0 0] 26)) := (Below.refl _ _).alloc (Nat.le_refl _) _
  have k0 := World.alloc_heap_new w (.cells #[.int .i64 0, .slice none 0 0] 26)
  have HBB := hide hB
  have HV := hide hv
  clear hB
  go_enter Tryd.func8, Tryd.ntmps8
  go_wp2_with fail
  refine (var_calls ((v : Int) % 250) (by omega) (by omega) _).mono ?_
  rintro e w1 ⟨rfl, b1⟩
  have HB1 := hide (more_below h0 b1)
  have k1 := (b1.block _ (Array.getElem?_eq_some_iff.1 k0).1).trans k0
  clear h0 k0 b1
  go_wp2_with fail
  refine (var_calls ((v : Int) / 250 % 250) (by omega) (by omega) _).mono ?_
  rintro e w2 ⟨rfl, b2⟩
  have HB2 := hide (more_below HB1.out b2)
  have k2 := (b2.block _ (Array.getElem?_eq_some_iff.1 k1).1).trans k1
  clear k1 b2 HB1
  have hb3 : Below w2.heap.size w2 (w2.alloc (.cells #[.int .i64 (-1 - (v : Int) % 250), .slice none 0 0, .int .i64 (-1 - (v : Int) / 250 % 250), .slice none 0 0] 26)) := (Below.refl _ _).alloc (Nat.le_refl _) _
  have HB3 := hide (more_below HB2.out hb3)
  obtain ⟨hlt1, z0, z1, z2, z3⟩ := box2 k2
  have k3 := (hb3.block _ (Array.getElem?_eq_some_iff.1 k2).1).trans k2
  have m3 := World.alloc_heap_new w2 (.cells #[.int .i64 (-1 - (v : Int) % 250), .slice none 0 0, .int .i64 (-1 - (v : Int) / 250 % 250), .slice none 0 0] 26)
  have hT := terms2 (A := fun b => B b ∨ b = w.heap.size) (t1 := tvar (v % 250)) (t2 := tvar (v / 250 % 250)) m3 (fun h => by
    have := HB2.out.size
    rcases h with h | h
    · have := HBB.out _ h; omega
    · omega) (Terms.nil _ _) (Terms.nil _ _)
  obtain ⟨y9, y0, y1, y2, y3⟩ := box2 k3
  have hcm : ((w2.alloc (.cells #[.int .i64 (-1 - (v : Int) % 250), .slice none 0 0, .int .i64 (-1 - (v : Int) / 250 % 250), .slice none 0 0] 26)).setCell ⟨w.heap.size, 0, none⟩ (.int .i64 7)).setCell ⟨w.heap.size, 1, none⟩ (.slice (some ⟨w2.heap.size, 0, none⟩) 2 2) = ((w2.setCell ⟨w.heap.size, 0, none⟩ (.int .i64 7)).setCell ⟨w.heap.size, 1, none⟩ (.slice (some ⟨w2.heap.size, 0, none⟩) 2 2)).alloc (.cells #[.int .i64 (-1 - (v : Int) % 250), .slice none 0 0, .int .i64 (-1 - (v : Int) / 250 % 250), .slice none 0 0] 26) := by go_simp
  obtain ⟨-, r0, r1, -, -⟩ := box2 (box2_set k3 (.int .i64 7) (.slice (some ⟨w2.heap.size, 0, none⟩) 2 2))
  have HBE := hide (set2_below (b := w.heap.size) HB3.out (Nat.le_refl _) (.int .i64 7) (.slice (some ⟨w2.heap.size, 0, none⟩) 2 2))
  have HTE := hide (hT.keep (S := fun b => b ≠ w.heap.size) (((Keep.refl _ _).setCell (p := ⟨w.heap.size, 0, none⟩) (by simp) (.int .i64 7)).setCell (p := ⟨w.heap.size, 1, none⟩) (by simp) (.slice (some ⟨w2.heap.size, 0, none⟩) 2 2)) (fun b _ hb' e => hb' (.inr e)))
  rw [hcm] at r0 r1
  have HCM := hide hcm
  clear hb3 k2 k3 m3 hT hcm
  go_wp2
  exact bodyPost_ret (v := .agg #[.int .i64 7, .slice (some ⟨w2.heap.size, 0, none⟩) 2 2]) (by simp [results, Tryd.results8, go_sem, r0, r1]) rfl ⟨_, rfl, HCM.out ▸ HTE.out.bar (fun _ _ h => .inl h), HCM.out ▸ HBE.out⟩

/-! ### The law -/
theorem wide_chk (i : Nat) (hi : i < 6000) : chk (wide i) = 0 := by
  have h1 : (wide i).size = 3 := rfl
  have h2 : (wide i).depth = 2 := rfl
  have h3 : (wide i).good = true := by
    simp [wide, tvar, Tm.good, Tm.goods, okP, Tm.h, Tm.args]
    exact ⟨⟨decide_eq_false (by omega), decide_eq_false (by omega)⟩, decide_eq_false (by omega), decide_eq_false (by omega)⟩
  unfold chk
  rw [h1, h2, h3]; rfl
theorem leaf_chk (n : Nat) (hn : n ≤ 900) : chk (.node ((n : Int) + 100) []) = 0 := by
  have h3 : (Tm.node ((n : Int) + 100) []).good = true := by
    simp [Tm.good, Tm.goods, okP, Tm.h, Tm.args]
    exact ⟨decide_eq_false (by omega), decide_eq_false (by omega)⟩
  unfold chk
  rw [h3]; rfl
theorem wide_put {R : List Rw} {i : Nat} (h : WideInv R i) (hl : R.length < 4096) (hi : i < 6000) : ∃ R' n, putB R (wide i) = (R', n, 0) ∧ WideInv R' (i + 1) ∧ R'.length ≤ 4096 ∧ Kept R R' 3 := by
  obtain ⟨R', n, h1, h2, h3⟩ := h.step hl (by omega)
  have hk := (putT_kept (wide i) R h.good).1
  rw [h1] at hk
  exact ⟨R', _, by rw [putB, if_pos (wide_chk i hi), h1]; rfl, h2, h3, hk⟩
theorem wide_full {R : List Rw} {i : Nat} (h : WideInv R i) (hl : 4096 ≤ R.length) (hi : i < 62500) (n : Nat) (hn : n ≤ 900) : putB R (.node ((n : Int) + 100) []) = (R, 0, 9) ∧ ∃ m : Nat, IsAt R (wide n) m ∧ putB R (wide n) = (R, (m : Int), 0) := by
  obtain ⟨h1, m, h2, h3⟩ := h.full hl hi n hn
  refine ⟨by rw [putB, if_pos (leaf_chk n hn), h1]; rfl, m, h2, by rw [putB, if_pos (wide_chk n (by omega)), h3]; rfl⟩
set_option maxHeartbeats 8000000 in
set_option maxRecDepth 100000 in
theorem bfull_calls (n : Int) (w : World) (ht : tabB w.heap.size w) : Calls Tryd.prog 3 #[.int .i64 n] w fun e w' => e = .returned (.bool true) ∧ Below w.heap.size w w' := by
  have HT := hide ht
  clear ht
  by_cases h0 : n < 0
  · go_enter Tryd.func3, Tryd.ntmps3
    go_wp2
    go_ret
    exact ⟨rfl, Below.refl _ _⟩
  by_cases h1 : 900 < n
  · go_enter Tryd.func3, Tryd.ntmps3
    go_wp2
    go_ret
    exact ⟨rfl, Below.refl _ _⟩
  obtain ⟨n, rfl⟩ : ∃ m : Nat, n = m := ⟨n.toNat, by omega⟩
  have hn9 : n ≤ 900 := by omega
  go_enter Tryd.func3, Tryd.ntmps3
  go_wp2_with fail
  refine (new_calls (fun _ => False) w (fun _ h => h.elim)).mono ?_
  rintro e w1 ⟨xb, mb, rfl, hx1, b1⟩
  have HX1 := hide hx1
  have HB1 := hide b1
  clear hx1 b1
  go_wp2
  go_loopw [5] (fun i wr => ∃ (j : Nat) (R : List Rw) (rv : Value) (f : Value → Option Value), i = .int .i64 j ∧ j ≤ 6000 ∧ R.length ≤ 4096 ∧ Hid (BankAt wr (fun _ => False) xb mb R rv f w.heap.size) ∧ Hid (WideInv R j) ∧ Hid (Sized R 3) ∧ Hid (Below w.heap.size w wr)) (fun i _ => 6000 - (intOf i).toNat)
  case atStart => exact ⟨0, [], _, _, rfl, by omega, by simp, HX1, hide .nil, hide (.nil 3), HB1⟩
  case round =>
    obtain ⟨j, R, rv, f, rfl, hj, hR, HX, HW, HZ, HB⟩ := hrel
    have hlo := HW.out.lo
    by_cases hfull : R.length < 4096
    · have hj6 : j < 6000 := by omega
      obtain ⟨R', m, hput, hw', hl', hk'⟩ := wide_put HW.out hfull hj6
      have HPUT := hide hput
      have HW' := hide hw'
      have HZ' := hide (HZ.out.kept hk' (Nat.le_refl _))
      clear hput hw' hk'
      go_wp2_with fail
      refine (bsize_calls wr HX.out).mono ?_
      rintro e w2 ⟨rfl, rfl⟩
      go_wp2_with fail
      refine (wide_calls j (by omega) (BZ xb mb rv) wr (fun b hb => (HX.out.lt b hb).2)).mono ?_
      rintro e w3 ⟨s, rfl, hT, b3⟩
      have HX3 := hide (HX.out.below b3)
      have HB3 := hide (more_below HB.out b3)
      have HT3 := hide hT
      clear hT b3 HX HB
      go_wp2_with fail
      refine (bPut_calls xb mb _ _ (wide j) R rv f 7 s w3 (by show 3 ≤ _; omega) (HT.out.on HB3.out) HX3.out ⟨rfl, HT3.out⟩).mono ?_
      rintro e w4 ⟨he, rv4, f4, hx4, mv4⟩
      rw [HPUT.out] at he hx4
      simp only at he hx4
      subst he
      have HB4 := hide (HB3.out.trans (mv4.under (fun b hz => (HX3.out.lt b hz).1) HB3.out.size))
      have HX4 := hide hx4
      clear hx4 mv4 HX3 HB3 HT3 HPUT
      go_wp2
      go_roundw
      case rel => exact ⟨j + 1, R', rv4, f4, by go_num, by omega, hl', HX4, HW', HZ', HB4⟩
      case measure => simp [intOf]; omega
    · have hR4 : R.length = 4096 := by omega
      obtain ⟨hp1, m, hat, hp2⟩ := wide_full HW.out (by omega) (by omega) n hn9
      have HP1 := hide hp1
      have HP2 := hide hp2
      have HAT := hide hat
      have hj6 : j < 6000 := by have := HW.out.lo; omega
      clear hp1 hp2 hat
      go_wp2_with fail
      refine (bsize_calls wr HX.out).mono ?_
      rintro e w2 ⟨rfl, rfl⟩
      go_wp2_with fail
      refine (fun_calls ((n : Int) + 100) none 0 0 wr).mono ?_
      rintro e w3 ⟨rfl, b3⟩
      have HX3 := hide (HX.out.below b3)
      have HB3 := hide (more_below HB.out b3)
      clear b3 HX HB
      go_wp2_with fail
      refine (bPut_calls xb mb _ _ (.node ((n : Int) + 100) []) R rv f _ _ w3 (by show 1 ≤ _; omega) (HT.out.on HB3.out) HX3.out ⟨rfl, Terms.nil _ _⟩).mono ?_
      rintro e w4 ⟨he, rv4, f4, hx4, mv4⟩
      rw [HP1.out] at he hx4
      simp only at he hx4
      subst he
      have HB4 := hide (HB3.out.trans (mv4.under (fun b hz => (HX3.out.lt b hz).1) HB3.out.size))
      have HX4 := hide hx4
      clear hx4 mv4 HX3 HB3 HP1
      go_wp2_with fail
      refine (wide_calls n (by omega) (BZ xb mb rv4) w4 (fun b hb => (HX4.out.lt b hb).2)).mono ?_
      rintro e w5 ⟨s5, rfl, hT5, b5⟩
      have HX5 := hide (HX4.out.below b5)
      have HB5 := hide (more_below HB4.out b5)
      have HT5 := hide hT5
      clear hT5 b5 HX4 HB4
      go_wp2_with fail
      refine (bPut_calls xb mb _ _ (wide n) R rv4 f4 7 s5 w5 (by show 3 ≤ _; omega) (HT.out.on HB5.out) HX5.out ⟨rfl, HT5.out⟩).mono ?_
      rintro e w6 ⟨he, rv6, f6, hx6, mv6⟩
      rw [HP2.out] at he hx6
      simp only at he hx6
      subst he
      have HB6 := hide (HB5.out.trans (mv6.under (fun b hz => (HX5.out.lt b hz).1) HB5.out.size))
      have HX6 := hide hx6
      clear hx6 mv6 HX5 HB5 HT5 HP2
      go_wp2_with fail
      refine (bterm_calls xb mb _ 3 (fun _ => False) _ R rv6 f6 m w6 (by omega) (fun _ h => h.elim) HX6.out HZ.out).mono ?_
      rintro e w7 ⟨th, ts, tc, rfl, b7, hr⟩
      have hr' : th = 7 ∧ Terms (fun _ => False) w7 ts (wide n).args ∧ tc = 0 := by
        rcases hr with ⟨i, t, hi, h2, h3, h4, h5⟩ | ⟨h2, -⟩
        · obtain rfl : m = i := by omega
          obtain rfl := IsAt.one _ _ _ h2 HAT.out
          exact ⟨h3, h4, h5⟩
        · have := HAT.out.lt; omega
      obtain ⟨rfl, hT7, rfl⟩ := hr'
      clear hr
      obtain ⟨ta, tc, rfl, -, -⟩ := hT7.shape
      have hb8 : Below w7.heap.size w7 (w7.alloc (.cells #[.int .i64 7, .slice ta (wide n).args.length tc] 26)) := (Below.refl _ _).alloc (Nat.le_refl _) _
      have k8 := World.alloc_heap_new w7 (.cells #[.int .i64 7, .slice ta (wide n).args.length tc] 26)
      have HX8 := hide ((HX6.out.below b7).below hb8)
      have HB8 := hide (more_below (more_below HB6.out b7) hb8)
      have HT8 := hide (hT7.below hb8)
      clear hb8 HX6 HB6 b7 hT7
      go_wp2
      generalize w7.alloc (.cells #[.int .i64 7, .slice ta (wide n).args.length tc] 26) = w8 at *
      generalize w7.heap.size = tb at *
      refine drawn_tree (fun W' => W'.cell? ⟨tb, 0, none⟩ = some (.int .i64 7) ∧ W'.cell? ⟨tb, 1, none⟩ = some (.slice ta (wide n).args.length tc)) (.one 0 (.take 1 (.take 2 (.one 3 (.take 4 (.take 5 (.take 6 (.take 7 (.take 8 (.take 9 (.take 10 (.take 11 (.take 12 (.take 13 (.take 14 (.take 15 (.take 16 (.take 17 (.take 18 (.take 19 (.take 20 (.take 21 (.one 22 (.one 23 (.take 24 (.take 25 .done)))))))))))))))))))))))))) (by kernel_rfl) (by kernel_rfl) (by kernel_rfl) (by kernel_rfl) (fun _ _ _ _ _ h => h) ?_ ?_
      · obtain ⟨-, z0, z1, -, -⟩ := box2 k8
        exact ⟨z0, z1⟩
      have g0 := (Below.refl w8.heap.size w8).drew
      have HX9 := hide (HX8.out.below g0)
      have HB9 := hide (more_below HB8.out g0)
      have HT9 := hide (HT8.out.below g0)
      have k9 := (g0.block _ (Array.getElem?_eq_some_iff.1 k8).1).trans k8
      clear g0 HX8 HB8 HT8 k8
      generalize w8.drew = w9 at *
      refine t_one rfl (by rfl) ?_
      intro K hK
      go_simp
      refine (awake6_calls w.heap.size w9 (HT.out.on HB9.out) HB9.out.size).mono ?_
      rintro e wa ⟨rfl, ba⟩
      have HXA := hide (HX9.out.below (ba.mono (Nat.le_refl _)))
      have HBA := hide (more_below HB9.out ba)
      have HTA := hide (HT9.out.below ba)
      have ka := (ba.block _ (Array.getElem?_eq_some_iff.1 k9).1).trans k9
      have hSA : wa.cell? ⟨tb, 0, none⟩ = some (.int .i64 7) ∧ wa.cell? ⟨tb, 1, none⟩ = some (.slice ta (wide n).args.length tc) := by
        obtain ⟨-, z0, z1, -, -⟩ := box2 ka
        exact ⟨z0, z1⟩
      refine hK.out _ _ hSA ?_
      clear hK K ba HX9 HB9 HT9 k9
      iterate 2 (refine t_take (v := ?_) rfl (by rfl) ?_ ?_; rotate_left; (intro w hS; obtain ⟨hS1, hS2⟩ := hS; go_simp; try with_reducible rfl); simp only [Act.put, List.setIfInBounds_toArray, List.set_cons_zero, List.set_cons_succ])
      refine t_one rfl (by rfl) ?_
      intro K hK
      go_simp
      refine (bsize_calls wa HXA.out).mono ?_
      rintro e wb ⟨rfl, rfl⟩
      refine hK.out _ _ hSA ?_
      clear hK K
      rw [hR4]
      iterate 18 (refine t_take (v := ?_) rfl (by rfl) ?_ ?_; rotate_left; (intro w hS; obtain ⟨hS1, hS2⟩ := hS; go_simp; try with_reducible rfl); simp only [Act.put, List.setIfInBounds_toArray, List.set_cons_zero, List.set_cons_succ])
      refine t_one rfl (by rfl) ?_
      intro K hK
      go_simp
      refine (wide_calls n (by omega) (fun _ => False) wa (fun _ h => h.elim)).mono ?_
      rintro e wc ⟨sc, rfl, hTC, bc⟩
      have HBC := hide (more_below HBA.out bc)
      have HTC := hide hTC
      have HTT := hide (HTA.out.below bc)
      have kc := (bc.block _ (Array.getElem?_eq_some_iff.1 ka).1).trans ka
      have hSC : wc.cell? ⟨tb, 0, none⟩ = some (.int .i64 7) ∧ wc.cell? ⟨tb, 1, none⟩ = some (.slice ta (wide n).args.length tc) := by
        obtain ⟨-, z0, z1, -, -⟩ := box2 kc
        exact ⟨z0, z1⟩
      refine hK.out _ _ hSC ?_
      clear hK K bc HBA HTA ka hTC HXA
      refine t_one rfl (by rfl) ?_
      intro K hK
      go_simp
      refine (same_calls (wide n) (wide n) _ _ 7 7 _ _ wc (by show 3 ≤ _; omega) (by show 3 ≤ _; omega) ⟨rfl, HTT.out⟩ ⟨rfl, HTC.out⟩).mono ?_
      rintro e wd ⟨rfl, bd⟩
      have HBD := hide (more_below HBC.out bd)
      rw [sameB_self]
      have kd := (bd.block _ (Array.getElem?_eq_some_iff.1 kc).1).trans kc
      have hSD : wd.cell? ⟨tb, 0, none⟩ = some (.int .i64 7) ∧ wd.cell? ⟨tb, 1, none⟩ = some (.slice ta (wide n).args.length tc) := by
        obtain ⟨-, z0, z1, -, -⟩ := box2 kd
        exact ⟨z0, z1⟩
      refine hK.out _ _ hSD ?_
      clear hK K bd HBC kc
      iterate 2 (refine t_take (v := ?_) rfl (by rfl) ?_ ?_; rotate_left; (intro w hS; obtain ⟨hS1, hS2⟩ := hS; go_simp; try with_reducible rfl); simp only [Act.put, List.setIfInBounds_toArray, List.set_cons_zero, List.set_cons_succ])
      refine t_done ?_
      go_wp2
      go_ret
      exact ⟨rfl, HBD.out⟩
end Go.Proofs.YtefmgooceeigbaaDoor
