/- What the proof of the law rests on: contracts of the functions, plain laws, and words. -/
import Derived.Deep.LoopGhost
import Derived.WalkSmall
import Derived.Test.YthplndalbfcbbaaKFeatureDoesL0
import Derived.Test.YthplndalbfcbbaaKFeatureDoesG4
import Derived.Test.YthplndalbfcbbaaKFeatureDoesG1
import Derived.Test.YthplndalbfcbbaaKFeatureDoesG2
import Derived.Test.YthplndalbfcbbaaKFeatureDoesG6
import Derived.Test.YthplndalbfcbbaaKFeatureDoesG3
import Derived.Test.YthplndalbfcbbaaKFeatureDoesG9
namespace Go.Proofs.Ythplndalbfcbbaa.PA
open Go.RowKit Go.Proofs.YthplndalbfcbbaaW.PrintWords Go.Proofs.YthplndalbfcbbaaW.PrintLast Go.Proofs.YthplndalbfcbbaaW.PrintMore
attribute [local go_sem] max2_int min2_int max_two min_two max_three min_three max_four min_four   -- for this text's walks alone
set_option linter.unusedVariables false
set_option linter.unusedSimpArgs false
def elenchusref07_Term.f (k : Nat) (l0 : List (S148)) (a1_0 : Int) (l1_1 : List (S25)) : Option (Int) := (elenchusref07_Right.f k l0).bind fun t650 => (if t650 = true then ((elenchusref01_Check.f k a1_0 l1_1).bind fun t651 => (if t651 = 0 then ((elenchusref07_known.f k l0 a1_0 l1_1).bind fun t652 => (if t652 = true then ((elenchusref07_things.f k l0 a1_0 l1_1).bind fun t653 => (if t653 = true then (some 0) else (some 10))) else (some 1))) else (some t651))) else (some 1))
set_option maxHeartbeats 8000000 in
set_option maxRecDepth 100000 in
theorem elenchusref07_Term.calls (k : Nat) (A0 : Option Addr) (c0 : Nat) (l0 : List (S148)) (a1_0 : Int) (A1_1 : Option Addr) (c1_1 : Nat) (l1_1 : List (S25)) (r : Int) (w : World) (hr0 : Kd.C k148 w A0 l0.length l0) (hc0 : l0.length ≤ c0) (hr1_1 : Kd.C k25 w A1_1 l1_1.length l1_1) (hc1_1 : l1_1.length ≤ c1_1) (h : elenchusref07_Term.f k l0 a1_0 l1_1 = some r) :
    Calls Try.prog 189 #[.slice A0 l0.length c0, .agg #[.int .i64 a1_0, .slice A1_1 l1_1.length c1_1]] w fun e w' => e = .returned (.int .i64 r) ∧ Below w.heap.size w w' := by
  have hu25 := Try.underlying25
  have HR0 := Aside0.mk hr0
  have HC0 := Aside0.mk hc0
  clear hr0 hc0
  have HR1_1 := Aside0.mk hr1_1
  have HC1_1 := Aside0.mk hc1_1
  clear hr1_1 hc1_1
  have HB := Aside0.mk (Below.refl w.heap.size w)
  have H : ((elenchusref07_Right.f k l0).bind fun t650 => (if t650 = true then ((elenchusref01_Check.f k a1_0 l1_1).bind fun t651 => (if t651 = 0 then ((elenchusref07_known.f k l0 a1_0 l1_1).bind fun t652 => (if t652 = true then ((elenchusref07_things.f k l0 a1_0 l1_1).bind fun t653 => (if t653 = true then (some 0) else (some 10))) else (some 1))) else (some t651))) else (some 1))) = some r := h
  clear h
  replace H := Option.bind_eq_some_iff.mp H
  obtain ⟨t650, A30, H⟩ := H
  replace H : (if t650 = true then ((elenchusref01_Check.f k a1_0 l1_1).bind fun t651 => (if t651 = 0 then ((elenchusref07_known.f k l0 a1_0 l1_1).bind fun t652 => (if t652 = true then ((elenchusref07_things.f k l0 a1_0 l1_1).bind fun t653 => (if t653 = true then (some 0) else (some 10))) else (some 1))) else (some t651))) else (some 1)) = some r := H
  have A3 := Aside0.mk A30
  clear A30
  by_cases c4 : t650 = true
  · subst c4
    have H1 : ((elenchusref01_Check.f k a1_0 l1_1).bind fun t651 => (if t651 = 0 then ((elenchusref07_known.f k l0 a1_0 l1_1).bind fun t652 => (if t652 = true then ((elenchusref07_things.f k l0 a1_0 l1_1).bind fun t653 => (if t653 = true then (some 0) else (some 10))) else (some 1))) else (some t651))) = some r := by rw [if_pos rfl] at H; exact H
    clear H
    have H := H1
    clear H1
    replace H := Option.bind_eq_some_iff.mp H
    obtain ⟨t651, A50, H⟩ := H
    replace H : (if t651 = 0 then ((elenchusref07_known.f k l0 a1_0 l1_1).bind fun t652 => (if t652 = true then ((elenchusref07_things.f k l0 a1_0 l1_1).bind fun t653 => (if t653 = true then (some 0) else (some 10))) else (some 1))) else (some t651)) = some r := H
    have A5 := Aside0.mk A50
    clear A50
    by_cases c6 : t651 = 0
    · rw [if_pos c6] at H
      have c6b0 : (t651 == 0) = true := beq_iff_eq.mpr c6
      have c6b1 : (t651 != 0) = false := bne_eq_false_iff_eq.mpr c6
      clear c6
      replace H := Option.bind_eq_some_iff.mp H
      obtain ⟨t652, A70, H⟩ := H
      replace H : (if t652 = true then ((elenchusref07_things.f k l0 a1_0 l1_1).bind fun t653 => (if t653 = true then (some 0) else (some 10))) else (some 1)) = some r := H
      have A7 := Aside0.mk A70
      clear A70
      by_cases c8 : t652 = true
      · subst c8
        have H1 : ((elenchusref07_things.f k l0 a1_0 l1_1).bind fun t653 => (if t653 = true then (some 0) else (some 10))) = some r := by rw [if_pos rfl] at H; exact H
        clear H
        have H := H1
        clear H1
        replace H := Option.bind_eq_some_iff.mp H
        obtain ⟨t653, A90, H⟩ := H
        replace H : (if t653 = true then (some 0) else (some 10)) = some r := H
        have A9 := Aside0.mk A90
        clear A90
        by_cases c10 : t653 = true
        · subst c10
          have H1 : (some 0) = some r := by rw [if_pos rfl] at H; exact H
          clear H
          have H := H1
          clear H1
          obtain rfl := Option.some.inj H
          go_enter Try.func189, Try.ntmps189
          go_wp2_with (first | ((with_reducible refine gate_dst (N := 3) rfl ?_); refine box_event ?hg (N := 3) ?hd (cs := #[.int .i64 a1_0, .slice A1_1 l1_1.length c1_1]) (t := 25) ?hr ?_; (case hd => rfl); (case hg => rfl); (case hr => first | (go_simp; done) | (go_simp; rfl)); intro gb649 hg w11 hbox hb; have n0_ := Aside0.mk (below_step (by repeat (first | (with_reducible first | exact HB.out | apply below_alloc | apply pw_below_drewN | apply below_drew1) | exact HB.out)) hb); have n1_ := Aside0.mk (hbox); have n2_ := Aside0.mk ((by rw [hg]; exact (below_size (by repeat (first | (with_reducible first | exact HB.out | apply below_alloc | apply pw_below_drewN | apply below_drew1) | exact HB.out))) : w.heap.size ≤ gb649)); have n3_ := Aside0.mk ((by rw [hg]; exact (below_size (by repeat (first | (with_reducible first | exact HB.out | apply below_alloc | apply pw_below_drewN | apply below_drew1) | exact HB.out))) : w.heap.size ≤ gb649)); clear HB; have HB := n0_; have BK649 := n1_; have GW649 := n2_; have GE649 := n3_; clear n0_ n1_ n2_ n3_; clear hb hbox hg) | ((with_reducible refine gate_callee (f := 159) rfl ?_); refine goesL_ (some 7) rfl rfl Try.func159 (by kernel_rfl) rfl #[.slice A0 l0.length c0] rfl (by (try simp only [List.map_toArray, List.map_cons, List.map_nil]); first | done | rfl | (simp only [List.length_drop, List.length_take]; rfl)) ?_; (with_reducible refine (elenchusref07_Right.calls k _ _ l0 true _ ?side1 ?side2 A3.out).mono ?_); (case side1 => repeat (first | exact (Kd.C_below HR0.out HB.out) | (with_reducible refine Kd.C_alloc ?_ _) | (with_reducible refine Kd.C_drewN ?_ _) | (with_reducible refine Kd.C_drew ?_))); (case side2 => exact HC0.out); rintro e w12 ⟨rfl, hb⟩; refine ⟨_, rfl, ?_⟩; have n0_ := Aside0.mk (blk_below (g := gb649) (o := .cells #[.int .i64 a1_0, .slice A1_1 l1_1.length c1_1] 25 (0, 0)) (by (with_reducible repeat (first | refine blk_drewN ?_ _ | refine blk_drew ?_ | refine blk_alloc ?_ _)); exact BK649.out) hb); have n1_ := Aside0.mk (below_step (by repeat (first | (with_reducible first | exact HB.out | apply below_alloc | apply pw_below_drewN | apply below_drew1 | refine below_set ?_ GE649.out) | exact HB.out)) hb); clear BK649; clear HB; have BK649 := n0_; have HB := n1_; clear n0_ n1_; (try clear hb); (try clear hb2); (try clear hk); (try clear hi); have hcz13_0 : w12.cell? ⟨gb649, 0, none⟩ = some (.int .i64 a1_0) := (blk_cell BK649.out 0).trans rfl; have hcz13_1 : w12.cell? ⟨gb649, 1, none⟩ = some (.slice A1_1 l1_1.length c1_1) := (blk_cell BK649.out 1).trans rfl; have hfz13_0 := blk_frozen BK649.out 0; have hfz13_1 := blk_frozen BK649.out 1) | ((with_reducible refine gate_callee (f := 107) rfl ?_); refine goesL_ (some 10) rfl rfl Try.func107 (by kernel_rfl) rfl #[.agg #[.int .i64 a1_0, .slice A1_1 l1_1.length c1_1]] rfl (by (try simp only [List.map_toArray, List.map_cons, List.map_nil]); first | done | rfl | (simp only [List.length_drop, List.length_take]; rfl)) ?_; (with_reducible refine (elenchusref01_Check.calls k a1_0 _ _ l1_1 t651 _ ?side1 ?side2 A5.out).mono ?_); (case side1 => repeat (first | exact (Kd.C_below HR1_1.out HB.out) | (with_reducible refine Kd.C_alloc ?_ _) | (with_reducible refine Kd.C_drewN ?_ _) | (with_reducible refine Kd.C_drew ?_))); (case side2 => exact HC1_1.out); rintro e w14 ⟨rfl, hb⟩; refine ⟨_, rfl, ?_⟩; have n0_ := Aside0.mk (blk_below (g := gb649) (o := .cells #[.int .i64 a1_0, .slice A1_1 l1_1.length c1_1] 25 (0, 0)) (by (with_reducible repeat (first | refine blk_drewN ?_ _ | refine blk_drew ?_ | refine blk_alloc ?_ _)); exact BK649.out) hb); have n1_ := Aside0.mk (below_step (by repeat (first | (with_reducible first | exact HB.out | apply below_alloc | apply pw_below_drewN | apply below_drew1 | refine below_set ?_ GE649.out) | exact HB.out)) hb); clear BK649; clear HB; have BK649 := n0_; have HB := n1_; clear n0_ n1_; (try clear hb); (try clear hb2); (try clear hk); (try clear hi); have hcz15_0 : w14.cell? ⟨gb649, 0, none⟩ = some (.int .i64 a1_0) := (blk_cell BK649.out 0).trans rfl; have hcz15_1 : w14.cell? ⟨gb649, 1, none⟩ = some (.slice A1_1 l1_1.length c1_1) := (blk_cell BK649.out 1).trans rfl; have hfz15_0 := blk_frozen BK649.out 0; have hfz15_1 := blk_frozen BK649.out 1) | ((with_reducible refine gate_callee (f := 206) rfl ?_); refine goesL_ (some 16) rfl rfl Try.func206 (by kernel_rfl) rfl #[.slice A0 l0.length c0, .agg #[.int .i64 a1_0, .slice A1_1 l1_1.length c1_1]] rfl (by (try simp only [List.map_toArray, List.map_cons, List.map_nil]); first | done | rfl | (simp only [List.length_drop, List.length_take]; rfl)) ?_; (with_reducible refine (elenchusref07_known.calls k _ _ l0 a1_0 _ _ l1_1 true _ ?side1 ?side2 ?side3 ?side4 A7.out).mono ?_); (case side1 => repeat (first | exact (Kd.C_below HR0.out HB.out) | (with_reducible refine Kd.C_alloc ?_ _) | (with_reducible refine Kd.C_drewN ?_ _) | (with_reducible refine Kd.C_drew ?_))); (case side2 => exact HC0.out); (case side3 => repeat (first | exact (Kd.C_below HR1_1.out HB.out) | (with_reducible refine Kd.C_alloc ?_ _) | (with_reducible refine Kd.C_drewN ?_ _) | (with_reducible refine Kd.C_drew ?_))); (case side4 => exact HC1_1.out); rintro e w16 ⟨rfl, hb⟩; refine ⟨_, rfl, ?_⟩; have n0_ := Aside0.mk (blk_below (g := gb649) (o := .cells #[.int .i64 a1_0, .slice A1_1 l1_1.length c1_1] 25 (0, 0)) (by (with_reducible repeat (first | refine blk_drewN ?_ _ | refine blk_drew ?_ | refine blk_alloc ?_ _)); exact BK649.out) hb); have n1_ := Aside0.mk (below_step (by repeat (first | (with_reducible first | exact HB.out | apply below_alloc | apply pw_below_drewN | apply below_drew1 | refine below_set ?_ GE649.out) | exact HB.out)) hb); clear BK649; clear HB; have BK649 := n0_; have HB := n1_; clear n0_ n1_; (try clear hb); (try clear hb2); (try clear hk); (try clear hi); have hcz17_0 : w16.cell? ⟨gb649, 0, none⟩ = some (.int .i64 a1_0) := (blk_cell BK649.out 0).trans rfl; have hcz17_1 : w16.cell? ⟨gb649, 1, none⟩ = some (.slice A1_1 l1_1.length c1_1) := (blk_cell BK649.out 1).trans rfl; have hfz17_0 := blk_frozen BK649.out 0; have hfz17_1 := blk_frozen BK649.out 1) | ((with_reducible refine gate_callee (f := 207) rfl ?_); refine goesL_ (some 20) rfl rfl Try.func207 (by kernel_rfl) rfl #[.slice A0 l0.length c0, .agg #[.int .i64 a1_0, .slice A1_1 l1_1.length c1_1]] rfl (by (try simp only [List.map_toArray, List.map_cons, List.map_nil]); first | done | rfl | (simp only [List.length_drop, List.length_take]; rfl)) ?_; (with_reducible refine (elenchusref07_things.calls k _ _ l0 a1_0 _ _ l1_1 true _ ?side1 ?side2 ?side3 ?side4 A9.out).mono ?_); (case side1 => repeat (first | exact (Kd.C_below HR0.out HB.out) | (with_reducible refine Kd.C_alloc ?_ _) | (with_reducible refine Kd.C_drewN ?_ _) | (with_reducible refine Kd.C_drew ?_))); (case side2 => exact HC0.out); (case side3 => repeat (first | exact (Kd.C_below HR1_1.out HB.out) | (with_reducible refine Kd.C_alloc ?_ _) | (with_reducible refine Kd.C_drewN ?_ _) | (with_reducible refine Kd.C_drew ?_))); (case side4 => exact HC1_1.out); rintro e w18 ⟨rfl, hb⟩; refine ⟨_, rfl, ?_⟩; have n0_ := Aside0.mk (blk_below (g := gb649) (o := .cells #[.int .i64 a1_0, .slice A1_1 l1_1.length c1_1] 25 (0, 0)) (by (with_reducible repeat (first | refine blk_drewN ?_ _ | refine blk_drew ?_ | refine blk_alloc ?_ _)); exact BK649.out) hb); have n1_ := Aside0.mk (below_step (by repeat (first | (with_reducible first | exact HB.out | apply below_alloc | apply pw_below_drewN | apply below_drew1 | refine below_set ?_ GE649.out) | exact HB.out)) hb); clear BK649; clear HB; have BK649 := n0_; have HB := n1_; clear n0_ n1_; (try clear hb); (try clear hb2); (try clear hk); (try clear hi)))
          go_ret
          exact ⟨by first | rfl | (simp [errW_none, errW_some] <;> rfl) | (simp [*, errW_none, errW_some] <;> rfl), by repeat (first | (with_reducible first | exact HB.out | apply below_alloc | apply pw_below_drewN | apply below_drew1 | refine below_set ?_ GE649.out) | exact HB.out)⟩
        · replace c10 := Bool.eq_false_iff.mpr c10
          subst c10
          have H1 : (some 10) = some r := by rw [if_neg (show ¬ (false = true) by decide)] at H; exact H
          clear H
          have H := H1
          clear H1
          obtain rfl := Option.some.inj H
          go_enter Try.func189, Try.ntmps189
          go_wp2_with (first | ((with_reducible refine gate_dst (N := 3) rfl ?_); refine box_event ?hg (N := 3) ?hd (cs := #[.int .i64 a1_0, .slice A1_1 l1_1.length c1_1]) (t := 25) ?hr ?_; (case hd => rfl); (case hg => rfl); (case hr => first | (go_simp; done) | (go_simp; rfl)); intro gb649 hg w19 hbox hb; have n0_ := Aside0.mk (below_step (by repeat (first | (with_reducible first | exact HB.out | apply below_alloc | apply pw_below_drewN | apply below_drew1) | exact HB.out)) hb); have n1_ := Aside0.mk (hbox); have n2_ := Aside0.mk ((by rw [hg]; exact (below_size (by repeat (first | (with_reducible first | exact HB.out | apply below_alloc | apply pw_below_drewN | apply below_drew1) | exact HB.out))) : w.heap.size ≤ gb649)); have n3_ := Aside0.mk ((by rw [hg]; exact (below_size (by repeat (first | (with_reducible first | exact HB.out | apply below_alloc | apply pw_below_drewN | apply below_drew1) | exact HB.out))) : w.heap.size ≤ gb649)); clear HB; have HB := n0_; have BK649 := n1_; have GW649 := n2_; have GE649 := n3_; clear n0_ n1_ n2_ n3_; clear hb hbox hg) | ((with_reducible refine gate_callee (f := 159) rfl ?_); refine goesL_ (some 7) rfl rfl Try.func159 (by kernel_rfl) rfl #[.slice A0 l0.length c0] rfl (by (try simp only [List.map_toArray, List.map_cons, List.map_nil]); first | done | rfl | (simp only [List.length_drop, List.length_take]; rfl)) ?_; (with_reducible refine (elenchusref07_Right.calls k _ _ l0 true _ ?side1 ?side2 A3.out).mono ?_); (case side1 => repeat (first | exact (Kd.C_below HR0.out HB.out) | (with_reducible refine Kd.C_alloc ?_ _) | (with_reducible refine Kd.C_drewN ?_ _) | (with_reducible refine Kd.C_drew ?_))); (case side2 => exact HC0.out); rintro e w20 ⟨rfl, hb⟩; refine ⟨_, rfl, ?_⟩; have n0_ := Aside0.mk (blk_below (g := gb649) (o := .cells #[.int .i64 a1_0, .slice A1_1 l1_1.length c1_1] 25 (0, 0)) (by (with_reducible repeat (first | refine blk_drewN ?_ _ | refine blk_drew ?_ | refine blk_alloc ?_ _)); exact BK649.out) hb); have n1_ := Aside0.mk (below_step (by repeat (first | (with_reducible first | exact HB.out | apply below_alloc | apply pw_below_drewN | apply below_drew1 | refine below_set ?_ GE649.out) | exact HB.out)) hb); clear BK649; clear HB; have BK649 := n0_; have HB := n1_; clear n0_ n1_; (try clear hb); (try clear hb2); (try clear hk); (try clear hi); have hcz21_0 : w20.cell? ⟨gb649, 0, none⟩ = some (.int .i64 a1_0) := (blk_cell BK649.out 0).trans rfl; have hcz21_1 : w20.cell? ⟨gb649, 1, none⟩ = some (.slice A1_1 l1_1.length c1_1) := (blk_cell BK649.out 1).trans rfl; have hfz21_0 := blk_frozen BK649.out 0; have hfz21_1 := blk_frozen BK649.out 1) | ((with_reducible refine gate_callee (f := 107) rfl ?_); refine goesL_ (some 10) rfl rfl Try.func107 (by kernel_rfl) rfl #[.agg #[.int .i64 a1_0, .slice A1_1 l1_1.length c1_1]] rfl (by (try simp only [List.map_toArray, List.map_cons, List.map_nil]); first | done | rfl | (simp only [List.length_drop, List.length_take]; rfl)) ?_; (with_reducible refine (elenchusref01_Check.calls k a1_0 _ _ l1_1 t651 _ ?side1 ?side2 A5.out).mono ?_); (case side1 => repeat (first | exact (Kd.C_below HR1_1.out HB.out) | (with_reducible refine Kd.C_alloc ?_ _) | (with_reducible refine Kd.C_drewN ?_ _) | (with_reducible refine Kd.C_drew ?_))); (case side2 => exact HC1_1.out); rintro e w22 ⟨rfl, hb⟩; refine ⟨_, rfl, ?_⟩; have n0_ := Aside0.mk (blk_below (g := gb649) (o := .cells #[.int .i64 a1_0, .slice A1_1 l1_1.length c1_1] 25 (0, 0)) (by (with_reducible repeat (first | refine blk_drewN ?_ _ | refine blk_drew ?_ | refine blk_alloc ?_ _)); exact BK649.out) hb); have n1_ := Aside0.mk (below_step (by repeat (first | (with_reducible first | exact HB.out | apply below_alloc | apply pw_below_drewN | apply below_drew1 | refine below_set ?_ GE649.out) | exact HB.out)) hb); clear BK649; clear HB; have BK649 := n0_; have HB := n1_; clear n0_ n1_; (try clear hb); (try clear hb2); (try clear hk); (try clear hi); have hcz23_0 : w22.cell? ⟨gb649, 0, none⟩ = some (.int .i64 a1_0) := (blk_cell BK649.out 0).trans rfl; have hcz23_1 : w22.cell? ⟨gb649, 1, none⟩ = some (.slice A1_1 l1_1.length c1_1) := (blk_cell BK649.out 1).trans rfl; have hfz23_0 := blk_frozen BK649.out 0; have hfz23_1 := blk_frozen BK649.out 1) | ((with_reducible refine gate_callee (f := 206) rfl ?_); refine goesL_ (some 16) rfl rfl Try.func206 (by kernel_rfl) rfl #[.slice A0 l0.length c0, .agg #[.int .i64 a1_0, .slice A1_1 l1_1.length c1_1]] rfl (by (try simp only [List.map_toArray, List.map_cons, List.map_nil]); first | done | rfl | (simp only [List.length_drop, List.length_take]; rfl)) ?_; (with_reducible refine (elenchusref07_known.calls k _ _ l0 a1_0 _ _ l1_1 true _ ?side1 ?side2 ?side3 ?side4 A7.out).mono ?_); (case side1 => repeat (first | exact (Kd.C_below HR0.out HB.out) | (with_reducible refine Kd.C_alloc ?_ _) | (with_reducible refine Kd.C_drewN ?_ _) | (with_reducible refine Kd.C_drew ?_))); (case side2 => exact HC0.out); (case side3 => repeat (first | exact (Kd.C_below HR1_1.out HB.out) | (with_reducible refine Kd.C_alloc ?_ _) | (with_reducible refine Kd.C_drewN ?_ _) | (with_reducible refine Kd.C_drew ?_))); (case side4 => exact HC1_1.out); rintro e w24 ⟨rfl, hb⟩; refine ⟨_, rfl, ?_⟩; have n0_ := Aside0.mk (blk_below (g := gb649) (o := .cells #[.int .i64 a1_0, .slice A1_1 l1_1.length c1_1] 25 (0, 0)) (by (with_reducible repeat (first | refine blk_drewN ?_ _ | refine blk_drew ?_ | refine blk_alloc ?_ _)); exact BK649.out) hb); have n1_ := Aside0.mk (below_step (by repeat (first | (with_reducible first | exact HB.out | apply below_alloc | apply pw_below_drewN | apply below_drew1 | refine below_set ?_ GE649.out) | exact HB.out)) hb); clear BK649; clear HB; have BK649 := n0_; have HB := n1_; clear n0_ n1_; (try clear hb); (try clear hb2); (try clear hk); (try clear hi); have hcz25_0 : w24.cell? ⟨gb649, 0, none⟩ = some (.int .i64 a1_0) := (blk_cell BK649.out 0).trans rfl; have hcz25_1 : w24.cell? ⟨gb649, 1, none⟩ = some (.slice A1_1 l1_1.length c1_1) := (blk_cell BK649.out 1).trans rfl; have hfz25_0 := blk_frozen BK649.out 0; have hfz25_1 := blk_frozen BK649.out 1) | ((with_reducible refine gate_callee (f := 207) rfl ?_); refine goesL_ (some 20) rfl rfl Try.func207 (by kernel_rfl) rfl #[.slice A0 l0.length c0, .agg #[.int .i64 a1_0, .slice A1_1 l1_1.length c1_1]] rfl (by (try simp only [List.map_toArray, List.map_cons, List.map_nil]); first | done | rfl | (simp only [List.length_drop, List.length_take]; rfl)) ?_; (with_reducible refine (elenchusref07_things.calls k _ _ l0 a1_0 _ _ l1_1 false _ ?side1 ?side2 ?side3 ?side4 A9.out).mono ?_); (case side1 => repeat (first | exact (Kd.C_below HR0.out HB.out) | (with_reducible refine Kd.C_alloc ?_ _) | (with_reducible refine Kd.C_drewN ?_ _) | (with_reducible refine Kd.C_drew ?_))); (case side2 => exact HC0.out); (case side3 => repeat (first | exact (Kd.C_below HR1_1.out HB.out) | (with_reducible refine Kd.C_alloc ?_ _) | (with_reducible refine Kd.C_drewN ?_ _) | (with_reducible refine Kd.C_drew ?_))); (case side4 => exact HC1_1.out); rintro e w26 ⟨rfl, hb⟩; refine ⟨_, rfl, ?_⟩; have n0_ := Aside0.mk (blk_below (g := gb649) (o := .cells #[.int .i64 a1_0, .slice A1_1 l1_1.length c1_1] 25 (0, 0)) (by (with_reducible repeat (first | refine blk_drewN ?_ _ | refine blk_drew ?_ | refine blk_alloc ?_ _)); exact BK649.out) hb); have n1_ := Aside0.mk (below_step (by repeat (first | (with_reducible first | exact HB.out | apply below_alloc | apply pw_below_drewN | apply below_drew1 | refine below_set ?_ GE649.out) | exact HB.out)) hb); clear BK649; clear HB; have BK649 := n0_; have HB := n1_; clear n0_ n1_; (try clear hb); (try clear hb2); (try clear hk); (try clear hi)))
          go_ret
          exact ⟨by first | rfl | (simp [errW_none, errW_some] <;> rfl) | (simp [*, errW_none, errW_some] <;> rfl), by repeat (first | (with_reducible first | exact HB.out | apply below_alloc | apply pw_below_drewN | apply below_drew1 | refine below_set ?_ GE649.out) | exact HB.out)⟩
      · replace c8 := Bool.eq_false_iff.mpr c8
        subst c8
        have H1 : (some 1) = some r := by rw [if_neg (show ¬ (false = true) by decide)] at H; exact H
        clear H
        have H := H1
        clear H1
        obtain rfl := Option.some.inj H
        go_enter Try.func189, Try.ntmps189
        go_wp2_with (first | ((with_reducible refine gate_dst (N := 3) rfl ?_); refine box_event ?hg (N := 3) ?hd (cs := #[.int .i64 a1_0, .slice A1_1 l1_1.length c1_1]) (t := 25) ?hr ?_; (case hd => rfl); (case hg => rfl); (case hr => first | (go_simp; done) | (go_simp; rfl)); intro gb649 hg w27 hbox hb; have n0_ := Aside0.mk (below_step (by repeat (first | (with_reducible first | exact HB.out | apply below_alloc | apply pw_below_drewN | apply below_drew1) | exact HB.out)) hb); have n1_ := Aside0.mk (hbox); have n2_ := Aside0.mk ((by rw [hg]; exact (below_size (by repeat (first | (with_reducible first | exact HB.out | apply below_alloc | apply pw_below_drewN | apply below_drew1) | exact HB.out))) : w.heap.size ≤ gb649)); have n3_ := Aside0.mk ((by rw [hg]; exact (below_size (by repeat (first | (with_reducible first | exact HB.out | apply below_alloc | apply pw_below_drewN | apply below_drew1) | exact HB.out))) : w.heap.size ≤ gb649)); clear HB; have HB := n0_; have BK649 := n1_; have GW649 := n2_; have GE649 := n3_; clear n0_ n1_ n2_ n3_; clear hb hbox hg) | ((with_reducible refine gate_callee (f := 159) rfl ?_); refine goesL_ (some 7) rfl rfl Try.func159 (by kernel_rfl) rfl #[.slice A0 l0.length c0] rfl (by (try simp only [List.map_toArray, List.map_cons, List.map_nil]); first | done | rfl | (simp only [List.length_drop, List.length_take]; rfl)) ?_; (with_reducible refine (elenchusref07_Right.calls k _ _ l0 true _ ?side1 ?side2 A3.out).mono ?_); (case side1 => repeat (first | exact (Kd.C_below HR0.out HB.out) | (with_reducible refine Kd.C_alloc ?_ _) | (with_reducible refine Kd.C_drewN ?_ _) | (with_reducible refine Kd.C_drew ?_))); (case side2 => exact HC0.out); rintro e w28 ⟨rfl, hb⟩; refine ⟨_, rfl, ?_⟩; have n0_ := Aside0.mk (blk_below (g := gb649) (o := .cells #[.int .i64 a1_0, .slice A1_1 l1_1.length c1_1] 25 (0, 0)) (by (with_reducible repeat (first | refine blk_drewN ?_ _ | refine blk_drew ?_ | refine blk_alloc ?_ _)); exact BK649.out) hb); have n1_ := Aside0.mk (below_step (by repeat (first | (with_reducible first | exact HB.out | apply below_alloc | apply pw_below_drewN | apply below_drew1 | refine below_set ?_ GE649.out) | exact HB.out)) hb); clear BK649; clear HB; have BK649 := n0_; have HB := n1_; clear n0_ n1_; (try clear hb); (try clear hb2); (try clear hk); (try clear hi); have hcz29_0 : w28.cell? ⟨gb649, 0, none⟩ = some (.int .i64 a1_0) := (blk_cell BK649.out 0).trans rfl; have hcz29_1 : w28.cell? ⟨gb649, 1, none⟩ = some (.slice A1_1 l1_1.length c1_1) := (blk_cell BK649.out 1).trans rfl; have hfz29_0 := blk_frozen BK649.out 0; have hfz29_1 := blk_frozen BK649.out 1) | ((with_reducible refine gate_callee (f := 107) rfl ?_); refine goesL_ (some 10) rfl rfl Try.func107 (by kernel_rfl) rfl #[.agg #[.int .i64 a1_0, .slice A1_1 l1_1.length c1_1]] rfl (by (try simp only [List.map_toArray, List.map_cons, List.map_nil]); first | done | rfl | (simp only [List.length_drop, List.length_take]; rfl)) ?_; (with_reducible refine (elenchusref01_Check.calls k a1_0 _ _ l1_1 t651 _ ?side1 ?side2 A5.out).mono ?_); (case side1 => repeat (first | exact (Kd.C_below HR1_1.out HB.out) | (with_reducible refine Kd.C_alloc ?_ _) | (with_reducible refine Kd.C_drewN ?_ _) | (with_reducible refine Kd.C_drew ?_))); (case side2 => exact HC1_1.out); rintro e w30 ⟨rfl, hb⟩; refine ⟨_, rfl, ?_⟩; have n0_ := Aside0.mk (blk_below (g := gb649) (o := .cells #[.int .i64 a1_0, .slice A1_1 l1_1.length c1_1] 25 (0, 0)) (by (with_reducible repeat (first | refine blk_drewN ?_ _ | refine blk_drew ?_ | refine blk_alloc ?_ _)); exact BK649.out) hb); have n1_ := Aside0.mk (below_step (by repeat (first | (with_reducible first | exact HB.out | apply below_alloc | apply pw_below_drewN | apply below_drew1 | refine below_set ?_ GE649.out) | exact HB.out)) hb); clear BK649; clear HB; have BK649 := n0_; have HB := n1_; clear n0_ n1_; (try clear hb); (try clear hb2); (try clear hk); (try clear hi); have hcz31_0 : w30.cell? ⟨gb649, 0, none⟩ = some (.int .i64 a1_0) := (blk_cell BK649.out 0).trans rfl; have hcz31_1 : w30.cell? ⟨gb649, 1, none⟩ = some (.slice A1_1 l1_1.length c1_1) := (blk_cell BK649.out 1).trans rfl; have hfz31_0 := blk_frozen BK649.out 0; have hfz31_1 := blk_frozen BK649.out 1) | ((with_reducible refine gate_callee (f := 206) rfl ?_); refine goesL_ (some 16) rfl rfl Try.func206 (by kernel_rfl) rfl #[.slice A0 l0.length c0, .agg #[.int .i64 a1_0, .slice A1_1 l1_1.length c1_1]] rfl (by (try simp only [List.map_toArray, List.map_cons, List.map_nil]); first | done | rfl | (simp only [List.length_drop, List.length_take]; rfl)) ?_; (with_reducible refine (elenchusref07_known.calls k _ _ l0 a1_0 _ _ l1_1 false _ ?side1 ?side2 ?side3 ?side4 A7.out).mono ?_); (case side1 => repeat (first | exact (Kd.C_below HR0.out HB.out) | (with_reducible refine Kd.C_alloc ?_ _) | (with_reducible refine Kd.C_drewN ?_ _) | (with_reducible refine Kd.C_drew ?_))); (case side2 => exact HC0.out); (case side3 => repeat (first | exact (Kd.C_below HR1_1.out HB.out) | (with_reducible refine Kd.C_alloc ?_ _) | (with_reducible refine Kd.C_drewN ?_ _) | (with_reducible refine Kd.C_drew ?_))); (case side4 => exact HC1_1.out); rintro e w32 ⟨rfl, hb⟩; refine ⟨_, rfl, ?_⟩; have n0_ := Aside0.mk (blk_below (g := gb649) (o := .cells #[.int .i64 a1_0, .slice A1_1 l1_1.length c1_1] 25 (0, 0)) (by (with_reducible repeat (first | refine blk_drewN ?_ _ | refine blk_drew ?_ | refine blk_alloc ?_ _)); exact BK649.out) hb); have n1_ := Aside0.mk (below_step (by repeat (first | (with_reducible first | exact HB.out | apply below_alloc | apply pw_below_drewN | apply below_drew1 | refine below_set ?_ GE649.out) | exact HB.out)) hb); clear BK649; clear HB; have BK649 := n0_; have HB := n1_; clear n0_ n1_; (try clear hb); (try clear hb2); (try clear hk); (try clear hi)))
        go_ret
        exact ⟨by first | rfl | (simp [errW_none, errW_some] <;> rfl) | (simp [*, errW_none, errW_some] <;> rfl), by repeat (first | (with_reducible first | exact HB.out | apply below_alloc | apply pw_below_drewN | apply below_drew1 | refine below_set ?_ GE649.out) | exact HB.out)⟩
    · rw [if_neg c6] at H
      have c6b0 : (t651 == 0) = false := beq_eq_false_iff_ne.mpr c6
      have c6b1 : (t651 != 0) = true := bne_iff_ne.mpr c6
      obtain rfl := Option.some.inj H
      go_enter Try.func189, Try.ntmps189
      go_wp2_with (first | ((with_reducible refine gate_dst (N := 3) rfl ?_); refine box_event ?hg (N := 3) ?hd (cs := #[.int .i64 a1_0, .slice A1_1 l1_1.length c1_1]) (t := 25) ?hr ?_; (case hd => rfl); (case hg => rfl); (case hr => first | (go_simp; done) | (go_simp; rfl)); intro gb649 hg w33 hbox hb; have n0_ := Aside0.mk (below_step (by repeat (first | (with_reducible first | exact HB.out | apply below_alloc | apply pw_below_drewN | apply below_drew1) | exact HB.out)) hb); have n1_ := Aside0.mk (hbox); have n2_ := Aside0.mk ((by rw [hg]; exact (below_size (by repeat (first | (with_reducible first | exact HB.out | apply below_alloc | apply pw_below_drewN | apply below_drew1) | exact HB.out))) : w.heap.size ≤ gb649)); have n3_ := Aside0.mk ((by rw [hg]; exact (below_size (by repeat (first | (with_reducible first | exact HB.out | apply below_alloc | apply pw_below_drewN | apply below_drew1) | exact HB.out))) : w.heap.size ≤ gb649)); clear HB; have HB := n0_; have BK649 := n1_; have GW649 := n2_; have GE649 := n3_; clear n0_ n1_ n2_ n3_; clear hb hbox hg) | ((with_reducible refine gate_callee (f := 159) rfl ?_); refine goesL_ (some 7) rfl rfl Try.func159 (by kernel_rfl) rfl #[.slice A0 l0.length c0] rfl (by (try simp only [List.map_toArray, List.map_cons, List.map_nil]); first | done | rfl | (simp only [List.length_drop, List.length_take]; rfl)) ?_; (with_reducible refine (elenchusref07_Right.calls k _ _ l0 true _ ?side1 ?side2 A3.out).mono ?_); (case side1 => repeat (first | exact (Kd.C_below HR0.out HB.out) | (with_reducible refine Kd.C_alloc ?_ _) | (with_reducible refine Kd.C_drewN ?_ _) | (with_reducible refine Kd.C_drew ?_))); (case side2 => exact HC0.out); rintro e w34 ⟨rfl, hb⟩; refine ⟨_, rfl, ?_⟩; have n0_ := Aside0.mk (blk_below (g := gb649) (o := .cells #[.int .i64 a1_0, .slice A1_1 l1_1.length c1_1] 25 (0, 0)) (by (with_reducible repeat (first | refine blk_drewN ?_ _ | refine blk_drew ?_ | refine blk_alloc ?_ _)); exact BK649.out) hb); have n1_ := Aside0.mk (below_step (by repeat (first | (with_reducible first | exact HB.out | apply below_alloc | apply pw_below_drewN | apply below_drew1 | refine below_set ?_ GE649.out) | exact HB.out)) hb); clear BK649; clear HB; have BK649 := n0_; have HB := n1_; clear n0_ n1_; (try clear hb); (try clear hb2); (try clear hk); (try clear hi); have hcz35_0 : w34.cell? ⟨gb649, 0, none⟩ = some (.int .i64 a1_0) := (blk_cell BK649.out 0).trans rfl; have hcz35_1 : w34.cell? ⟨gb649, 1, none⟩ = some (.slice A1_1 l1_1.length c1_1) := (blk_cell BK649.out 1).trans rfl; have hfz35_0 := blk_frozen BK649.out 0; have hfz35_1 := blk_frozen BK649.out 1) | ((with_reducible refine gate_callee (f := 107) rfl ?_); refine goesL_ (some 10) rfl rfl Try.func107 (by kernel_rfl) rfl #[.agg #[.int .i64 a1_0, .slice A1_1 l1_1.length c1_1]] rfl (by (try simp only [List.map_toArray, List.map_cons, List.map_nil]); first | done | rfl | (simp only [List.length_drop, List.length_take]; rfl)) ?_; (with_reducible refine (elenchusref01_Check.calls k a1_0 _ _ l1_1 t651 _ ?side1 ?side2 A5.out).mono ?_); (case side1 => repeat (first | exact (Kd.C_below HR1_1.out HB.out) | (with_reducible refine Kd.C_alloc ?_ _) | (with_reducible refine Kd.C_drewN ?_ _) | (with_reducible refine Kd.C_drew ?_))); (case side2 => exact HC1_1.out); rintro e w36 ⟨rfl, hb⟩; refine ⟨_, rfl, ?_⟩; have n0_ := Aside0.mk (blk_below (g := gb649) (o := .cells #[.int .i64 a1_0, .slice A1_1 l1_1.length c1_1] 25 (0, 0)) (by (with_reducible repeat (first | refine blk_drewN ?_ _ | refine blk_drew ?_ | refine blk_alloc ?_ _)); exact BK649.out) hb); have n1_ := Aside0.mk (below_step (by repeat (first | (with_reducible first | exact HB.out | apply below_alloc | apply pw_below_drewN | apply below_drew1 | refine below_set ?_ GE649.out) | exact HB.out)) hb); clear BK649; clear HB; have BK649 := n0_; have HB := n1_; clear n0_ n1_; (try clear hb); (try clear hb2); (try clear hk); (try clear hi)))
      go_ret
      exact ⟨by first | rfl | (simp [errW_none, errW_some] <;> rfl) | (simp [*, errW_none, errW_some] <;> rfl), by repeat (first | (with_reducible first | exact HB.out | apply below_alloc | apply pw_below_drewN | apply below_drew1 | refine below_set ?_ GE649.out) | exact HB.out)⟩
  · replace c4 := Bool.eq_false_iff.mpr c4
    subst c4
    have H1 : (some 1) = some r := by rw [if_neg (show ¬ (false = true) by decide)] at H; exact H
    clear H
    have H := H1
    clear H1
    obtain rfl := Option.some.inj H
    go_enter Try.func189, Try.ntmps189
    go_wp2_with (first | ((with_reducible refine gate_dst (N := 3) rfl ?_); refine box_event ?hg (N := 3) ?hd (cs := #[.int .i64 a1_0, .slice A1_1 l1_1.length c1_1]) (t := 25) ?hr ?_; (case hd => rfl); (case hg => rfl); (case hr => first | (go_simp; done) | (go_simp; rfl)); intro gb649 hg w37 hbox hb; have n0_ := Aside0.mk (below_step (by repeat (first | (with_reducible first | exact HB.out | apply below_alloc | apply pw_below_drewN | apply below_drew1) | exact HB.out)) hb); have n1_ := Aside0.mk (hbox); have n2_ := Aside0.mk ((by rw [hg]; exact (below_size (by repeat (first | (with_reducible first | exact HB.out | apply below_alloc | apply pw_below_drewN | apply below_drew1) | exact HB.out))) : w.heap.size ≤ gb649)); have n3_ := Aside0.mk ((by rw [hg]; exact (below_size (by repeat (first | (with_reducible first | exact HB.out | apply below_alloc | apply pw_below_drewN | apply below_drew1) | exact HB.out))) : w.heap.size ≤ gb649)); clear HB; have HB := n0_; have BK649 := n1_; have GW649 := n2_; have GE649 := n3_; clear n0_ n1_ n2_ n3_; clear hb hbox hg) | ((with_reducible refine gate_callee (f := 159) rfl ?_); refine goesL_ (some 7) rfl rfl Try.func159 (by kernel_rfl) rfl #[.slice A0 l0.length c0] rfl (by (try simp only [List.map_toArray, List.map_cons, List.map_nil]); first | done | rfl | (simp only [List.length_drop, List.length_take]; rfl)) ?_; (with_reducible refine (elenchusref07_Right.calls k _ _ l0 false _ ?side1 ?side2 A3.out).mono ?_); (case side1 => repeat (first | exact (Kd.C_below HR0.out HB.out) | (with_reducible refine Kd.C_alloc ?_ _) | (with_reducible refine Kd.C_drewN ?_ _) | (with_reducible refine Kd.C_drew ?_))); (case side2 => exact HC0.out); rintro e w38 ⟨rfl, hb⟩; refine ⟨_, rfl, ?_⟩; have n0_ := Aside0.mk (blk_below (g := gb649) (o := .cells #[.int .i64 a1_0, .slice A1_1 l1_1.length c1_1] 25 (0, 0)) (by (with_reducible repeat (first | refine blk_drewN ?_ _ | refine blk_drew ?_ | refine blk_alloc ?_ _)); exact BK649.out) hb); have n1_ := Aside0.mk (below_step (by repeat (first | (with_reducible first | exact HB.out | apply below_alloc | apply pw_below_drewN | apply below_drew1 | refine below_set ?_ GE649.out) | exact HB.out)) hb); clear BK649; clear HB; have BK649 := n0_; have HB := n1_; clear n0_ n1_; (try clear hb); (try clear hb2); (try clear hk); (try clear hi)))
    go_ret
    exact ⟨by first | rfl | (simp [errW_none, errW_some] <;> rfl) | (simp [*, errW_none, errW_some] <;> rfl), by repeat (first | (with_reducible first | exact HB.out | apply below_alloc | apply pw_below_drewN | apply below_drew1 | refine below_set ?_ GE649.out) | exact HB.out)⟩
end Go.Proofs.Ythplndalbfcbbaa.PA
namespace Go.Proofs.Ythplndalbfcbbaa.PA
open Go.RowKit Go.Proofs.YthplndalbfcbbaaW.PrintWords Go.Proofs.YthplndalbfcbbaaW.PrintLast Go.Proofs.YthplndalbfcbbaaW.PrintMore
attribute [local go_sem] max2_int min2_int max_two min_two max_three min_three max_four min_four   -- for this text's walks alone
set_option linter.unusedVariables false
set_option linter.unusedSimpArgs false
def elenchusref09_Check.j0 : Nat → Bool → Option (Int)
  | 0, _ => none
  | k + 1, x42 => if x42 = true then (some 10) else (some 0)
def elenchusref09_Check.f (k : Nat) (l0 : List (S148)) (a1_0 : Bool) (a1_1 : Int) (l1_2 : List (S25)) (a1_3 : Int) (l1_4 : List (S25)) : Option (Int) := (elenchusref07_Term.f k l0 a1_1 l1_2).bind fun t655 => (if t655 = 0 then ((elenchusref07_Term.f k l0 a1_3 l1_4).bind fun t656 => (if t656 = 0 then ((elenchusref07_Truth.f l0 a1_1 l1_2).bind fun t657 => (if t657 = true then (if a1_3 = 0 then (elenchusref09_Check.j0 k false) else (elenchusref09_Check.j0 k true)) else ((elenchusref07_Truth.f l0 a1_3 l1_4).bind fun t658 => (elenchusref09_Check.j0 k t658)))) else (some t656))) else (some t655))
set_option maxHeartbeats 8000000 in
set_option maxRecDepth 100000 in
theorem elenchusref09_Check.calls (k : Nat) (A0 : Option Addr) (c0 : Nat) (l0 : List (S148)) (a1_0 : Bool) (a1_1 : Int) (A1_2 : Option Addr) (c1_2 : Nat) (l1_2 : List (S25)) (a1_3 : Int) (A1_4 : Option Addr) (c1_4 : Nat) (l1_4 : List (S25)) (r : Int) (w : World) (hr0 : Kd.C k148 w A0 l0.length l0) (hc0 : l0.length ≤ c0) (hr1_2 : Kd.C k25 w A1_2 l1_2.length l1_2) (hc1_2 : l1_2.length ≤ c1_2) (hr1_4 : Kd.C k25 w A1_4 l1_4.length l1_4) (hc1_4 : l1_4.length ≤ c1_4) (h : elenchusref09_Check.f k l0 a1_0 a1_1 l1_2 a1_3 l1_4 = some r) :
    Calls Try.prog 160 #[.slice A0 l0.length c0, .agg #[.bool a1_0, .int .i64 a1_1, .slice A1_2 l1_2.length c1_2, .int .i64 a1_3, .slice A1_4 l1_4.length c1_4]] w fun e w' => e = .returned (.int .i64 r) ∧ Below w.heap.size w w' := by
  have hu142 := Try.underlying142
  have hu25 := Try.underlying25
  have HR0 := Aside0.mk hr0
  have HC0 := Aside0.mk hc0
  clear hr0 hc0
  have HR1_2 := Aside0.mk hr1_2
  have HC1_2 := Aside0.mk hc1_2
  clear hr1_2 hc1_2
  have HR1_4 := Aside0.mk hr1_4
  have HC1_4 := Aside0.mk hc1_4
  clear hr1_4 hc1_4
  have HB := Aside0.mk (Below.refl w.heap.size w)
  have H : ((elenchusref07_Term.f k l0 a1_1 l1_2).bind fun t655 => (if t655 = 0 then ((elenchusref07_Term.f k l0 a1_3 l1_4).bind fun t656 => (if t656 = 0 then ((elenchusref07_Truth.f l0 a1_1 l1_2).bind fun t657 => (if t657 = true then (if a1_3 = 0 then (elenchusref09_Check.j0 k false) else (elenchusref09_Check.j0 k true)) else ((elenchusref07_Truth.f l0 a1_3 l1_4).bind fun t658 => (elenchusref09_Check.j0 k t658)))) else (some t656))) else (some t655))) = some r := h
  clear h
  replace H := Option.bind_eq_some_iff.mp H
  obtain ⟨t655, A30, H⟩ := H
  replace H : (if t655 = 0 then ((elenchusref07_Term.f k l0 a1_3 l1_4).bind fun t656 => (if t656 = 0 then ((elenchusref07_Truth.f l0 a1_1 l1_2).bind fun t657 => (if t657 = true then (if a1_3 = 0 then (elenchusref09_Check.j0 k false) else (elenchusref09_Check.j0 k true)) else ((elenchusref07_Truth.f l0 a1_3 l1_4).bind fun t658 => (elenchusref09_Check.j0 k t658)))) else (some t656))) else (some t655)) = some r := H
  have A3 := Aside0.mk A30
  clear A30
  by_cases c4 : t655 = 0
  · rw [if_pos c4] at H
    have c4b0 : (t655 == 0) = true := beq_iff_eq.mpr c4
    have c4b1 : (t655 != 0) = false := bne_eq_false_iff_eq.mpr c4
    clear c4
    replace H := Option.bind_eq_some_iff.mp H
    obtain ⟨t656, A50, H⟩ := H
    replace H : (if t656 = 0 then ((elenchusref07_Truth.f l0 a1_1 l1_2).bind fun t657 => (if t657 = true then (if a1_3 = 0 then (elenchusref09_Check.j0 k false) else (elenchusref09_Check.j0 k true)) else ((elenchusref07_Truth.f l0 a1_3 l1_4).bind fun t658 => (elenchusref09_Check.j0 k t658)))) else (some t656)) = some r := H
    have A5 := Aside0.mk A50
    clear A50
    by_cases c6 : t656 = 0
    · rw [if_pos c6] at H
      have c6b0 : (t656 == 0) = true := beq_iff_eq.mpr c6
      have c6b1 : (t656 != 0) = false := bne_eq_false_iff_eq.mpr c6
      clear c6
      replace H := Option.bind_eq_some_iff.mp H
      obtain ⟨t657, A70, H⟩ := H
      replace H : (if t657 = true then (if a1_3 = 0 then (elenchusref09_Check.j0 k false) else (elenchusref09_Check.j0 k true)) else ((elenchusref07_Truth.f l0 a1_3 l1_4).bind fun t658 => (elenchusref09_Check.j0 k t658))) = some r := H
      have A7 := Aside0.mk A70
      clear A70
      have HC8 := Aside0.mk H
      clear H
      go_enter Try.func160, Try.ntmps160
      go_upto_region 8 with (first | ((with_reducible refine gate_dst (N := 3) rfl ?_); refine box_event ?hg (N := 3) ?hd (cs := #[.bool a1_0, .int .i64 a1_1, .slice A1_2 l1_2.length c1_2, .int .i64 a1_3, .slice A1_4 l1_4.length c1_4]) (t := 142) ?hr ?_; (case hd => rfl); (case hg => rfl); (case hr => first | (go_simp; done) | (go_simp; rfl)); intro gb654 hg w9 hbox hb; have n0_ := Aside0.mk (below_step (by repeat (first | (with_reducible first | exact HB.out | apply below_alloc | apply pw_below_drewN | apply below_drew1) | exact HB.out)) hb); have n1_ := Aside0.mk (hbox); have n2_ := Aside0.mk ((by rw [hg]; exact (below_size (by repeat (first | (with_reducible first | exact HB.out | apply below_alloc | apply pw_below_drewN | apply below_drew1) | exact HB.out))) : w.heap.size ≤ gb654)); have n3_ := Aside0.mk ((by rw [hg]; exact (below_size (by repeat (first | (with_reducible first | exact HB.out | apply below_alloc | apply pw_below_drewN | apply below_drew1) | exact HB.out))) : w.heap.size ≤ gb654)); clear HB; have HB := n0_; have BK654 := n1_; have GW654 := n2_; have GE654 := n3_; clear n0_ n1_ n2_ n3_; clear hb hbox hg; have hcz10_0 : w9.cell? ⟨gb654, 0, none⟩ = some (.bool a1_0) := (blk_cell BK654.out 0).trans rfl; have hcz10_1 : w9.cell? ⟨gb654, 1, none⟩ = some (.int .i64 a1_1) := (blk_cell BK654.out 1).trans rfl; have hcz10_2 : w9.cell? ⟨gb654, 2, none⟩ = some (.slice A1_2 l1_2.length c1_2) := (blk_cell BK654.out 2).trans rfl; have hcz10_3 : w9.cell? ⟨gb654, 3, none⟩ = some (.int .i64 a1_3) := (blk_cell BK654.out 3).trans rfl; have hcz10_4 : w9.cell? ⟨gb654, 4, none⟩ = some (.slice A1_4 l1_4.length c1_4) := (blk_cell BK654.out 4).trans rfl; have hfz10_0 := blk_frozen BK654.out 0; have hfz10_1 := blk_frozen BK654.out 1; have hfz10_2 := blk_frozen BK654.out 2; have hfz10_3 := blk_frozen BK654.out 3; have hfz10_4 := blk_frozen BK654.out 4) | ((with_reducible refine gate_callee (f := 189) rfl ?_); refine goesL_ (some 11) rfl rfl Try.func189 (by kernel_rfl) rfl #[.slice A0 l0.length c0, .agg #[.int .i64 a1_1, .slice A1_2 l1_2.length c1_2]] rfl (by (try simp only [List.map_toArray, List.map_cons, List.map_nil]); first | done | rfl | (simp only [List.length_drop, List.length_take]; rfl)) ?_; (with_reducible refine (elenchusref07_Term.calls k _ _ l0 a1_1 _ _ l1_2 t655 _ ?side1 ?side2 ?side3 ?side4 A3.out).mono ?_); (case side1 => repeat (first | exact (Kd.C_below HR0.out HB.out) | (with_reducible refine Kd.C_alloc ?_ _) | (with_reducible refine Kd.C_drewN ?_ _) | (with_reducible refine Kd.C_drew ?_))); (case side2 => exact HC0.out); (case side3 => repeat (first | exact (Kd.C_below HR1_2.out HB.out) | (with_reducible refine Kd.C_alloc ?_ _) | (with_reducible refine Kd.C_drewN ?_ _) | (with_reducible refine Kd.C_drew ?_))); (case side4 => exact HC1_2.out); rintro e w11 ⟨rfl, hb⟩; refine ⟨_, rfl, ?_⟩; have n0_ := Aside0.mk (blk_below (g := gb654) (o := .cells #[.bool a1_0, .int .i64 a1_1, .slice A1_2 l1_2.length c1_2, .int .i64 a1_3, .slice A1_4 l1_4.length c1_4] 142 (0, 0)) (by (with_reducible repeat (first | refine blk_drewN ?_ _ | refine blk_drew ?_ | refine blk_alloc ?_ _)); exact BK654.out) hb); have n1_ := Aside0.mk (below_step (by repeat (first | (with_reducible first | exact HB.out | apply below_alloc | apply pw_below_drewN | apply below_drew1 | refine below_set ?_ GE654.out) | exact HB.out)) hb); clear BK654; clear HB; have BK654 := n0_; have HB := n1_; clear n0_ n1_; (try clear hb); (try clear hb2); (try clear hk); (try clear hi); have hcz12_0 : w11.cell? ⟨gb654, 0, none⟩ = some (.bool a1_0) := (blk_cell BK654.out 0).trans rfl; have hcz12_1 : w11.cell? ⟨gb654, 1, none⟩ = some (.int .i64 a1_1) := (blk_cell BK654.out 1).trans rfl; have hcz12_2 : w11.cell? ⟨gb654, 2, none⟩ = some (.slice A1_2 l1_2.length c1_2) := (blk_cell BK654.out 2).trans rfl; have hcz12_3 : w11.cell? ⟨gb654, 3, none⟩ = some (.int .i64 a1_3) := (blk_cell BK654.out 3).trans rfl; have hcz12_4 : w11.cell? ⟨gb654, 4, none⟩ = some (.slice A1_4 l1_4.length c1_4) := (blk_cell BK654.out 4).trans rfl; have hfz12_0 := blk_frozen BK654.out 0; have hfz12_1 := blk_frozen BK654.out 1; have hfz12_2 := blk_frozen BK654.out 2; have hfz12_3 := blk_frozen BK654.out 3; have hfz12_4 := blk_frozen BK654.out 4) | ((with_reducible refine gate_callee (f := 189) rfl ?_); refine goesL_ (some 18) rfl rfl Try.func189 (by kernel_rfl) rfl #[.slice A0 l0.length c0, .agg #[.int .i64 a1_3, .slice A1_4 l1_4.length c1_4]] rfl (by (try simp only [List.map_toArray, List.map_cons, List.map_nil]); first | done | rfl | (simp only [List.length_drop, List.length_take]; rfl)) ?_; (with_reducible refine (elenchusref07_Term.calls k _ _ l0 a1_3 _ _ l1_4 t656 _ ?side1 ?side2 ?side3 ?side4 A5.out).mono ?_); (case side1 => repeat (first | exact (Kd.C_below HR0.out HB.out) | (with_reducible refine Kd.C_alloc ?_ _) | (with_reducible refine Kd.C_drewN ?_ _) | (with_reducible refine Kd.C_drew ?_))); (case side2 => exact HC0.out); (case side3 => repeat (first | exact (Kd.C_below HR1_4.out HB.out) | (with_reducible refine Kd.C_alloc ?_ _) | (with_reducible refine Kd.C_drewN ?_ _) | (with_reducible refine Kd.C_drew ?_))); (case side4 => exact HC1_4.out); rintro e w13 ⟨rfl, hb⟩; refine ⟨_, rfl, ?_⟩; have n0_ := Aside0.mk (blk_below (g := gb654) (o := .cells #[.bool a1_0, .int .i64 a1_1, .slice A1_2 l1_2.length c1_2, .int .i64 a1_3, .slice A1_4 l1_4.length c1_4] 142 (0, 0)) (by (with_reducible repeat (first | refine blk_drewN ?_ _ | refine blk_drew ?_ | refine blk_alloc ?_ _)); exact BK654.out) hb); have n1_ := Aside0.mk (below_step (by repeat (first | (with_reducible first | exact HB.out | apply below_alloc | apply pw_below_drewN | apply below_drew1 | refine below_set ?_ GE654.out) | exact HB.out)) hb); clear BK654; clear HB; have BK654 := n0_; have HB := n1_; clear n0_ n1_; (try clear hb); (try clear hb2); (try clear hk); (try clear hi); have hcz14_0 : w13.cell? ⟨gb654, 0, none⟩ = some (.bool a1_0) := (blk_cell BK654.out 0).trans rfl; have hcz14_1 : w13.cell? ⟨gb654, 1, none⟩ = some (.int .i64 a1_1) := (blk_cell BK654.out 1).trans rfl; have hcz14_2 : w13.cell? ⟨gb654, 2, none⟩ = some (.slice A1_2 l1_2.length c1_2) := (blk_cell BK654.out 2).trans rfl; have hcz14_3 : w13.cell? ⟨gb654, 3, none⟩ = some (.int .i64 a1_3) := (blk_cell BK654.out 3).trans rfl; have hcz14_4 : w13.cell? ⟨gb654, 4, none⟩ = some (.slice A1_4 l1_4.length c1_4) := (blk_cell BK654.out 4).trans rfl; have hfz14_0 := blk_frozen BK654.out 0; have hfz14_1 := blk_frozen BK654.out 1; have hfz14_2 := blk_frozen BK654.out 2; have hfz14_3 := blk_frozen BK654.out 3; have hfz14_4 := blk_frozen BK654.out 4) | ((with_reducible refine gate_callee (f := 190) rfl ?_); refine goesL_ (some 25) rfl rfl Try.func190 (by kernel_rfl) rfl #[.slice A0 l0.length c0, .agg #[.int .i64 a1_1, .slice A1_2 l1_2.length c1_2]] rfl (by (try simp only [List.map_toArray, List.map_cons, List.map_nil]); first | done | rfl | (simp only [List.length_drop, List.length_take]; rfl)) ?_; (with_reducible refine (elenchusref07_Truth.calls _ _ l0 a1_1 _ _ l1_2 t657 _ ?side1 ?side2 ?side3 ?side4 A7.out).mono ?_); (case side1 => repeat (first | exact (Kd.C_below HR0.out HB.out) | (with_reducible refine Kd.C_alloc ?_ _) | (with_reducible refine Kd.C_drewN ?_ _) | (with_reducible refine Kd.C_drew ?_))); (case side2 => exact HC0.out); (case side3 => repeat (first | exact (Kd.C_below HR1_2.out HB.out) | (with_reducible refine Kd.C_alloc ?_ _) | (with_reducible refine Kd.C_drewN ?_ _) | (with_reducible refine Kd.C_drew ?_))); (case side4 => exact HC1_2.out); rintro e w15 ⟨rfl, hb⟩; refine ⟨_, rfl, ?_⟩; have n0_ := Aside0.mk (blk_below (g := gb654) (o := .cells #[.bool a1_0, .int .i64 a1_1, .slice A1_2 l1_2.length c1_2, .int .i64 a1_3, .slice A1_4 l1_4.length c1_4] 142 (0, 0)) (by (with_reducible repeat (first | refine blk_drewN ?_ _ | refine blk_drew ?_ | refine blk_alloc ?_ _)); exact BK654.out) hb); have n1_ := Aside0.mk (below_step (by repeat (first | (with_reducible first | exact HB.out | apply below_alloc | apply pw_below_drewN | apply below_drew1 | refine below_set ?_ GE654.out) | exact HB.out)) hb); clear BK654; clear HB; have BK654 := n0_; have HB := n1_; clear n0_ n1_; (try clear hb); (try clear hb2); (try clear hk); (try clear hi)))
      (try simp only [Act.put, List.setIfInBounds_toArray, List.set_cons_zero, List.set_cons_succ])
      go_cut [42] (fun v42 wc => ∃ (kq : Nat) (x42_7 : Bool), v42 = .bool x42_7 ∧ Aside0 (elenchusref09_Check.j0 kq x42_7 = some r) ∧ Aside0 (kq ≤ k) ∧ Aside0 (wc.heap[gb654]? = some (.cells #[.bool a1_0, .int .i64 a1_1, (.slice A1_2 l1_2.length c1_2), .int .i64 a1_3, (.slice A1_4 l1_4.length c1_4)] 142 (0, 0))) ∧ Aside0 (Below w.heap.size w wc))
      case first =>
        have H := HC8.out
        clear HC8
        by_cases c16 : t657 = true
        · subst c16
          have H1 : (if a1_3 = 0 then (elenchusref09_Check.j0 k false) else (elenchusref09_Check.j0 k true)) = some r := by rw [if_pos rfl] at H; exact H
          clear H
          have H := H1
          clear H1
          by_cases c17 : a1_3 = 0
          · rw [if_pos c17] at H
            have c17b0 : (a1_3 == 0) = true := beq_iff_eq.mpr c17
            have c17b1 : (a1_3 != 0) = false := bne_eq_false_iff_eq.mpr c17
            clear c17
            (first | rw [c17b0] | (simp only [i64_w, i32_w]; rw [c17b0]) | skip)
            have H' := Aside0.mk H
            clear H
            have hcz18_0 : w15.cell? ⟨gb654, 0, none⟩ = some (.bool a1_0) := (blk_cell BK654.out 0).trans rfl
            have hcz18_1 : w15.cell? ⟨gb654, 1, none⟩ = some (.int .i64 a1_1) := (blk_cell BK654.out 1).trans rfl
            have hcz18_2 : w15.cell? ⟨gb654, 2, none⟩ = some (.slice A1_2 l1_2.length c1_2) := (blk_cell BK654.out 2).trans rfl
            have hcz18_3 : w15.cell? ⟨gb654, 3, none⟩ = some (.int .i64 a1_3) := (blk_cell BK654.out 3).trans rfl
            have hcz18_4 : w15.cell? ⟨gb654, 4, none⟩ = some (.slice A1_4 l1_4.length c1_4) := (blk_cell BK654.out 4).trans rfl
            have hfz18_0 := blk_frozen BK654.out 0
            have hfz18_1 := blk_frozen BK654.out 1
            have hfz18_2 := blk_frozen BK654.out 2
            have hfz18_3 := blk_frozen BK654.out 3
            have hfz18_4 := blk_frozen BK654.out 4
            go_wp2
            go_meet
            case rel => exact ⟨_, (false), (by first | rfl | (simp; done) | (simp [*]; done)), H', ⟨by first | omega | exact Nat.le_refl _⟩, ⟨by (with_reducible repeat (first | refine blk_drewN ?_ _ | refine blk_drew ?_ | refine blk_alloc ?_ _)); exact BK654.out⟩, ⟨by repeat (first | (with_reducible first | exact HB.out | apply below_alloc | apply pw_below_drewN | apply below_drew1 | refine below_set ?_ GE654.out) | exact HB.out)⟩⟩
          · rw [if_neg c17] at H
            have c17b0 : (a1_3 == 0) = false := beq_eq_false_iff_ne.mpr c17
            have c17b1 : (a1_3 != 0) = true := bne_iff_ne.mpr c17
            (first | rw [c17b0] | (simp only [i64_w, i32_w]; rw [c17b0]) | skip)
            have H' := Aside0.mk H
            clear H
            have hcz19_0 : w15.cell? ⟨gb654, 0, none⟩ = some (.bool a1_0) := (blk_cell BK654.out 0).trans rfl
            have hcz19_1 : w15.cell? ⟨gb654, 1, none⟩ = some (.int .i64 a1_1) := (blk_cell BK654.out 1).trans rfl
            have hcz19_2 : w15.cell? ⟨gb654, 2, none⟩ = some (.slice A1_2 l1_2.length c1_2) := (blk_cell BK654.out 2).trans rfl
            have hcz19_3 : w15.cell? ⟨gb654, 3, none⟩ = some (.int .i64 a1_3) := (blk_cell BK654.out 3).trans rfl
            have hcz19_4 : w15.cell? ⟨gb654, 4, none⟩ = some (.slice A1_4 l1_4.length c1_4) := (blk_cell BK654.out 4).trans rfl
            have hfz19_0 := blk_frozen BK654.out 0
            have hfz19_1 := blk_frozen BK654.out 1
            have hfz19_2 := blk_frozen BK654.out 2
            have hfz19_3 := blk_frozen BK654.out 3
            have hfz19_4 := blk_frozen BK654.out 4
            go_wp2
            go_meet
            case rel => exact ⟨_, (true), (by first | rfl | (simp; done) | (simp [*]; done)), H', ⟨by first | omega | exact Nat.le_refl _⟩, ⟨by (with_reducible repeat (first | refine blk_drewN ?_ _ | refine blk_drew ?_ | refine blk_alloc ?_ _)); exact BK654.out⟩, ⟨by repeat (first | (with_reducible first | exact HB.out | apply below_alloc | apply pw_below_drewN | apply below_drew1 | refine below_set ?_ GE654.out) | exact HB.out)⟩⟩
        · replace c16 := Bool.eq_false_iff.mpr c16
          subst c16
          have H1 : ((elenchusref07_Truth.f l0 a1_3 l1_4).bind fun t658 => (elenchusref09_Check.j0 k t658)) = some r := by rw [if_neg (show ¬ (false = true) by decide)] at H; exact H
          clear H
          have H := H1
          clear H1
          replace H := Option.bind_eq_some_iff.mp H
          obtain ⟨t658, A200, H⟩ := H
          replace H : (elenchusref09_Check.j0 k t658) = some r := H
          have A20 := Aside0.mk A200
          clear A200
          have H' := Aside0.mk H
          clear H
          have hcz21_0 : w15.cell? ⟨gb654, 0, none⟩ = some (.bool a1_0) := (blk_cell BK654.out 0).trans rfl
          have hcz21_1 : w15.cell? ⟨gb654, 1, none⟩ = some (.int .i64 a1_1) := (blk_cell BK654.out 1).trans rfl
          have hcz21_2 : w15.cell? ⟨gb654, 2, none⟩ = some (.slice A1_2 l1_2.length c1_2) := (blk_cell BK654.out 2).trans rfl
          have hcz21_3 : w15.cell? ⟨gb654, 3, none⟩ = some (.int .i64 a1_3) := (blk_cell BK654.out 3).trans rfl
          have hcz21_4 : w15.cell? ⟨gb654, 4, none⟩ = some (.slice A1_4 l1_4.length c1_4) := (blk_cell BK654.out 4).trans rfl
          have hfz21_0 := blk_frozen BK654.out 0
          have hfz21_1 := blk_frozen BK654.out 1
          have hfz21_2 := blk_frozen BK654.out 2
          have hfz21_3 := blk_frozen BK654.out 3
          have hfz21_4 := blk_frozen BK654.out 4
          go_wp2_with (first | (go_at_call 190; (with_reducible refine (elenchusref07_Truth.calls _ _ l0 a1_3 _ _ l1_4 t658 _ ?side1 ?side2 ?side3 ?side4 A20.out).mono ?_); (case side1 => repeat (first | exact (Kd.C_below HR0.out HB.out) | (with_reducible refine Kd.C_alloc ?_ _) | (with_reducible refine Kd.C_drewN ?_ _) | (with_reducible refine Kd.C_drew ?_))); (case side2 => exact HC0.out); (case side3 => repeat (first | exact (Kd.C_below HR1_4.out HB.out) | (with_reducible refine Kd.C_alloc ?_ _) | (with_reducible refine Kd.C_drewN ?_ _) | (with_reducible refine Kd.C_drew ?_))); (case side4 => exact HC1_4.out); rintro e w22 ⟨rfl, hb⟩; have n0_ := Aside0.mk (blk_below (g := gb654) (o := .cells #[.bool a1_0, .int .i64 a1_1, .slice A1_2 l1_2.length c1_2, .int .i64 a1_3, .slice A1_4 l1_4.length c1_4] 142 (0, 0)) (by (with_reducible repeat (first | refine blk_drewN ?_ _ | refine blk_drew ?_ | refine blk_alloc ?_ _)); exact BK654.out) hb); have n1_ := Aside0.mk (below_step (by repeat (first | (with_reducible first | exact HB.out | apply below_alloc | apply pw_below_drewN | apply below_drew1 | refine below_set ?_ GE654.out) | exact HB.out)) hb); clear BK654; clear HB; have BK654 := n0_; have HB := n1_; clear n0_ n1_; (try clear hb); (try clear hb2); (try clear hk); (try clear hi)))
          go_meet
          case rel => exact ⟨_, (t658), (by first | rfl | (simp; done) | (simp [*]; done)), H', ⟨by first | omega | exact Nat.le_refl _⟩, ⟨by (with_reducible repeat (first | refine blk_drewN ?_ _ | refine blk_drew ?_ | refine blk_alloc ?_ _)); exact BK654.out⟩, ⟨by repeat (first | (with_reducible first | exact HB.out | apply below_alloc | apply pw_below_drewN | apply below_drew1 | refine below_set ?_ GE654.out) | exact HB.out)⟩⟩
      case rest =>
        clear HC8
        try clear c1
        try clear p2
        try clear c4
        try clear c4b0
        try clear c4b1
        try clear c6
        try clear c6b0
        try clear c6b1
        try clear c16
        try clear c17
        try clear c17b0
        try clear c17b1
        try clear c18
        try clear c19
        try clear hcz10_0
        try clear hcz10_1
        try clear hcz10_2
        try clear hcz10_3
        try clear hcz10_4
        try clear hcz12_0
        try clear hcz12_1
        try clear hcz12_2
        try clear hcz12_3
        try clear hcz12_4
        try clear hcz14_0
        try clear hcz14_1
        try clear hcz14_2
        try clear hcz14_3
        try clear hcz14_4
        try clear hcz18_0
        try clear hcz18_1
        try clear hcz18_2
        try clear hcz18_3
        try clear hcz18_4
        try clear hcz19_0
        try clear hcz19_1
        try clear hcz19_2
        try clear hcz19_3
        try clear hcz19_4
        try clear hcz21_0
        try clear hcz21_1
        try clear hcz21_2
        try clear hcz21_3
        try clear hcz21_4
        try clear hfz10_0
        try clear hfz10_1
        try clear hfz10_2
        try clear hfz10_3
        try clear hfz10_4
        try clear hfz12_0
        try clear hfz12_1
        try clear hfz12_2
        try clear hfz12_3
        try clear hfz12_4
        try clear hfz14_0
        try clear hfz14_1
        try clear hfz14_2
        try clear hfz14_3
        try clear hfz14_4
        try clear hfz18_0
        try clear hfz18_1
        try clear hfz18_2
        try clear hfz18_3
        try clear hfz18_4
        try clear hfz19_0
        try clear hfz19_1
        try clear hfz19_2
        try clear hfz19_3
        try clear hfz19_4
        try clear hfz21_0
        try clear hfz21_1
        try clear hfz21_2
        try clear hfz21_3
        try clear hfz21_4
        obtain ⟨kq, x42_7, rfl, HA, HJ7, BK654, HB⟩ := hcut
        cases kq with
        | zero => exact absurd HA.out (by simp [elenchusref09_Check.j0])
        | succ kj7 =>
          have H := HA.out
          clear HA
          simp only [elenchusref09_Check.j0] at H
          by_cases c23 : x42_7 = true
          · subst c23
            have H1 : (some 10) = some r := by rw [if_pos rfl] at H; exact H
            clear H
            have H := H1
            clear H1
            obtain rfl := Option.some.inj H
            go_wp2
            go_ret
            exact ⟨by first | rfl | (simp [errW_none, errW_some] <;> rfl) | (simp [*, errW_none, errW_some] <;> rfl), by repeat (first | (with_reducible first | exact HB.out | apply below_alloc | apply pw_below_drewN | apply below_drew1 | refine below_set ?_ GE654.out) | exact HB.out)⟩
          · replace c23 := Bool.eq_false_iff.mpr c23
            subst c23
            have H1 : (some 0) = some r := by rw [if_neg (show ¬ (false = true) by decide)] at H; exact H
            clear H
            have H := H1
            clear H1
            obtain rfl := Option.some.inj H
            go_wp2
            go_ret
            exact ⟨by first | rfl | (simp [errW_none, errW_some] <;> rfl) | (simp [*, errW_none, errW_some] <;> rfl), by repeat (first | (with_reducible first | exact HB.out | apply below_alloc | apply pw_below_drewN | apply below_drew1 | refine below_set ?_ GE654.out) | exact HB.out)⟩
    · rw [if_neg c6] at H
      have c6b0 : (t656 == 0) = false := beq_eq_false_iff_ne.mpr c6
      have c6b1 : (t656 != 0) = true := bne_iff_ne.mpr c6
      obtain rfl := Option.some.inj H
      go_enter Try.func160, Try.ntmps160
      go_wp2_with (first | ((with_reducible refine gate_dst (N := 3) rfl ?_); refine box_event ?hg (N := 3) ?hd (cs := #[.bool a1_0, .int .i64 a1_1, .slice A1_2 l1_2.length c1_2, .int .i64 a1_3, .slice A1_4 l1_4.length c1_4]) (t := 142) ?hr ?_; (case hd => rfl); (case hg => rfl); (case hr => first | (go_simp; done) | (go_simp; rfl)); intro gb654 hg w24 hbox hb; have n0_ := Aside0.mk (below_step (by repeat (first | (with_reducible first | exact HB.out | apply below_alloc | apply pw_below_drewN | apply below_drew1) | exact HB.out)) hb); have n1_ := Aside0.mk (hbox); have n2_ := Aside0.mk ((by rw [hg]; exact (below_size (by repeat (first | (with_reducible first | exact HB.out | apply below_alloc | apply pw_below_drewN | apply below_drew1) | exact HB.out))) : w.heap.size ≤ gb654)); have n3_ := Aside0.mk ((by rw [hg]; exact (below_size (by repeat (first | (with_reducible first | exact HB.out | apply below_alloc | apply pw_below_drewN | apply below_drew1) | exact HB.out))) : w.heap.size ≤ gb654)); clear HB; have HB := n0_; have BK654 := n1_; have GW654 := n2_; have GE654 := n3_; clear n0_ n1_ n2_ n3_; clear hb hbox hg; have hcz25_0 : w24.cell? ⟨gb654, 0, none⟩ = some (.bool a1_0) := (blk_cell BK654.out 0).trans rfl; have hcz25_1 : w24.cell? ⟨gb654, 1, none⟩ = some (.int .i64 a1_1) := (blk_cell BK654.out 1).trans rfl; have hcz25_2 : w24.cell? ⟨gb654, 2, none⟩ = some (.slice A1_2 l1_2.length c1_2) := (blk_cell BK654.out 2).trans rfl; have hcz25_3 : w24.cell? ⟨gb654, 3, none⟩ = some (.int .i64 a1_3) := (blk_cell BK654.out 3).trans rfl; have hcz25_4 : w24.cell? ⟨gb654, 4, none⟩ = some (.slice A1_4 l1_4.length c1_4) := (blk_cell BK654.out 4).trans rfl; have hfz25_0 := blk_frozen BK654.out 0; have hfz25_1 := blk_frozen BK654.out 1; have hfz25_2 := blk_frozen BK654.out 2; have hfz25_3 := blk_frozen BK654.out 3; have hfz25_4 := blk_frozen BK654.out 4) | ((with_reducible refine gate_callee (f := 189) rfl ?_); refine goesL_ (some 11) rfl rfl Try.func189 (by kernel_rfl) rfl #[.slice A0 l0.length c0, .agg #[.int .i64 a1_1, .slice A1_2 l1_2.length c1_2]] rfl (by (try simp only [List.map_toArray, List.map_cons, List.map_nil]); first | done | rfl | (simp only [List.length_drop, List.length_take]; rfl)) ?_; (with_reducible refine (elenchusref07_Term.calls k _ _ l0 a1_1 _ _ l1_2 t655 _ ?side1 ?side2 ?side3 ?side4 A3.out).mono ?_); (case side1 => repeat (first | exact (Kd.C_below HR0.out HB.out) | (with_reducible refine Kd.C_alloc ?_ _) | (with_reducible refine Kd.C_drewN ?_ _) | (with_reducible refine Kd.C_drew ?_))); (case side2 => exact HC0.out); (case side3 => repeat (first | exact (Kd.C_below HR1_2.out HB.out) | (with_reducible refine Kd.C_alloc ?_ _) | (with_reducible refine Kd.C_drewN ?_ _) | (with_reducible refine Kd.C_drew ?_))); (case side4 => exact HC1_2.out); rintro e w26 ⟨rfl, hb⟩; refine ⟨_, rfl, ?_⟩; have n0_ := Aside0.mk (blk_below (g := gb654) (o := .cells #[.bool a1_0, .int .i64 a1_1, .slice A1_2 l1_2.length c1_2, .int .i64 a1_3, .slice A1_4 l1_4.length c1_4] 142 (0, 0)) (by (with_reducible repeat (first | refine blk_drewN ?_ _ | refine blk_drew ?_ | refine blk_alloc ?_ _)); exact BK654.out) hb); have n1_ := Aside0.mk (below_step (by repeat (first | (with_reducible first | exact HB.out | apply below_alloc | apply pw_below_drewN | apply below_drew1 | refine below_set ?_ GE654.out) | exact HB.out)) hb); clear BK654; clear HB; have BK654 := n0_; have HB := n1_; clear n0_ n1_; (try clear hb); (try clear hb2); (try clear hk); (try clear hi); have hcz27_0 : w26.cell? ⟨gb654, 0, none⟩ = some (.bool a1_0) := (blk_cell BK654.out 0).trans rfl; have hcz27_1 : w26.cell? ⟨gb654, 1, none⟩ = some (.int .i64 a1_1) := (blk_cell BK654.out 1).trans rfl; have hcz27_2 : w26.cell? ⟨gb654, 2, none⟩ = some (.slice A1_2 l1_2.length c1_2) := (blk_cell BK654.out 2).trans rfl; have hcz27_3 : w26.cell? ⟨gb654, 3, none⟩ = some (.int .i64 a1_3) := (blk_cell BK654.out 3).trans rfl; have hcz27_4 : w26.cell? ⟨gb654, 4, none⟩ = some (.slice A1_4 l1_4.length c1_4) := (blk_cell BK654.out 4).trans rfl; have hfz27_0 := blk_frozen BK654.out 0; have hfz27_1 := blk_frozen BK654.out 1; have hfz27_2 := blk_frozen BK654.out 2; have hfz27_3 := blk_frozen BK654.out 3; have hfz27_4 := blk_frozen BK654.out 4) | ((with_reducible refine gate_callee (f := 189) rfl ?_); refine goesL_ (some 18) rfl rfl Try.func189 (by kernel_rfl) rfl #[.slice A0 l0.length c0, .agg #[.int .i64 a1_3, .slice A1_4 l1_4.length c1_4]] rfl (by (try simp only [List.map_toArray, List.map_cons, List.map_nil]); first | done | rfl | (simp only [List.length_drop, List.length_take]; rfl)) ?_; (with_reducible refine (elenchusref07_Term.calls k _ _ l0 a1_3 _ _ l1_4 t656 _ ?side1 ?side2 ?side3 ?side4 A5.out).mono ?_); (case side1 => repeat (first | exact (Kd.C_below HR0.out HB.out) | (with_reducible refine Kd.C_alloc ?_ _) | (with_reducible refine Kd.C_drewN ?_ _) | (with_reducible refine Kd.C_drew ?_))); (case side2 => exact HC0.out); (case side3 => repeat (first | exact (Kd.C_below HR1_4.out HB.out) | (with_reducible refine Kd.C_alloc ?_ _) | (with_reducible refine Kd.C_drewN ?_ _) | (with_reducible refine Kd.C_drew ?_))); (case side4 => exact HC1_4.out); rintro e w28 ⟨rfl, hb⟩; refine ⟨_, rfl, ?_⟩; have n0_ := Aside0.mk (blk_below (g := gb654) (o := .cells #[.bool a1_0, .int .i64 a1_1, .slice A1_2 l1_2.length c1_2, .int .i64 a1_3, .slice A1_4 l1_4.length c1_4] 142 (0, 0)) (by (with_reducible repeat (first | refine blk_drewN ?_ _ | refine blk_drew ?_ | refine blk_alloc ?_ _)); exact BK654.out) hb); have n1_ := Aside0.mk (below_step (by repeat (first | (with_reducible first | exact HB.out | apply below_alloc | apply pw_below_drewN | apply below_drew1 | refine below_set ?_ GE654.out) | exact HB.out)) hb); clear BK654; clear HB; have BK654 := n0_; have HB := n1_; clear n0_ n1_; (try clear hb); (try clear hb2); (try clear hk); (try clear hi)))
      go_ret
      exact ⟨by first | rfl | (simp [errW_none, errW_some] <;> rfl) | (simp [*, errW_none, errW_some] <;> rfl), by repeat (first | (with_reducible first | exact HB.out | apply below_alloc | apply pw_below_drewN | apply below_drew1 | refine below_set ?_ GE654.out) | exact HB.out)⟩
  · rw [if_neg c4] at H
    have c4b0 : (t655 == 0) = false := beq_eq_false_iff_ne.mpr c4
    have c4b1 : (t655 != 0) = true := bne_iff_ne.mpr c4
    obtain rfl := Option.some.inj H
    go_enter Try.func160, Try.ntmps160
    go_wp2_with (first | ((with_reducible refine gate_dst (N := 3) rfl ?_); refine box_event ?hg (N := 3) ?hd (cs := #[.bool a1_0, .int .i64 a1_1, .slice A1_2 l1_2.length c1_2, .int .i64 a1_3, .slice A1_4 l1_4.length c1_4]) (t := 142) ?hr ?_; (case hd => rfl); (case hg => rfl); (case hr => first | (go_simp; done) | (go_simp; rfl)); intro gb654 hg w29 hbox hb; have n0_ := Aside0.mk (below_step (by repeat (first | (with_reducible first | exact HB.out | apply below_alloc | apply pw_below_drewN | apply below_drew1) | exact HB.out)) hb); have n1_ := Aside0.mk (hbox); have n2_ := Aside0.mk ((by rw [hg]; exact (below_size (by repeat (first | (with_reducible first | exact HB.out | apply below_alloc | apply pw_below_drewN | apply below_drew1) | exact HB.out))) : w.heap.size ≤ gb654)); have n3_ := Aside0.mk ((by rw [hg]; exact (below_size (by repeat (first | (with_reducible first | exact HB.out | apply below_alloc | apply pw_below_drewN | apply below_drew1) | exact HB.out))) : w.heap.size ≤ gb654)); clear HB; have HB := n0_; have BK654 := n1_; have GW654 := n2_; have GE654 := n3_; clear n0_ n1_ n2_ n3_; clear hb hbox hg; have hcz30_0 : w29.cell? ⟨gb654, 0, none⟩ = some (.bool a1_0) := (blk_cell BK654.out 0).trans rfl; have hcz30_1 : w29.cell? ⟨gb654, 1, none⟩ = some (.int .i64 a1_1) := (blk_cell BK654.out 1).trans rfl; have hcz30_2 : w29.cell? ⟨gb654, 2, none⟩ = some (.slice A1_2 l1_2.length c1_2) := (blk_cell BK654.out 2).trans rfl; have hcz30_3 : w29.cell? ⟨gb654, 3, none⟩ = some (.int .i64 a1_3) := (blk_cell BK654.out 3).trans rfl; have hcz30_4 : w29.cell? ⟨gb654, 4, none⟩ = some (.slice A1_4 l1_4.length c1_4) := (blk_cell BK654.out 4).trans rfl; have hfz30_0 := blk_frozen BK654.out 0; have hfz30_1 := blk_frozen BK654.out 1; have hfz30_2 := blk_frozen BK654.out 2; have hfz30_3 := blk_frozen BK654.out 3; have hfz30_4 := blk_frozen BK654.out 4) | ((with_reducible refine gate_callee (f := 189) rfl ?_); refine goesL_ (some 11) rfl rfl Try.func189 (by kernel_rfl) rfl #[.slice A0 l0.length c0, .agg #[.int .i64 a1_1, .slice A1_2 l1_2.length c1_2]] rfl (by (try simp only [List.map_toArray, List.map_cons, List.map_nil]); first | done | rfl | (simp only [List.length_drop, List.length_take]; rfl)) ?_; (with_reducible refine (elenchusref07_Term.calls k _ _ l0 a1_1 _ _ l1_2 t655 _ ?side1 ?side2 ?side3 ?side4 A3.out).mono ?_); (case side1 => repeat (first | exact (Kd.C_below HR0.out HB.out) | (with_reducible refine Kd.C_alloc ?_ _) | (with_reducible refine Kd.C_drewN ?_ _) | (with_reducible refine Kd.C_drew ?_))); (case side2 => exact HC0.out); (case side3 => repeat (first | exact (Kd.C_below HR1_2.out HB.out) | (with_reducible refine Kd.C_alloc ?_ _) | (with_reducible refine Kd.C_drewN ?_ _) | (with_reducible refine Kd.C_drew ?_))); (case side4 => exact HC1_2.out); rintro e w31 ⟨rfl, hb⟩; refine ⟨_, rfl, ?_⟩; have n0_ := Aside0.mk (blk_below (g := gb654) (o := .cells #[.bool a1_0, .int .i64 a1_1, .slice A1_2 l1_2.length c1_2, .int .i64 a1_3, .slice A1_4 l1_4.length c1_4] 142 (0, 0)) (by (with_reducible repeat (first | refine blk_drewN ?_ _ | refine blk_drew ?_ | refine blk_alloc ?_ _)); exact BK654.out) hb); have n1_ := Aside0.mk (below_step (by repeat (first | (with_reducible first | exact HB.out | apply below_alloc | apply pw_below_drewN | apply below_drew1 | refine below_set ?_ GE654.out) | exact HB.out)) hb); clear BK654; clear HB; have BK654 := n0_; have HB := n1_; clear n0_ n1_; (try clear hb); (try clear hb2); (try clear hk); (try clear hi)))
    go_ret
    exact ⟨by first | rfl | (simp [errW_none, errW_some] <;> rfl) | (simp [*, errW_none, errW_some] <;> rfl), by repeat (first | (with_reducible first | exact HB.out | apply below_alloc | apply pw_below_drewN | apply below_drew1 | refine below_set ?_ GE654.out) | exact HB.out)⟩
end Go.Proofs.Ythplndalbfcbbaa.PA
namespace Go.Proofs.Ythplndalbfcbbaa.PA
open Go.RowKit Go.Proofs.YthplndalbfcbbaaW.PrintWords Go.Proofs.YthplndalbfcbbaaW.PrintLast Go.Proofs.YthplndalbfcbbaaW.PrintMore
attribute [local go_sem] max2_int min2_int max_two min_two max_three min_three max_four min_four   -- for this text's walks alone
set_option linter.unusedVariables false
set_option linter.unusedSimpArgs false
def elenchusref10_Check.l0 : Nat → List (S148) → List (S142) → Int → Option (Int)
  | 0, _, _, _ => none
  | k + 1, x0, x1, x5 => if x5 < (x1.length : Int) then (if 0 ≤ x5 then ((elenchusref09_Check.f k x0 ((rd_T142 x1 x5).f0) ((rd_T142 x1 x5).f1.f0) ((rd_T142 x1 x5).f1.f1) ((rd_T142 x1 x5).f2.f0) ((rd_T142 x1 x5).f2.f1)).bind fun t661 => (if t661 = 0 then (elenchusref10_Check.l0 k x0 x1 (wrap64 (x5 + 1))) else (some t661))) else (none)) else (some 0)
def elenchusref10_Check.f (k : Nat) (l0 : List (S148)) (l1 : List (S142)) : Option (Int) := (elenchusref07_Right.f k l0).bind fun t659 => (if t659 = true then (if (l1.length : Int) > 32 then (some 2) else (elenchusref10_Check.l0 k l0 l1 0)) else (some 1))
set_option maxHeartbeats 8000000 in
set_option maxRecDepth 100000 in
theorem elenchusref10_Check.calls (k : Nat) (A0 : Option Addr) (c0 : Nat) (l0 : List (S148)) (A1 : Option Addr) (c1 : Nat) (l1 : List (S142)) (r : Int) (w : World) (hr0 : Kd.C k148 w A0 l0.length l0) (hc0 : l0.length ≤ c0) (hr1 : Kd.C k142 w A1 l1.length l1) (hc1 : l1.length ≤ c1) (h : elenchusref10_Check.f k l0 l1 = some r) :
    Calls Try.prog 123 #[.slice A0 l0.length c0, .slice A1 l1.length c1] w fun e w' => e = .returned (.int .i64 r) ∧ Below w.heap.size w w' := by
  have hu142 := Try.underlying142
  have HR0 := Aside0.mk hr0
  have HC0 := Aside0.mk hc0
  clear hr0 hc0
  have HR1 := Aside0.mk hr1
  have HC1 := Aside0.mk hc1
  clear hr1 hc1
  have HB := Aside0.mk (Below.refl w.heap.size w)
  have H : ((elenchusref07_Right.f k l0).bind fun t659 => (if t659 = true then (if (l1.length : Int) > 32 then (some 2) else (elenchusref10_Check.l0 k l0 l1 0)) else (some 1))) = some r := h
  clear h
  replace H := Option.bind_eq_some_iff.mp H
  obtain ⟨t659, A30, H⟩ := H
  replace H : (if t659 = true then (if (l1.length : Int) > 32 then (some 2) else (elenchusref10_Check.l0 k l0 l1 0)) else (some 1)) = some r := H
  have A3 := Aside0.mk A30
  clear A30
  by_cases c4 : t659 = true
  · subst c4
    have H1 : (if (l1.length : Int) > 32 then (some 2) else (elenchusref10_Check.l0 k l0 l1 0)) = some r := by rw [if_pos rfl] at H; exact H
    clear H
    have H := H1
    clear H1
    by_cases c5 : (l1.length : Int) > 32
    · rw [if_pos c5] at H
      have c5b0 : decide (32 < (l1.length : Int)) = true := decide_eq_true c5
      have c5b1 : decide (32 < l1.length) = true := decide_eq_true (by omega)
      clear c5
      obtain rfl := Option.some.inj H
      go_enter Try.func123, Try.ntmps123
      go_wp2_with (first | ((with_reducible refine gate_callee (f := 159) rfl ?_); refine goesL_ (some 8) rfl rfl Try.func159 (by kernel_rfl) rfl #[.slice A0 l0.length c0] rfl (by (try simp only [List.map_toArray, List.map_cons, List.map_nil]); first | done | rfl | (simp only [List.length_drop, List.length_take]; rfl)) ?_; (with_reducible refine (elenchusref07_Right.calls k _ _ l0 true _ ?side1 ?side2 A3.out).mono ?_); (case side1 => repeat (first | exact HR0.out | (with_reducible refine Kd.C_alloc ?_ _) | (with_reducible refine Kd.C_drewN ?_ _) | (with_reducible refine Kd.C_drew ?_))); (case side2 => exact HC0.out); rintro e w6 ⟨rfl, hb⟩; refine ⟨_, rfl, ?_⟩; have n0_ := Aside0.mk (below_step (by repeat (first | (with_reducible first | exact HB.out | apply below_alloc | apply pw_below_drewN | apply below_drew1) | exact HB.out)) hb); clear HB; have HB := n0_; clear n0_; (try clear hb); (try clear hb2); (try clear hk); (try clear hi)))
      go_ret
      exact ⟨by first | rfl | (simp [errW_none, errW_some] <;> rfl) | (simp [*, errW_none, errW_some] <;> rfl), by repeat (first | (with_reducible first | exact HB.out | apply below_alloc | apply pw_below_drewN | apply below_drew1) | exact HB.out)⟩
    · rw [if_neg c5] at H
      have c5b0 : decide (32 < (l1.length : Int)) = false := decide_eq_false c5
      have c5b1 : decide (32 < l1.length) = false := decide_eq_false (by omega)
      clear c5
      have H' := Aside0.mk H
      clear H
      go_enter Try.func123, Try.ntmps123
      go_wp2_with (first | ((with_reducible refine gate_callee (f := 159) rfl ?_); refine goesL_ (some 8) rfl rfl Try.func159 (by kernel_rfl) rfl #[.slice A0 l0.length c0] rfl (by (try simp only [List.map_toArray, List.map_cons, List.map_nil]); first | done | rfl | (simp only [List.length_drop, List.length_take]; rfl)) ?_; (with_reducible refine (elenchusref07_Right.calls k _ _ l0 true _ ?side1 ?side2 A3.out).mono ?_); (case side1 => repeat (first | exact HR0.out | (with_reducible refine Kd.C_alloc ?_ _) | (with_reducible refine Kd.C_drewN ?_ _) | (with_reducible refine Kd.C_drew ?_))); (case side2 => exact HC0.out); rintro e w7 ⟨rfl, hb⟩; refine ⟨_, rfl, ?_⟩; have n0_ := Aside0.mk (below_step (by repeat (first | (with_reducible first | exact HB.out | apply below_alloc | apply pw_below_drewN | apply below_drew1) | exact HB.out)) hb); clear HB; have HB := n0_; clear n0_; (try clear hb); (try clear hb2); (try clear hk); (try clear hi)))
      go_loopg [5] k (fun kq v5 w' => ∃ (x5_1 : Int), v5 = .int .i64 x5_1 ∧ Aside0 (elenchusref10_Check.l0 kq l0 l1 x5_1 = some r) ∧ Aside0 (kq ≤ k) ∧ Aside0 (Below w.heap.size w w'))
      case atStart => exact ⟨(0), (by first | rfl | (simp; done) | (simp [*]; done)), H', ⟨Nat.le_refl _⟩, ⟨by repeat (first | (with_reducible first | exact HB.out | apply below_alloc | apply pw_below_drewN | apply below_drew1) | exact HB.out)⟩⟩
      case round =>
        clear H'
        try clear c1
        try clear p2
        try clear c4
        try clear c5
        try clear c5b0
        try clear c5b1
        obtain ⟨x5_1, rfl, HA, HK1, HB⟩ := hrel
        cases gk with
        | zero => exact absurd HA.out (by simp [elenchusref10_Check.l0])
        | succ k1 =>
          have H := HA.out
          clear HA
          simp only [elenchusref10_Check.l0] at H
          by_cases c8 : x5_1 < (l1.length : Int)
          · rw [if_pos c8] at H
            have c8b0 : decide (x5_1 < (l1.length : Int)) = true := decide_eq_true c8
            clear c8
            by_cases c9 : 0 ≤ x5_1
            · rw [if_pos c9] at H
              have c9b0 : decide (0 ≤ x5_1) = true := decide_eq_true c9
              clear c9
              replace H := Option.bind_eq_some_iff.mp H
              obtain ⟨t661, A100, H⟩ := H
              replace H : (if t661 = 0 then (elenchusref10_Check.l0 k1 l0 l1 (wrap64 (x5_1 + 1))) else (some t661)) = some r := H
              have A10 := Aside0.mk A100
              clear A100
              by_cases c11 : t661 = 0
              · rw [if_pos c11] at H
                have c11b0 : (t661 == 0) = true := beq_iff_eq.mpr c11
                have c11b1 : (t661 != 0) = false := bne_eq_false_iff_eq.mpr c11
                clear c11
                have H' := Aside0.mk H
                clear H
                have p660 : 0 ≤ (x5_1 : Int) := of_decide_eq_true (by first | (with_reducible assumption) | assumption)
                have q660 : x5_1 < (l1.length : Int) := of_decide_eq_true (by first | (with_reducible assumption) | assumption)
                obtain ⟨ad660, A660_2, c660_2, A660_4, c660_4, e660, hx660_0, hx660_1, hx660_2, hx660_3, hx660_4, hl660_2, hi660_2, hl660_4, hi660_4⟩ := at_T142 HR1.out x5_1 p660 q660
                cases e660
                replace hx660_0 := (HB.out.cell (World.block_lt_of_cell? w _ hx660_0)).trans hx660_0
                replace hx660_1 := (HB.out.cell (World.block_lt_of_cell? w _ hx660_1)).trans hx660_1
                replace hx660_2 := (HB.out.cell (World.block_lt_of_cell? w _ hx660_2)).trans hx660_2
                replace hx660_3 := (HB.out.cell (World.block_lt_of_cell? w _ hx660_3)).trans hx660_3
                replace hx660_4 := (HB.out.cell (World.block_lt_of_cell? w _ hx660_4)).trans hx660_4
                have HR660_2 := Aside0.mk hi660_2
                have HC660_2 := Aside0.mk hl660_2
                clear hi660_2 hl660_2
                have HR660_4 := Aside0.mk hi660_4
                have HC660_4 := Aside0.mk hl660_4
                clear hi660_4 hl660_4
                replace p660 := eq_true p660
                replace q660 := eq_true q660
                go_wp2_with (first | ((with_reducible refine gate_callee (f := 160) rfl ?_); refine goesL_ (some 24) rfl rfl Try.func160 (by kernel_rfl) rfl #[.slice A0 l0.length c0, .agg #[.bool ((rd_T142 l1 x5_1).f0), .int .i64 ((rd_T142 l1 x5_1).f1.f0), .slice A660_2 ((rd_T142 l1 x5_1).f1.f1).length c660_2, .int .i64 ((rd_T142 l1 x5_1).f2.f0), .slice A660_4 ((rd_T142 l1 x5_1).f2.f1).length c660_4]] rfl (by (try simp only [List.map_toArray, List.map_cons, List.map_nil]); first | done | rfl | (simp only [List.length_drop, List.length_take]; rfl)) ?_; (with_reducible refine (elenchusref09_Check.calls k1 _ _ l0 ((rd_T142 l1 x5_1).f0) ((rd_T142 l1 x5_1).f1.f0) _ _ ((rd_T142 l1 x5_1).f1.f1) ((rd_T142 l1 x5_1).f2.f0) _ _ ((rd_T142 l1 x5_1).f2.f1) t661 _ ?side1 ?side2 ?side3 ?side4 ?side5 ?side6 A10.out).mono ?_); (case side1 => repeat (first | exact (Kd.C_below HR0.out HB.out) | (with_reducible refine Kd.C_alloc ?_ _) | (with_reducible refine Kd.C_drewN ?_ _) | (with_reducible refine Kd.C_drew ?_))); (case side2 => exact HC0.out); (case side3 => repeat (first | exact (Kd.C_below HR660_2.out HB.out) | (with_reducible refine Kd.C_alloc ?_ _) | (with_reducible refine Kd.C_drewN ?_ _) | (with_reducible refine Kd.C_drew ?_))); (case side4 => exact HC660_2.out); (case side5 => repeat (first | exact (Kd.C_below HR660_4.out HB.out) | (with_reducible refine Kd.C_alloc ?_ _) | (with_reducible refine Kd.C_drewN ?_ _) | (with_reducible refine Kd.C_drew ?_))); (case side6 => exact HC660_4.out); rintro e w12 ⟨rfl, hb⟩; refine ⟨_, rfl, ?_⟩; have n0_ := Aside0.mk (below_step (by repeat (first | (with_reducible first | exact HB.out | apply below_alloc | apply pw_below_drewN | apply below_drew1) | exact HB.out)) hb); clear HB; have HB := n0_; clear n0_; (try clear hb); (try clear hb2); (try clear hk); (try clear hi)))
                go_roundg k1
                case measure => have := HK1.out; omega
                case rel => exact ⟨(wrap64 (x5_1 + 1)), (by first | rfl | (simp; done) | (simp [*]; done)), H', ⟨by have := HK1.out; omega⟩, ⟨by repeat (first | (with_reducible first | exact HB.out | apply below_alloc | apply pw_below_drewN | apply below_drew1) | exact HB.out)⟩⟩
              · rw [if_neg c11] at H
                have c11b0 : (t661 == 0) = false := beq_eq_false_iff_ne.mpr c11
                have c11b1 : (t661 != 0) = true := bne_iff_ne.mpr c11
                obtain rfl := Option.some.inj H
                have p660 : 0 ≤ (x5_1 : Int) := of_decide_eq_true (by first | (with_reducible assumption) | assumption)
                have q660 : x5_1 < (l1.length : Int) := of_decide_eq_true (by first | (with_reducible assumption) | assumption)
                obtain ⟨ad660, A660_2, c660_2, A660_4, c660_4, e660, hx660_0, hx660_1, hx660_2, hx660_3, hx660_4, hl660_2, hi660_2, hl660_4, hi660_4⟩ := at_T142 HR1.out x5_1 p660 q660
                cases e660
                replace hx660_0 := (HB.out.cell (World.block_lt_of_cell? w _ hx660_0)).trans hx660_0
                replace hx660_1 := (HB.out.cell (World.block_lt_of_cell? w _ hx660_1)).trans hx660_1
                replace hx660_2 := (HB.out.cell (World.block_lt_of_cell? w _ hx660_2)).trans hx660_2
                replace hx660_3 := (HB.out.cell (World.block_lt_of_cell? w _ hx660_3)).trans hx660_3
                replace hx660_4 := (HB.out.cell (World.block_lt_of_cell? w _ hx660_4)).trans hx660_4
                have HR660_2 := Aside0.mk hi660_2
                have HC660_2 := Aside0.mk hl660_2
                clear hi660_2 hl660_2
                have HR660_4 := Aside0.mk hi660_4
                have HC660_4 := Aside0.mk hl660_4
                clear hi660_4 hl660_4
                replace p660 := eq_true p660
                replace q660 := eq_true q660
                go_wp2_with (first | ((with_reducible refine gate_callee (f := 160) rfl ?_); refine goesL_ (some 24) rfl rfl Try.func160 (by kernel_rfl) rfl #[.slice A0 l0.length c0, .agg #[.bool ((rd_T142 l1 x5_1).f0), .int .i64 ((rd_T142 l1 x5_1).f1.f0), .slice A660_2 ((rd_T142 l1 x5_1).f1.f1).length c660_2, .int .i64 ((rd_T142 l1 x5_1).f2.f0), .slice A660_4 ((rd_T142 l1 x5_1).f2.f1).length c660_4]] rfl (by (try simp only [List.map_toArray, List.map_cons, List.map_nil]); first | done | rfl | (simp only [List.length_drop, List.length_take]; rfl)) ?_; (with_reducible refine (elenchusref09_Check.calls k1 _ _ l0 ((rd_T142 l1 x5_1).f0) ((rd_T142 l1 x5_1).f1.f0) _ _ ((rd_T142 l1 x5_1).f1.f1) ((rd_T142 l1 x5_1).f2.f0) _ _ ((rd_T142 l1 x5_1).f2.f1) t661 _ ?side1 ?side2 ?side3 ?side4 ?side5 ?side6 A10.out).mono ?_); (case side1 => repeat (first | exact (Kd.C_below HR0.out HB.out) | (with_reducible refine Kd.C_alloc ?_ _) | (with_reducible refine Kd.C_drewN ?_ _) | (with_reducible refine Kd.C_drew ?_))); (case side2 => exact HC0.out); (case side3 => repeat (first | exact (Kd.C_below HR660_2.out HB.out) | (with_reducible refine Kd.C_alloc ?_ _) | (with_reducible refine Kd.C_drewN ?_ _) | (with_reducible refine Kd.C_drew ?_))); (case side4 => exact HC660_2.out); (case side5 => repeat (first | exact (Kd.C_below HR660_4.out HB.out) | (with_reducible refine Kd.C_alloc ?_ _) | (with_reducible refine Kd.C_drewN ?_ _) | (with_reducible refine Kd.C_drew ?_))); (case side6 => exact HC660_4.out); rintro e w13 ⟨rfl, hb⟩; refine ⟨_, rfl, ?_⟩; have n0_ := Aside0.mk (below_step (by repeat (first | (with_reducible first | exact HB.out | apply below_alloc | apply pw_below_drewN | apply below_drew1) | exact HB.out)) hb); clear HB; have HB := n0_; clear n0_; (try clear hb); (try clear hb2); (try clear hk); (try clear hi)))
                go_ret
                exact ⟨by first | rfl | (simp [errW_none, errW_some] <;> rfl) | (simp [*, errW_none, errW_some] <;> rfl), by repeat (first | (with_reducible first | exact HB.out | apply below_alloc | apply pw_below_drewN | apply below_drew1) | exact HB.out)⟩
            · rw [if_neg c9] at H
              exact absurd H (by simp)
          · rw [if_neg c8] at H
            have c8b0 : decide (x5_1 < (l1.length : Int)) = false := decide_eq_false c8
            clear c8
            obtain rfl := Option.some.inj H
            go_wp2
            go_ret
            exact ⟨by first | rfl | (simp [errW_none, errW_some] <;> rfl) | (simp [*, errW_none, errW_some] <;> rfl), by repeat (first | (with_reducible first | exact HB.out | apply below_alloc | apply pw_below_drewN | apply below_drew1) | exact HB.out)⟩
  · replace c4 := Bool.eq_false_iff.mpr c4
    subst c4
    have H1 : (some 1) = some r := by rw [if_neg (show ¬ (false = true) by decide)] at H; exact H
    clear H
    have H := H1
    clear H1
    obtain rfl := Option.some.inj H
    go_enter Try.func123, Try.ntmps123
    go_wp2_with (first | ((with_reducible refine gate_callee (f := 159) rfl ?_); refine goesL_ (some 8) rfl rfl Try.func159 (by kernel_rfl) rfl #[.slice A0 l0.length c0] rfl (by (try simp only [List.map_toArray, List.map_cons, List.map_nil]); first | done | rfl | (simp only [List.length_drop, List.length_take]; rfl)) ?_; (with_reducible refine (elenchusref07_Right.calls k _ _ l0 false _ ?side1 ?side2 A3.out).mono ?_); (case side1 => repeat (first | exact HR0.out | (with_reducible refine Kd.C_alloc ?_ _) | (with_reducible refine Kd.C_drewN ?_ _) | (with_reducible refine Kd.C_drew ?_))); (case side2 => exact HC0.out); rintro e w14 ⟨rfl, hb⟩; refine ⟨_, rfl, ?_⟩; have n0_ := Aside0.mk (below_step (by repeat (first | (with_reducible first | exact HB.out | apply below_alloc | apply pw_below_drewN | apply below_drew1) | exact HB.out)) hb); clear HB; have HB := n0_; clear n0_; (try clear hb); (try clear hb2); (try clear hk); (try clear hi)))
    go_ret
    exact ⟨by first | rfl | (simp [errW_none, errW_some] <;> rfl) | (simp [*, errW_none, errW_some] <;> rfl), by repeat (first | (with_reducible first | exact HB.out | apply below_alloc | apply pw_below_drewN | apply below_drew1) | exact HB.out)⟩
end Go.Proofs.Ythplndalbfcbbaa.PA
namespace Go.Proofs.Ythplndalbfcbbaa.PA
open Go.RowKit Go.Proofs.YthplndalbfcbbaaW.PrintWords Go.Proofs.YthplndalbfcbbaaW.PrintLast Go.Proofs.YthplndalbfcbbaaW.PrintMore
attribute [local go_sem] max2_int min2_int max_two min_two max_three min_three max_four min_four   -- for this text's walks alone
set_option linter.unusedVariables false
set_option linter.unusedSimpArgs false
mutual
def elenchusref16_stands.j0 : Nat → Int → Int → Int → List (S25) → Option (Int)
  | 0, _, _, _, _ => none
  | k + 1, x1, x5, x663000, x663001 => elenchusref16_stands.l0 k x1 x5 0 x663000 x663001
def elenchusref16_stands.l0 : Nat → Int → Int → Int → Int → List (S25) → Option (Int)
  | 0, _, _, _, _, _ => none
  | k + 1, x1, x5, x6, x663000, x663001 => if x6 < (x663001.length : Int) then (if 0 ≤ x6 then ((elenchusref16_stands.f k ((rd_T25 x663001 x6).f0) ((rd_T25 x663001 x6).f1) x1).bind fun t664 => (elenchusref16_stands.l0 k x1 (wrap64 (x5 + t664)) (wrap64 (x6 + 1)) x663000 x663001)) else (none)) else (some x5)
def elenchusref16_stands.f : Nat → Int → List (S25) → Int → Option (Int)
  | 0, _, _, _ => none
  | k + 1, a0_0, l0_1, a1 => if a0_0 = a1 then (elenchusref16_stands.j0 k a1 1 a0_0 l0_1) else (elenchusref16_stands.j0 k a1 0 a0_0 l0_1)
end
set_option maxHeartbeats 8000000 in
set_option maxRecDepth 100000 in
theorem elenchusref16_stands.calls (k : Nat) : ∀ (a0_0 : Int) (A0_1 : Option Addr) (c0_1 : Nat) (l0_1 : List (S25)) (a1 : Int) (r : Int) (w : World) (hr0_1 : Kd.C k25 w A0_1 l0_1.length l0_1) (hc0_1 : l0_1.length ≤ c0_1) (h : elenchusref16_stands.f k a0_0 l0_1 a1 = some r),
    Calls Try.prog 124 #[.agg #[.int .i64 a0_0, .slice A0_1 l0_1.length c0_1], .int .i64 a1] w fun e w' => e = .returned (.int .i64 r) ∧ Below w.heap.size w w' := by
  induction k using Nat.strongRecOn with
  | _ k ih =>
  intro a0_0 A0_1 c0_1 l0_1 a1 r w hr0_1 hc0_1 h
  cases k with
  | zero => exact absurd h (by simp [elenchusref16_stands.f])
  | succ k =>
  simp only [elenchusref16_stands.f] at h
  have hu25 := Try.underlying25
  have HR0_1 := Aside0.mk hr0_1
  have HC0_1 := Aside0.mk hc0_1
  clear hr0_1 hc0_1
  have HB := Aside0.mk (Below.refl w.heap.size w)
  have H : (if a0_0 = a1 then (elenchusref16_stands.j0 k a1 1 a0_0 l0_1) else (elenchusref16_stands.j0 k a1 0 a0_0 l0_1)) = some r := h
  clear h
  have HC3 := Aside0.mk H
  clear H
  go_enter Try.func124, Try.ntmps124
  go_upto_if 10 with (first | ((with_reducible refine gate_dst (N := 2) rfl ?_); refine box_event ?hg (N := 2) ?hd (cs := #[.int .i64 a0_0, .slice A0_1 l0_1.length c0_1]) (t := 25) ?hr ?_; (case hd => rfl); (case hg => rfl); (case hr => first | (go_simp; done) | (go_simp; rfl)); intro gb662 hg w4 hbox hb; have n0_ := Aside0.mk (below_step (by repeat (first | (with_reducible first | exact HB.out | apply below_alloc | apply pw_below_drewN | apply below_drew1) | exact HB.out)) hb); have n1_ := Aside0.mk (hbox); have n2_ := Aside0.mk ((by rw [hg]; exact (below_size (by repeat (first | (with_reducible first | exact HB.out | apply below_alloc | apply pw_below_drewN | apply below_drew1) | exact HB.out))) : w.heap.size ≤ gb662)); have n3_ := Aside0.mk ((by rw [hg]; exact (below_size (by repeat (first | (with_reducible first | exact HB.out | apply below_alloc | apply pw_below_drewN | apply below_drew1) | exact HB.out))) : w.heap.size ≤ gb662)); clear HB; have HB := n0_; have BK662 := n1_; have GW662 := n2_; have GE662 := n3_; clear n0_ n1_ n2_ n3_; clear hb hbox hg; have hcz5_0 : w4.cell? ⟨gb662, 0, none⟩ = some (.int .i64 a0_0) := (blk_cell BK662.out 0).trans rfl; have hcz5_1 : w4.cell? ⟨gb662, 1, none⟩ = some (.slice A0_1 l0_1.length c0_1) := (blk_cell BK662.out 1).trans rfl; have hfz5_0 := blk_frozen BK662.out 0; have hfz5_1 := blk_frozen BK662.out 1))
  (try simp only [Act.put, List.setIfInBounds_toArray, List.set_cons_zero, List.set_cons_succ])
  go_cut [5] (fun v5 wc => ∃ (kq : Nat) (x5_2 : Int), v5 = .int .i64 x5_2 ∧ Aside0 (elenchusref16_stands.j0 kq a1 x5_2 a0_0 l0_1 = some r) ∧ Aside0 (kq ≤ k) ∧ Aside0 (wc.heap[gb662]? = some (.cells #[.int .i64 a0_0, (.slice A0_1 l0_1.length c0_1)] 25 (0, 0))) ∧ Aside0 (Below w.heap.size w wc))
  case first =>
    have H := HC3.out
    clear HC3
    by_cases c6 : a0_0 = a1
    · rw [if_pos c6] at H
      have c6b0 : (a0_0 == a1) = true := beq_iff_eq.mpr c6
      have c6b1 : (a0_0 != a1) = false := bne_eq_false_iff_eq.mpr c6
      clear c6
      (first | rw [c6b0] | (simp only [i64_w, i32_w]; rw [c6b0]) | skip)
      have H' := Aside0.mk H
      clear H
      go_wp2
      go_meet
      case rel => exact ⟨_, (1), (by first | rfl | (simp; done) | (simp [*]; done)), H', ⟨by first | omega | exact Nat.le_refl _⟩, ⟨by (with_reducible repeat (first | refine blk_drewN ?_ _ | refine blk_drew ?_ | refine blk_alloc ?_ _)); exact BK662.out⟩, ⟨by repeat (first | (with_reducible first | exact HB.out | apply below_alloc | apply pw_below_drewN | apply below_drew1 | refine below_set ?_ GE662.out) | exact HB.out)⟩⟩
    · rw [if_neg c6] at H
      have c6b0 : (a0_0 == a1) = false := beq_eq_false_iff_ne.mpr c6
      have c6b1 : (a0_0 != a1) = true := bne_iff_ne.mpr c6
      (first | rw [c6b0] | (simp only [i64_w, i32_w]; rw [c6b0]) | skip)
      have H' := Aside0.mk H
      clear H
      go_wp2
      go_meet
      case rel => exact ⟨_, (0), (by first | rfl | (simp; done) | (simp [*]; done)), H', ⟨by first | omega | exact Nat.le_refl _⟩, ⟨by (with_reducible repeat (first | refine blk_drewN ?_ _ | refine blk_drew ?_ | refine blk_alloc ?_ _)); exact BK662.out⟩, ⟨by repeat (first | (with_reducible first | exact HB.out | apply below_alloc | apply pw_below_drewN | apply below_drew1 | refine below_set ?_ GE662.out) | exact HB.out)⟩⟩
  case rest =>
    clear HC3
    try clear c1
    try clear p2
    try clear c6
    try clear c6b0
    try clear c6b1
    try clear hcz5_0
    try clear hcz5_1
    try clear hfz5_0
    try clear hfz5_1
    obtain ⟨kq, x5_2, rfl, HA, HJ2, BK662, HB⟩ := hcut
    cases kq with
    | zero => exact absurd HA.out (by simp [elenchusref16_stands.j0])
    | succ kj2 =>
      have H := HA.out
      clear HA
      simp only [elenchusref16_stands.j0] at H
      have H' := Aside0.mk H
      clear H
      go_wp2
      go_loopg [5, 6] kj2 (fun kq v5 v6 w' => ∃ (x5_2 : Int) (x6_2 : Int), v5 = .int .i64 x5_2 ∧ v6 = .int .i64 x6_2 ∧ Aside0 (elenchusref16_stands.l0 kq a1 x5_2 x6_2 a0_0 l0_1 = some r) ∧ Aside0 (kq ≤ kj2) ∧ Aside0 (w'.heap[gb662]? = some (.cells #[.int .i64 a0_0, (.slice A0_1 l0_1.length c0_1)] 25 (0, 0))) ∧ Aside0 (Below w.heap.size w w'))
      case atStart => exact ⟨(x5_2), (0), (by first | rfl | (simp; done) | (simp [*]; done)), (by first | rfl | (simp; done) | (simp [*]; done)), H', ⟨Nat.le_refl _⟩, ⟨by (with_reducible repeat (first | refine blk_drewN ?_ _ | refine blk_drew ?_ | refine blk_alloc ?_ _)); exact BK662.out⟩, ⟨by repeat (first | (with_reducible first | exact HB.out | apply below_alloc | apply pw_below_drewN | apply below_drew1 | refine below_set ?_ GE662.out) | exact HB.out)⟩⟩
      case round =>
        clear H'
        try clear c1
        try clear p2
        try clear c6
        try clear c6b0
        try clear c6b1
        try clear hcz5_0
        try clear hcz5_1
        try clear hfz5_0
        try clear hfz5_1
        try clear p2
        obtain ⟨x5_2, x6_2, rfl, rfl, HA, HK2, BK662, HB⟩ := hrel
        cases gk with
        | zero => exact absurd HA.out (by simp [elenchusref16_stands.l0])
        | succ k2 =>
          have H := HA.out
          clear HA
          simp only [elenchusref16_stands.l0] at H
          by_cases c7 : x6_2 < (l0_1.length : Int)
          · rw [if_pos c7] at H
            have c7b0 : decide (x6_2 < (l0_1.length : Int)) = true := decide_eq_true c7
            clear c7
            by_cases c8 : 0 ≤ x6_2
            · rw [if_pos c8] at H
              have c8b0 : decide (0 ≤ x6_2) = true := decide_eq_true c8
              clear c8
              replace H := Option.bind_eq_some_iff.mp H
              obtain ⟨t664, A90, H⟩ := H
              replace H : (elenchusref16_stands.l0 k2 a1 (wrap64 (x5_2 + t664)) (wrap64 (x6_2 + 1)) a0_0 l0_1) = some r := H
              have A9 := Aside0.mk A90
              clear A90
              have H' := Aside0.mk H
              clear H
              have hcz10_0 : wr.cell? ⟨gb662, 0, none⟩ = some (.int .i64 a0_0) := (blk_cell BK662.out 0).trans rfl
              have hcz10_1 : wr.cell? ⟨gb662, 1, none⟩ = some (.slice A0_1 l0_1.length c0_1) := (blk_cell BK662.out 1).trans rfl
              have hfz10_0 := blk_frozen BK662.out 0
              have hfz10_1 := blk_frozen BK662.out 1
              have p663 : 0 ≤ (x6_2 : Int) := of_decide_eq_true (by first | (with_reducible assumption) | assumption)
              have q663 : x6_2 < (l0_1.length : Int) := of_decide_eq_true (by first | (with_reducible assumption) | assumption)
              obtain ⟨ad663, A663_1, c663_1, e663, hx663_0, hx663_1, hl663_1, hi663_1⟩ := at_T25 HR0_1.out x6_2 p663 q663
              cases e663
              replace hx663_0 := (HB.out.cell (World.block_lt_of_cell? w _ hx663_0)).trans hx663_0
              replace hx663_1 := (HB.out.cell (World.block_lt_of_cell? w _ hx663_1)).trans hx663_1
              have HR663_1 := Aside0.mk hi663_1
              have HC663_1 := Aside0.mk hl663_1
              clear hi663_1 hl663_1
              replace p663 := eq_true p663
              replace q663 := eq_true q663
              go_wp2_with (first | ((with_reducible refine gate_callee (f := 124) rfl ?_); refine goesL_ (some 25) rfl rfl Try.func124 (by kernel_rfl) rfl #[.agg #[.int .i64 ((rd_T25 l0_1 x6_2).f0), .slice A663_1 ((rd_T25 l0_1 x6_2).f1).length c663_1], .int .i64 a1] rfl (by (try simp only [List.map_toArray, List.map_cons, List.map_nil]); first | done | rfl | (simp only [List.length_drop, List.length_take]; rfl)) ?_; (with_reducible refine (ih k2 (by have := HJ2.out; have := HK2.out; omega) ((rd_T25 l0_1 x6_2).f0) _ _ ((rd_T25 l0_1 x6_2).f1) a1 t664 _ ?side1 ?side2 A9.out).mono ?_); (case side1 => repeat (first | exact (Kd.C_below HR663_1.out HB.out) | (with_reducible refine Kd.C_alloc ?_ _) | (with_reducible refine Kd.C_drewN ?_ _) | (with_reducible refine Kd.C_drew ?_))); (case side2 => exact HC663_1.out); rintro e w11 ⟨rfl, hb⟩; refine ⟨_, rfl, ?_⟩; have n0_ := Aside0.mk (blk_below (g := gb662) (o := .cells #[.int .i64 a0_0, .slice (some ad663) l0_1.length c0_1] 25 (0, 0)) (by (with_reducible repeat (first | refine blk_drewN ?_ _ | refine blk_drew ?_ | refine blk_alloc ?_ _)); exact BK662.out) hb); have n1_ := Aside0.mk (below_step (by repeat (first | (with_reducible first | exact HB.out | apply below_alloc | apply pw_below_drewN | apply below_drew1 | refine below_set ?_ GE662.out) | exact HB.out)) hb); clear BK662; clear HB; have BK662 := n0_; have HB := n1_; clear n0_ n1_; (try clear hb); (try clear hb2); (try clear hk); (try clear hi)))
              go_roundg k2
              case measure => have := HJ2.out; have := HK2.out; omega
              case rel => exact ⟨(wrap64 (x5_2 + t664)), (wrap64 (x6_2 + 1)), (by first | rfl | (simp; done) | (simp [*]; done)), (by first | rfl | (simp; done) | (simp [*]; done)), H', ⟨by have := HJ2.out; have := HK2.out; omega⟩, ⟨by (with_reducible repeat (first | refine blk_drewN ?_ _ | refine blk_drew ?_ | refine blk_alloc ?_ _)); exact BK662.out⟩, ⟨by repeat (first | (with_reducible first | exact HB.out | apply below_alloc | apply pw_below_drewN | apply below_drew1 | refine below_set ?_ GE662.out) | exact HB.out)⟩⟩
            · rw [if_neg c8] at H
              exact absurd H (by simp)
          · rw [if_neg c7] at H
            have c7b0 : decide (x6_2 < (l0_1.length : Int)) = false := decide_eq_false c7
            clear c7
            obtain rfl := Option.some.inj H
            have hcz12_0 : wr.cell? ⟨gb662, 0, none⟩ = some (.int .i64 a0_0) := (blk_cell BK662.out 0).trans rfl
            have hcz12_1 : wr.cell? ⟨gb662, 1, none⟩ = some (.slice A0_1 l0_1.length c0_1) := (blk_cell BK662.out 1).trans rfl
            have hfz12_0 := blk_frozen BK662.out 0
            have hfz12_1 := blk_frozen BK662.out 1
            go_wp2
            go_ret
            exact ⟨by first | rfl | (simp [errW_none, errW_some] <;> rfl) | (simp [*, errW_none, errW_some] <;> rfl), by repeat (first | (with_reducible first | exact HB.out | apply below_alloc | apply pw_below_drewN | apply below_drew1 | refine below_set ?_ GE662.out) | exact HB.out)⟩
end Go.Proofs.Ythplndalbfcbbaa.PA
namespace Go.Proofs.Ythplndalbfcbbaa.PA
open Go.RowKit Go.Proofs.YthplndalbfcbbaaW.PrintWords Go.Proofs.YthplndalbfcbbaaW.PrintLast Go.Proofs.YthplndalbfcbbaaW.PrintMore
attribute [local go_sem] max2_int min2_int max_two min_two max_three min_three max_four min_four   -- for this text's walks alone
set_option linter.unusedVariables false
set_option linter.unusedSimpArgs false
mutual
def elenchusref16_Of.l0 : Nat → List (S148) → List (S142) → List Int → Int → Option (List Int × Int)
  | 0, _, _, _, _ => none
  | k + 1, x0, x1, x7, x8 => if x8 < (x1.length : Int) then (if 0 ≤ x8 then (if (rd_T142 x1 x8).f0 = true then (elenchusref16_Of.j1 k x0 x1 x7 x8 1) else (elenchusref16_Of.j1 k x0 x1 x7 x8 0)) else (none)) else (some (x7, 0))
def elenchusref16_Of.j1 : Nat → List (S148) → List (S142) → List Int → Int → Int → Option (List Int × Int)
  | 0, _, _, _, _, _ => none
  | k + 1, x0, x1, x7, x8, x9 => if 0 ≤ x9 then (if x9 < (x7.length : Int) then (elenchusref16_Of.l1 k x0 x1 (x7.set (x9 : Int).toNat (wrap64 ((rd x7 x9) + 1))) x8 x9 0) else (none)) else (none)
def elenchusref16_Of.l1 : Nat → List (S148) → List (S142) → List Int → Int → Int → Int → Option (List Int × Int)
  | 0, _, _, _, _, _, _ => none
  | k + 1, x0, x1, x7, x8, x9, x10 => if x10 < (x0.length : Int) then (if 0 ≤ (wrap64 ((wrap64 (2 + (wrap64 (2 * x10)))) + x9)) then (if (wrap64 ((wrap64 (2 + (wrap64 (2 * x10)))) + x9)) < (x7.length : Int) then (if 0 ≤ x8 then (if x8 < (x1.length : Int) then ((elenchusref16_stands.f k ((rd_T142 x1 x8).f1.f0) ((rd_T142 x1 x8).f1.f1) x10).bind fun t674 => ((elenchusref16_stands.f k ((rd_T142 x1 x8).f2.f0) ((rd_T142 x1 x8).f2.f1) x10).bind fun t676 => (elenchusref16_Of.l1 k x0 x1 (x7.set ((wrap64 ((wrap64 (2 + (wrap64 (2 * x10)))) + x9)) : Int).toNat (wrap64 ((wrap64 ((rd x7 (wrap64 ((wrap64 (2 + (wrap64 (2 * x10)))) + x9))) + t674)) + t676))) x8 x9 (wrap64 (x10 + 1))))) else (none)) else (none)) else (none)) else (none)) else (elenchusref16_Of.l0 k x0 x1 x7 (wrap64 (x8 + 1)))
end
def elenchusref16_Of.f (k : Nat) (l0 : List (S148)) (l1 : List (S142)) : Option (List Int × Int) := (elenchusref10_Check.f k l0 l1).bind fun t665 => (if t665 = 0 then (if 0 ≤ (wrap64 (2 + (wrap64 (2 * (l0.length : Int))))) then (if (wrap64 (2 + (wrap64 (2 * (l0.length : Int)))) : Int).toNat ≤ 35184372088832 then (elenchusref16_Of.l0 k l0 l1 (List.replicate (wrap64 (2 + (wrap64 (2 * (l0.length : Int)))) : Int).toNat 0) 0) else (none)) else (none)) else (some (([] : List Int), t665)))
def elenchusref16_Of.T15 : Bool × List (List Nat × List Nat) := (true, [([], []), ([], []), ([1], [1]), ([2], [2]), ([], []), ([3, 4], [3, 4]), ([], []), ([], []), ([7], [7]), ([8], [8]), ([], []), ([9, 10], [9, 10]), ([6, 11], [6, 11]), ([12], [12]), ([], []), ([], []), ([14, 15], [14, 15]), ([16], [16]), ([17], [17]), ([], []), ([18, 19], [18, 19]), ([13, 20], [13, 20]), ([], []), ([], []), ([22, 23], [22, 23]), ([24], [24]), ([25], [25]), ([], []), ([26, 27, 20], [26, 27]), ([21, 28], [21, 28]), ([0, 5, 0, 1, 2, 3, 4, 5, 6, 7, 8, 9, 10, 11, 12, 13, 14, 15, 16, 17, 18, 19, 20, 21, 22, 23, 24, 25, 26, 27, 28, 29], [0, 5]), ([30, 29, 28, 0, 1, 2, 3, 4, 5, 6, 7, 8, 9, 10, 11, 12, 13, 14, 15, 16, 17, 18, 19, 20, 21, 22, 23, 24, 25, 26, 27, 28, 29], [29, 30])])
def elenchusref16_Of.B15 : List Nat := [0, 0, 2, 6, 0, 30, 0, 0, 128, 384, 0, 1920, 4032, 8128, 0, 0, 49152, 114688, 245760, 0, 1032192, 2097088, 0, 0, 12582912, 29360128, 62914560, 0, 266321920, 536870848, 1073741823, 2147483647]
theorem elenchusref16_Of.tab15 : rtab .any (opsOf Try.f62 15) = elenchusref16_Of.T15 := by kernel_rfl
theorem elenchusref16_Of.bits15 : waitsOk elenchusref16_Of.T15.2 elenchusref16_Of.B15 = true := by kernel_rfl
set_option maxHeartbeats 8000000 in
set_option maxRecDepth 100000 in
theorem elenchusref16_Of.calls (k : Nat) (A0 : Option Addr) (c0 : Nat) (l0 : List (S148)) (A1 : Option Addr) (c1 : Nat) (l1 : List (S142)) (r1 : List Int) (r2 : Int) (w : World) (hr0 : Kd.C k148 w A0 l0.length l0) (hc0 : l0.length ≤ c0) (hr1 : Kd.C k142 w A1 l1.length l1) (hc1 : l1.length ≤ c1) (h : elenchusref16_Of.f k l0 l1 = some (r1, r2)) :
    Calls Try.prog 62 #[.slice A0 l0.length c0, .slice A1 l1.length c1] w fun e w' => ∃ v0_ : Value, e = .returned (.tuple #[v0_, .int .i64 r2]) ∧ Kd.R (Kd.int .i64) 3 w' w.heap.size (fun _ => True) v0_ r1 ∧ Below w.heap.size w w' := by
  have hu25 := Try.underlying25
  have HR0 := Aside0.mk hr0
  have HC0 := Aside0.mk hc0
  clear hr0 hc0
  have HR1 := Aside0.mk hr1
  have HC1 := Aside0.mk hc1
  clear hr1 hc1
  have HB := Aside0.mk (Below.refl w.heap.size w)
  have H : ((elenchusref10_Check.f k l0 l1).bind fun t665 => (if t665 = 0 then (if 0 ≤ (wrap64 (2 + (wrap64 (2 * (l0.length : Int))))) then (if (wrap64 (2 + (wrap64 (2 * (l0.length : Int)))) : Int).toNat ≤ 35184372088832 then (elenchusref16_Of.l0 k l0 l1 (List.replicate (wrap64 (2 + (wrap64 (2 * (l0.length : Int)))) : Int).toNat 0) 0) else (none)) else (none)) else (some (([] : List Int), t665)))) = some (r1, r2) := h
  clear h
  replace H := Option.bind_eq_some_iff.mp H
  obtain ⟨t665, A30, H⟩ := H
  replace H : (if t665 = 0 then (if 0 ≤ (wrap64 (2 + (wrap64 (2 * (l0.length : Int))))) then (if (wrap64 (2 + (wrap64 (2 * (l0.length : Int)))) : Int).toNat ≤ 35184372088832 then (elenchusref16_Of.l0 k l0 l1 (List.replicate (wrap64 (2 + (wrap64 (2 * (l0.length : Int)))) : Int).toNat 0) 0) else (none)) else (none)) else (some (([] : List Int), t665))) = some (r1, r2) := H
  have A3 := Aside0.mk A30
  clear A30
  by_cases c4 : t665 = 0
  · rw [if_pos c4] at H
    have c4b0 : (t665 == 0) = true := beq_iff_eq.mpr c4
    have c4b1 : (t665 != 0) = false := bne_eq_false_iff_eq.mpr c4
    clear c4
    obtain ⟨ji5, hji5⟩ : ∃ j_ : Int, (wrap64 (2 + (wrap64 (2 * (l0.length : Int))))) = j_ := ⟨_, rfl⟩
    replace H : (if 0 ≤ (ji5) then (if (ji5 : Int).toNat ≤ 35184372088832 then (elenchusref16_Of.l0 k l0 l1 (List.replicate (ji5 : Int).toNat 0) 0) else (none)) else (none)) = some (r1, r2) := by first | (rw [hji5] at H; exact H) | (simp only [hji5] at H ⊢; exact H)
    (try rw [hji5] at A3)
    have hji5w : (IntKind.i64.wrap (2 + (wrap64 (2 * (l0.length : Int))))) = ji5 := (i64_w _).trans hji5
    by_cases c6 : 0 ≤ (ji5)
    · rw [if_pos c6] at H
      have c6b0 := eq_true c6
      have c6b1 : decide (0 ≤ (ji5)) = true := decide_eq_true c6
      clear c6
      by_cases c7 : (ji5 : Int).toNat ≤ 35184372088832
      · rw [if_pos c7] at H
        have c7b0 := eq_true c7
        have c7b1 : decide ((ji5 : Int).toNat ≤ 35184372088832) = true := decide_eq_true c7
        clear c7
        obtain ⟨y666, hy666⟩ : ∃ y_ : List Int, y_ = (List.replicate (ji5 : Int).toNat 0) := ⟨_, rfl⟩
        replace H : (elenchusref16_Of.l0 k l0 l1 y666 0) = some (r1, r2) := by first | (rw [hy666]; with_reducible exact H) | (have H2_ := (Option.bind_some _ _).symm.trans H; rw [hy666]; with_reducible exact H2_) | (have H2_ := (Option.bind_some _ _).symm.trans H; with_reducible exact H2_) | with_reducible exact H | (rw [hy666]; exact H) | exact H
        have Ny666 := Aside0.mk hy666
        clear hy666
        have H' := Aside0.mk H
        clear H
        go_enter Try.func62, Try.ntmps62
        go_wp2_with (first | ((with_reducible refine gate_callee (f := 123) rfl ?_); refine goesL_ (some 13) rfl rfl Try.func123 (by kernel_rfl) rfl #[.slice A0 l0.length c0, .slice A1 l1.length c1] rfl (by (try simp only [List.map_toArray, List.map_cons, List.map_nil]); first | done | rfl | (simp only [List.length_drop, List.length_take]; rfl)) ?_; (with_reducible refine (elenchusref10_Check.calls k _ _ l0 _ _ l1 t665 _ ?side1 ?side2 ?side3 ?side4 A3.out).mono ?_); (case side1 => repeat (first | exact HR0.out | (with_reducible refine Kd.C_alloc ?_ _) | (with_reducible refine Kd.C_drewN ?_ _) | (with_reducible refine Kd.C_drew ?_))); (case side2 => exact HC0.out); (case side3 => repeat (first | exact HR1.out | (with_reducible refine Kd.C_alloc ?_ _) | (with_reducible refine Kd.C_drewN ?_ _) | (with_reducible refine Kd.C_drew ?_))); (case side4 => exact HC1.out); rintro e w8 ⟨rfl, hb⟩; refine ⟨_, rfl, ?_⟩; have n0_ := Aside0.mk (below_step (by repeat (first | (with_reducible first | exact HB.out | apply below_alloc | apply pw_below_drewN | apply below_drew1) | exact HB.out)) hb); clear HB; have HB := n0_; clear n0_; (try clear hb); (try clear hb2); (try clear hk); (try clear hi)) | ((with_reducible refine gate_dst (N := 21) rfl ?_); refine Kd.R_make (Kd.int .i64) _ 3 rfl (N := 21) rfl 37 _ _ rfl ji5 rfl rfl Try.underlying37 (.int .i64 0) 8 info3 rfl (by decide) (by omega) 0 (ok := fun _ => True) (okp := fun _ => True) rfl (fun _ hk => hk) trivial (of_decide_eq_true (by first | (with_reducible assumption) | assumption)) (Nat.le_trans (Nat.mul_le_mul_right _ (of_decide_eq_true (by first | (with_reducible assumption) | assumption) : ji5.toNat ≤ 35184372088832)) (by omega)) (Below.refl _ _) (Nat.le_refl _) ?_; intro v667 w9 ho10 hb hg_ hnew_; clear hg_ hnew_; (first | rw [← Ny666.out] at ho10 | (simp only [Int.reduceToNat] at ho10; rw [← Ny666.out] at ho10)); have n0_ := Aside0.mk (Kd.R_lower ho10 (below_size (by repeat (first | (with_reducible first | exact HB.out | apply below_alloc | apply pw_below_drewN | apply below_drew1) | exact HB.out)))); have n1_ := Aside0.mk (below_step (by repeat (first | (with_reducible first | exact HB.out | apply below_alloc | apply pw_below_drewN | apply below_drew1) | exact HB.out)) hb); clear HB; have HO668 := n0_; have HB := n1_; clear n0_ n1_; clear hb ho10))
        go_loopg [8] k (fun kq v8 w' => ∃ (x7_1 : List Int) (x8_1 : Int), v8 = .int .i64 x8_1 ∧ Aside0 (elenchusref16_Of.l0 kq l0 l1 x7_1 x8_1 = some (r1, r2)) ∧ Aside0 (kq ≤ k) ∧ Aside0 (Kd.R (Kd.int .i64) 3 w' w.heap.size (fun _ => True) v667 x7_1) ∧ Aside0 (Below w.heap.size w w'))
        case atStart => exact ⟨(y666), (0), (by first | rfl | (simp; done) | (simp [*]; done)), H', ⟨Nat.le_refl _⟩, ⟨by (with_reducible repeat (first | apply Kd.R_alloc | apply Kd.R_drewN | apply Kd.R_drew)); exact HO668.out⟩, ⟨by repeat (first | (with_reducible first | exact HB.out | apply below_alloc | apply pw_below_drewN | apply below_drew1) | exact HB.out)⟩⟩
        case round =>
          clear H'
          try clear c1
          try clear p2
          try clear c4
          try clear c4b0
          try clear c4b1
          try clear c6
          try clear c6b0
          try clear c6b1
          try clear p6
          try clear c7
          try clear c7b0
          try clear c7b1
          obtain ⟨x7_1, x8_1, rfl, HA, HK1, HO_7, HB⟩ := hrel
          cases gk with
          | zero => exact absurd HA.out (by simp [elenchusref16_Of.l0])
          | succ k1 =>
            have H := HA.out
            clear HA
            simp only [elenchusref16_Of.l0] at H
            by_cases c11 : x8_1 < (l1.length : Int)
            · rw [if_pos c11] at H
              have c11b0 : decide (x8_1 < (l1.length : Int)) = true := decide_eq_true c11
              clear c11
              by_cases c12 : 0 ≤ x8_1
              · rw [if_pos c12] at H
                have c12b0 : decide (0 ≤ x8_1) = true := decide_eq_true c12
                clear c12
                have HC13 := Aside0.mk H
                clear H
                have p669 : 0 ≤ (x8_1 : Int) := of_decide_eq_true (by first | (with_reducible assumption) | assumption)
                have q669 : x8_1 < (l1.length : Int) := of_decide_eq_true (by first | (with_reducible assumption) | assumption)
                obtain ⟨ad669, A669_2, c669_2, A669_4, c669_4, e669, hx669_0, hx669_1, hx669_2, hx669_3, hx669_4, hl669_2, hi669_2, hl669_4, hi669_4⟩ := at_T142 HR1.out x8_1 p669 q669
                cases e669
                replace hx669_0 := (HB.out.cell (World.block_lt_of_cell? w _ hx669_0)).trans hx669_0
                replace hx669_1 := (HB.out.cell (World.block_lt_of_cell? w _ hx669_1)).trans hx669_1
                replace hx669_2 := (HB.out.cell (World.block_lt_of_cell? w _ hx669_2)).trans hx669_2
                replace hx669_3 := (HB.out.cell (World.block_lt_of_cell? w _ hx669_3)).trans hx669_3
                replace hx669_4 := (HB.out.cell (World.block_lt_of_cell? w _ hx669_4)).trans hx669_4
                have HR669_2 := Aside0.mk hi669_2
                have HC669_2 := Aside0.mk hl669_2
                clear hi669_2 hl669_2
                have HR669_4 := Aside0.mk hi669_4
                have HC669_4 := Aside0.mk hl669_4
                clear hi669_4 hl669_4
                replace p669 := eq_true p669
                replace q669 := eq_true q669
                go_upto_if 32 with (fail)
                go_cut [9] (fun v9 wc => ∃ (kq : Nat) (x9_12 : Int), v9 = .int .i64 x9_12 ∧ Aside0 (elenchusref16_Of.j1 kq l0 l1 x7_1 x8_1 x9_12 = some (r1, r2)) ∧ Aside0 (kq ≤ k1) ∧ Aside0 (Kd.R (Kd.int .i64) 3 wc w.heap.size (fun _ => True) v667 x7_1) ∧ Aside0 (Below w.heap.size w wc))
                case first =>
                  have H := HC13.out
                  clear HC13
                  obtain ⟨bq14, hbq14⟩ : ∃ b_ : Bool, b_ = ((rd_T142 l1 x8_1).f0) := ⟨_, rfl⟩
                  replace H : (if bq14 = true then (elenchusref16_Of.j1 k1 l0 l1 x7_1 x8_1 1) else (elenchusref16_Of.j1 k1 l0 l1 x7_1 x8_1 0)) = some (r1, r2) := by rw [← hbq14] at H; exact H
                  have Nbq14 := Aside0.mk hbq14
                  clear hbq14
                  (try rw [← Nbq14.out])
                  by_cases c15 : bq14 = true
                  · subst c15
                    have H1 : (elenchusref16_Of.j1 k1 l0 l1 x7_1 x8_1 1) = some (r1, r2) := by rw [if_pos rfl] at H; exact H
                    clear H
                    have H := H1
                    clear H1
                    have H' := Aside0.mk H
                    clear H
                    go_wp2
                    go_meet
                    case rel => exact ⟨_, (1), (by first | rfl | (simp; done) | (simp [*]; done)), H', ⟨by have := HK1.out; first | omega | exact Nat.le_refl _⟩, ⟨by (with_reducible repeat (first | apply Kd.R_alloc | apply Kd.R_drewN | apply Kd.R_drew)); exact HO_7.out⟩, ⟨by repeat (first | (with_reducible first | exact HB.out | apply below_alloc | apply pw_below_drewN | apply below_drew1) | exact HB.out)⟩⟩
                  · replace c15 := Bool.eq_false_iff.mpr c15
                    subst c15
                    have H1 : (elenchusref16_Of.j1 k1 l0 l1 x7_1 x8_1 0) = some (r1, r2) := by rw [if_neg (show ¬ (false = true) by decide)] at H; exact H
                    clear H
                    have H := H1
                    clear H1
                    have H' := Aside0.mk H
                    clear H
                    go_wp2
                    go_meet
                    case rel => exact ⟨_, (0), (by first | rfl | (simp; done) | (simp [*]; done)), H', ⟨by have := HK1.out; first | omega | exact Nat.le_refl _⟩, ⟨by (with_reducible repeat (first | apply Kd.R_alloc | apply Kd.R_drewN | apply Kd.R_drew)); exact HO_7.out⟩, ⟨by repeat (first | (with_reducible first | exact HB.out | apply below_alloc | apply pw_below_drewN | apply below_drew1) | exact HB.out)⟩⟩
                case rest =>
                  clear HC13
                  try clear c1
                  try clear q1
                  try clear p2
                  try clear c4
                  try clear c4b0
                  try clear c4b1
                  try clear c6
                  try clear c6b0
                  try clear c6b1
                  try clear p6
                  try clear q6
                  try clear hx6
                  try clear c7
                  try clear c7b0
                  try clear c7b1
                  try clear c11
                  try clear c11b0
                  try clear c12
                  try clear c12b0
                  try clear q14
                  try clear c15
                  try clear hx669_0
                  try clear hx669_1
                  try clear hx669_2
                  try clear hx669_3
                  try clear hx669_4
                  try clear p2
                  try clear p6
                  try clear p669
                  try clear q669
                  obtain ⟨kq, x9_12, rfl, HA, HJ12, HO_7, HB⟩ := hcut
                  cases kq with
                  | zero => exact absurd HA.out (by simp [elenchusref16_Of.j1])
                  | succ kj12 =>
                    have H := HA.out
                    clear HA
                    simp only [elenchusref16_Of.j1] at H
                    by_cases c16 : 0 ≤ x9_12
                    · rw [if_pos c16] at H
                      have c16b0 : decide (0 ≤ x9_12) = true := decide_eq_true c16
                      clear c16
                      by_cases c17 : x9_12 < (x7_1.length : Int)
                      · rw [if_pos c17] at H
                        have c17b0 : decide (x9_12 < (x7_1.length : Int)) = true := decide_eq_true c17
                        clear c17
                        obtain ⟨y671, hy671⟩ : ∃ y_ : List Int, y_ = (x7_1.set (x9_12 : Int).toNat (wrap64 ((rd x7_1 x9_12) + 1))) := ⟨_, rfl⟩
                        replace H : (elenchusref16_Of.l1 kj12 l0 l1 y671 x8_1 x9_12 0) = some (r1, r2) := by first | (rw [hy671]; with_reducible exact H) | (have H2_ := (Option.bind_some _ _).symm.trans H; rw [hy671]; with_reducible exact H2_) | (have H2_ := (Option.bind_some _ _).symm.trans H; with_reducible exact H2_) | with_reducible exact H | (rw [hy671]; exact H) | exact H
                        have Ny671 := Aside0.mk hy671
                        clear hy671
                        have H' := Aside0.mk H
                        clear H
                        obtain ⟨Ao19, co19, eo19⟩ := Kd.R_slice HO_7.out
                        subst eo19
                        have p670 : 0 ≤ (x9_12 : Int) := of_decide_eq_true (by first | (with_reducible assumption) | assumption)
                        have q670 : x9_12 < (x7_1.length : Int) := of_decide_eq_true (by first | (with_reducible assumption) | assumption)
                        obtain ⟨ad670, e670, hx670_0⟩ := Kd.at_int (Kd.R_reads' HO_7.out).2.2 x9_12 p670 q670
                        cases e670
                        replace p670 := eq_true p670
                        replace q670 := eq_true q670
                        have p18 : 0 ≤ (x9_12 : Int) := of_decide_eq_true (by first | (with_reducible assumption) | assumption)
                        have q18 : (x9_12 : Int) < ((x7_1.length : Int) : Int) := of_decide_eq_true (by first | (with_reducible assumption) | assumption)
                        obtain ⟨go18, co18, eo18, gb18, gl18, cl18, HG18⟩ := Kd.R_form HO_7.out (by omega)
                        (first | cases eo18 | (injection eo18 with ea_ en_ ec_; (first | subst ea_ | (injection ea_ with ea_; subst ea_)); subst ec_; clear en_))
                        have GB18 := Aside0.mk gb18
                        have GG18 := Aside0.mk HG18
                        clear gb18 gl18 HG18
                        (first | simp only [add_plain] at hx670_0 | skip)
                        obtain ⟨hx18_0, hf18_0⟩ := Kd.R_celln 0 HO_7.out (x9_12 : Int) p18 q18
                        replace p18 := eq_true p18
                        replace q18 := eq_true q18
                        have HP20 := Kd.R_putg HO_7.out (x9_12 : Int) (wrap64 ((rd x7_1 x9_12) + 1))
                        go_wp2_with (first | ((with_reducible refine gate_store (t := 3) (p := 40) rfl ?_); refine store_event (t := 3) (p := 40) (v := ?vo_w21) (w1 := (wc.setCell ⟨go18, (x9_12 : Int).toNat, none⟩ (.int .i64 (wrap64 ((rd x7_1 x9_12) + 1))))) ?hg ?ho ?hn ?hr ?_; (case ho => rfl); (case hg => rfl); (case hn => rfl); (case hr => first | (go_simp; done) | (go_simp; rfl)); intro w21 hw; have hg : wc.grownBy w21 (some go18) := (by rw [hw]; exact HP20.2); have hp_ : Kd.R (Kd.int .i64) 3 w21 w.heap.size (fun _ => True) (.slice (some ⟨go18, 0, none⟩) x7_1.length co19) y671 := (by rw [hw, Ny671.out]; exact HP20.1); clear HP20; have n0_ := Aside0.mk (hp_); have n1_ := Aside0.mk ((by rw [hw]; exact below_set (HB.out) GB18.out : Below w.heap.size w w21)); clear HO_7; clear HB; have HO_7 := n0_; have HB := n1_; clear n0_ n1_; clear hg hw hp_))
                        go_loopg [10] kj12 (fun kq v10 w' => ∃ (x7_3 : List Int) (x10_3 : Int), v10 = .int .i64 x10_3 ∧ Aside0 (elenchusref16_Of.l1 kq l0 l1 x7_3 x8_1 x9_12 x10_3 = some (r1, r2)) ∧ Aside0 (kq ≤ kj12) ∧ Aside0 (Kd.R (Kd.int .i64) 3 w' w.heap.size (fun _ => True) (.slice (some ⟨go18, 0, none⟩) x7_1.length co19) x7_3) ∧ Aside0 (Below w.heap.size w w'))
                        case atStart => exact ⟨(y671), (0), (by first | rfl | (simp; done) | (simp [*]; done)), H', ⟨Nat.le_refl _⟩, ⟨by (with_reducible repeat (first | apply Kd.R_alloc | apply Kd.R_drewN | apply Kd.R_drew)); exact HO_7.out⟩, ⟨by repeat (first | (with_reducible first | exact HB.out | apply below_alloc | apply pw_below_drewN | apply below_drew1) | exact HB.out)⟩⟩
                        case round =>
                          clear H'
                          try clear c1
                          try clear p1
                          try clear q1
                          try clear hx1
                          try clear p2
                          try clear c4
                          try clear c4b0
                          try clear c4b1
                          try clear c6
                          try clear c6b0
                          try clear c6b1
                          try clear p6
                          try clear q6
                          try clear hx6
                          try clear c7
                          try clear c7b0
                          try clear c7b1
                          try clear c11
                          try clear c11b0
                          try clear c12
                          try clear c12b0
                          try clear q14
                          try clear c15
                          try clear c16
                          try clear c16b0
                          try clear c17
                          try clear c17b0
                          try clear p18
                          try clear q18
                          try clear hx18
                          try clear hf18
                          try clear hx18_0
                          try clear hx669_0
                          try clear hx669_1
                          try clear hx669_2
                          try clear hx669_3
                          try clear hx669_4
                          try clear hx670_0
                          try clear p18
                          try clear p2
                          try clear p6
                          try clear p669
                          try clear p670
                          try clear q1
                          try clear q14
                          try clear q18
                          try clear q6
                          try clear q669
                          try clear q670
                          obtain ⟨x7_3, x10_3, rfl, HA, HK3, HO_7, HB⟩ := hrel
                          have hl7_3 := (Kd.R_reads' HO_7.out).1
                          rw [hl7_3] at HO_7
                          (try simp only [hl7_3])
                          cases gk with
                          | zero => exact absurd HA.out (by simp [elenchusref16_Of.l1])
                          | succ k3 =>
                            have H := HA.out
                            clear HA
                            simp only [elenchusref16_Of.l1] at H
                            by_cases c22 : x10_3 < (l0.length : Int)
                            · rw [if_pos c22] at H
                              have c22b0 : decide (x10_3 < (l0.length : Int)) = true := decide_eq_true c22
                              clear c22
                              obtain ⟨ji23, hji23⟩ : ∃ j_ : Int, (wrap64 ((wrap64 (2 + (wrap64 (2 * x10_3)))) + x9_12)) = j_ := ⟨_, rfl⟩
                              replace H : (if 0 ≤ (ji23) then (if (ji23) < (x7_3.length : Int) then (if 0 ≤ x8_1 then (if x8_1 < (l1.length : Int) then ((elenchusref16_stands.f k3 ((rd_T142 l1 x8_1).f1.f0) ((rd_T142 l1 x8_1).f1.f1) x10_3).bind fun t674 => ((elenchusref16_stands.f k3 ((rd_T142 l1 x8_1).f2.f0) ((rd_T142 l1 x8_1).f2.f1) x10_3).bind fun t676 => (elenchusref16_Of.l1 k3 l0 l1 (x7_3.set ((ji23) : Int).toNat (wrap64 ((wrap64 ((rd x7_3 (ji23)) + t674)) + t676))) x8_1 x9_12 (wrap64 (x10_3 + 1))))) else (none)) else (none)) else (none)) else (none)) = some (r1, r2) := by first | (rw [hji23] at H; exact H) | (simp only [hji23] at H ⊢; exact H)
                              have hji23w : (IntKind.i64.wrap ((wrap64 (2 + (wrap64 (2 * x10_3)))) + x9_12)) = ji23 := (i64_w _).trans hji23
                              by_cases c24 : 0 ≤ (ji23)
                              · rw [if_pos c24] at H
                                have c24b0 : decide (0 ≤ (ji23)) = true := decide_eq_true c24
                                clear c24
                                by_cases c25 : (ji23) < (x7_3.length : Int)
                                · rw [if_pos c25] at H
                                  have c25b0 : decide ((ji23) < (x7_3.length : Int)) = true := decide_eq_true c25
                                  clear c25
                                  by_cases c26 : 0 ≤ x8_1
                                  · rw [if_pos c26] at H
                                    have c26b0 : decide (0 ≤ x8_1) = true := decide_eq_true c26
                                    clear c26
                                    by_cases c27 : x8_1 < (l1.length : Int)
                                    · rw [if_pos c27] at H
                                      have c27b0 : decide (x8_1 < (l1.length : Int)) = true := decide_eq_true c27
                                      clear c27
                                      replace H := Option.bind_eq_some_iff.mp H
                                      obtain ⟨t674, A280, H⟩ := H
                                      replace H : ((elenchusref16_stands.f k3 ((rd_T142 l1 x8_1).f2.f0) ((rd_T142 l1 x8_1).f2.f1) x10_3).bind fun t676 => (elenchusref16_Of.l1 k3 l0 l1 (x7_3.set ((ji23) : Int).toNat (wrap64 ((wrap64 ((rd x7_3 (ji23)) + t674)) + t676))) x8_1 x9_12 (wrap64 (x10_3 + 1)))) = some (r1, r2) := H
                                      have A28 := Aside0.mk A280
                                      clear A280
                                      replace H := Option.bind_eq_some_iff.mp H
                                      obtain ⟨t676, A290, H⟩ := H
                                      replace H : (elenchusref16_Of.l1 k3 l0 l1 (x7_3.set ((ji23) : Int).toNat (wrap64 ((wrap64 ((rd x7_3 (ji23)) + t674)) + t676))) x8_1 x9_12 (wrap64 (x10_3 + 1))) = some (r1, r2) := H
                                      have A29 := Aside0.mk A290
                                      clear A290
                                      obtain ⟨y677, hy677⟩ : ∃ y_ : List Int, y_ = (x7_3.set ((ji23) : Int).toNat (wrap64 ((wrap64 ((rd x7_3 (ji23)) + t674)) + t676))) := ⟨_, rfl⟩
                                      replace H : (elenchusref16_Of.l1 k3 l0 l1 y677 x8_1 x9_12 (wrap64 (x10_3 + 1))) = some (r1, r2) := by first | (rw [hy677]; with_reducible exact H) | (have H2_ := (Option.bind_some _ _).symm.trans H; rw [hy677]; with_reducible exact H2_) | (have H2_ := (Option.bind_some _ _).symm.trans H; with_reducible exact H2_) | with_reducible exact H | (rw [hy677]; exact H) | exact H
                                      have Ny677 := Aside0.mk hy677
                                      clear hy677
                                      have H' := Aside0.mk H
                                      clear H
                                      try go_wp2
                                      have n0_ := Aside0.mk (Kd.R_drew HO_7.out)
                                      have n1_ := Aside0.mk (below_drew1 HB.out)
                                      clear HO_7
                                      clear HB
                                      have HO_7 := n0_
                                      have HB := n1_
                                      clear n0_ n1_
                                      have p672 : 0 ≤ ((ji23) : Int) := of_decide_eq_true (by first | (with_reducible assumption) | assumption)
                                      have q672 : (ji23) < (x7_3.length : Int) := of_decide_eq_true (by first | (with_reducible assumption) | assumption)
                                      obtain ⟨ad672, e672, hx672_0⟩ := Kd.at_int (Kd.R_reads' HO_7.out).2.2 (ji23) p672 q672
                                      obtain rfl : (⟨go18, 0, none⟩ : Addr) = ad672 := (by injection e672)
                                      (first | simp only [add_plain] at hx672_0 | simp only [add_at] at hx672_0 | simp only [Addr.add, Nat.zero_add] at hx672_0 | skip)
                                      replace p672 := eq_true p672
                                      replace q672 := eq_true q672
                                      have p673 : 0 ≤ (x8_1 : Int) := of_decide_eq_true (by first | (with_reducible assumption) | assumption)
                                      have q673 : x8_1 < (l1.length : Int) := of_decide_eq_true (by first | (with_reducible assumption) | assumption)
                                      obtain ⟨ad673, A673_2, c673_2, A673_4, c673_4, e673, hx673_0, hx673_1, hx673_2, hx673_3, hx673_4, hl673_2, hi673_2, hl673_4, hi673_4⟩ := at_T142 HR1.out x8_1 p673 q673
                                      have hw673_4 := hx673_4
                                      have hw673_3 := hx673_3
                                      have hw673_2 := hx673_2
                                      have hw673_1 := hx673_1
                                      have hw673_0 := hx673_0
                                      obtain rfl : ad669 = ad673 := (by injection e673)
                                      replace hx673_0 := (HB.out.cell (World.block_lt_of_cell? w _ hx673_0)).trans hx673_0
                                      replace hx673_1 := (HB.out.cell (World.block_lt_of_cell? w _ hx673_1)).trans hx673_1
                                      replace hx673_2 := (HB.out.cell (World.block_lt_of_cell? w _ hx673_2)).trans hx673_2
                                      replace hx673_3 := (HB.out.cell (World.block_lt_of_cell? w _ hx673_3)).trans hx673_3
                                      replace hx673_4 := (HB.out.cell (World.block_lt_of_cell? w _ hx673_4)).trans hx673_4
                                      have HR673_2 := Aside0.mk hi673_2
                                      have HC673_2 := Aside0.mk hl673_2
                                      clear hi673_2 hl673_2
                                      have HR673_4 := Aside0.mk hi673_4
                                      have HC673_4 := Aside0.mk hl673_4
                                      clear hi673_4 hl673_4
                                      replace p673 := eq_true p673
                                      replace q673 := eq_true q673
                                      have p675 : 0 ≤ (x8_1 : Int) := of_decide_eq_true (by first | (with_reducible assumption) | assumption)
                                      have q675 : x8_1 < (l1.length : Int) := of_decide_eq_true (by first | (with_reducible assumption) | assumption)
                                      obtain ⟨ad675, A675_2, c675_2, A675_4, c675_4, e675, hx675_0, hx675_1, hx675_2, hx675_3, hx675_4, hl675_2, hi675_2, hl675_4, hi675_4⟩ := at_T142 HR1.out x8_1 p675 q675
                                      have hw675_4 := hx675_4
                                      have hw675_3 := hx675_3
                                      have hw675_2 := hx675_2
                                      have hw675_1 := hx675_1
                                      have hw675_0 := hx675_0
                                      obtain rfl : ad669 = ad675 := (by injection e675)
                                      replace hx675_0 := (HB.out.cell (World.block_lt_of_cell? w _ hx675_0)).trans hx675_0
                                      replace hx675_1 := (HB.out.cell (World.block_lt_of_cell? w _ hx675_1)).trans hx675_1
                                      replace hx675_2 := (HB.out.cell (World.block_lt_of_cell? w _ hx675_2)).trans hx675_2
                                      replace hx675_3 := (HB.out.cell (World.block_lt_of_cell? w _ hx675_3)).trans hx675_3
                                      replace hx675_4 := (HB.out.cell (World.block_lt_of_cell? w _ hx675_4)).trans hx675_4
                                      have HR675_2 := Aside0.mk hi675_2
                                      have HC675_2 := Aside0.mk hl675_2
                                      clear hi675_2 hl675_2
                                      have HR675_4 := Aside0.mk hi675_4
                                      have HC675_4 := Aside0.mk hl675_4
                                      clear hi675_4 hl675_4
                                      replace p675 := eq_true p675
                                      replace q675 := eq_true q675
                                      have ea_ := Option.some.inj (hx673_2.symm.trans hx675_2)
                                      injection ea_ with ea_ en_ ec_
                                      subst ea_
                                      subst ec_
                                      clear en_
                                      have ea_ := Option.some.inj (hx673_4.symm.trans hx675_4)
                                      injection ea_ with ea_ en_ ec_
                                      subst ea_
                                      subst ec_
                                      clear en_
                                      refine start_ (n := 32) (S := fun w' => w'.cell? ⟨go18, ((ji23)).toNat, none⟩ = some (.int .i64 (rd x7_3 (ji23))) ∧ w'.cell? (ad669.add ((x8_1).toNat * 5)) = some (.bool ((rd_T142 l1 x8_1).f0)) ∧ w'.cell? ⟨(ad669.add ((x8_1).toNat * 5)).block, (ad669.add ((x8_1).toNat * 5)).off + 1, none⟩ = some (.int .i64 ((rd_T142 l1 x8_1).f1.f0)) ∧ w'.cell? ⟨(ad669.add ((x8_1).toNat * 5)).block, (ad669.add ((x8_1).toNat * 5)).off + 2, none⟩ = some (.slice A673_2 ((rd_T142 l1 x8_1).f1.f1).length c673_2) ∧ w'.cell? ⟨(ad669.add ((x8_1).toNat * 5)).block, (ad669.add ((x8_1).toNat * 5)).off + 3, none⟩ = some (.int .i64 ((rd_T142 l1 x8_1).f2.f0)) ∧ w'.cell? ⟨(ad669.add ((x8_1).toNat * 5)).block, (ad669.add ((x8_1).toNat * 5)).off + 4, none⟩ = some (.slice A673_4 ((rd_T142 l1 x8_1).f2.f1).length c673_4) ∧ w'.cell? (ad669.add ((x8_1).toNat * 5)) = some (.bool ((rd_T142 l1 x8_1).f0)) ∧ w'.cell? ⟨(ad669.add ((x8_1).toNat * 5)).block, (ad669.add ((x8_1).toNat * 5)).off + 1, none⟩ = some (.int .i64 ((rd_T142 l1 x8_1).f1.f0)) ∧ w'.cell? ⟨(ad669.add ((x8_1).toNat * 5)).block, (ad669.add ((x8_1).toNat * 5)).off + 2, none⟩ = some (.slice A673_2 ((rd_T142 l1 x8_1).f1.f1).length c673_2) ∧ w'.cell? ⟨(ad669.add ((x8_1).toNat * 5)).block, (ad669.add ((x8_1).toNat * 5)).off + 3, none⟩ = some (.int .i64 ((rd_T142 l1 x8_1).f2.f0)) ∧ w'.cell? ⟨(ad669.add ((x8_1).toNat * 5)).block, (ad669.add ((x8_1).toNat * 5)).off + 4, none⟩ = some (.slice A673_4 ((rd_T142 l1 x8_1).f2.f1).length c673_4)) (ds := [31]) #[false, false, false, false, false, false, false, false, false, false, false, false, false, false, false, false, false, false, false, false, false, false, false, false, false, false, false, false, false, false, false, false] (by kernel_rfl) rfl rfl ⟨hx672_0, ((HB.out.cell (World.block_lt_of_cell? w _ hw673_0)).trans hw673_0), ((HB.out.cell (World.block_lt_of_cell? w _ hw673_1)).trans hw673_1), ((HB.out.cell (World.block_lt_of_cell? w _ hw673_2)).trans hw673_2), ((HB.out.cell (World.block_lt_of_cell? w _ hw673_3)).trans hw673_3), ((HB.out.cell (World.block_lt_of_cell? w _ hw673_4)).trans hw673_4), ((HB.out.cell (World.block_lt_of_cell? w _ hw675_0)).trans hw675_0), ((HB.out.cell (World.block_lt_of_cell? w _ hw675_1)).trans hw675_1), ((HB.out.cell (World.block_lt_of_cell? w _ hw675_2)).trans hw675_2), ((HB.out.cell (World.block_lt_of_cell? w _ hw675_3)).trans hw675_3), ((HB.out.cell (World.block_lt_of_cell? w _ hw675_4)).trans hw675_4)⟩ (fun hHeld => ?_); refine with_tabW elenchusref16_Of.tab15 elenchusref16_Of.bits15 (fun HT_ HW_ => ?_)
                                      generalize wr.drew = w31 at HO_7 HB HR673_2 HR673_4 HR675_2 HR675_4 hx672_0 hx673_0 hx673_1 hx673_2 hx673_3 hx673_4 hx675_0 hx675_1 hx675_2 hx675_3 hx675_4 hHeld ⊢
                                      refine pure_ (i := 0) (N := some 47) (v := ?_) (a' := ?_) #[true, false, false, false, false, false, false, false, false, false, false, false, false, false, false, false, false, false, false, false, false, false, false, false, false, false, false, false, false, false, false, false] rfl rfl (any_of HT_.out (by kernel_rfl)) (fun _ _ _ h => h) (Or.inl ⟨by rfl, ?_⟩) ?_ ?_
                                      rotate_left
                                      · intro w'
                                        go_simp
                                        with_reducible rfl
                                      rotate_left
                                      · simp only [Act.put, List.setIfInBounds_toArray, List.set_cons_zero, List.set_cons_succ, i64_w, i32_w]
                                        rfl
                                      refine pure_ (i := 1) (N := some 48) (v := ?_) (a' := ?_) #[true, true, false, false, false, false, false, false, false, false, false, false, false, false, false, false, false, false, false, false, false, false, false, false, false, false, false, false, false, false, false, false] rfl rfl (any_of HT_.out (by kernel_rfl)) (fun _ _ _ h => h) (Or.inl ⟨by rfl, ?_⟩) ?_ ?_
                                      rotate_left
                                      · intro w'
                                        go_simp
                                        with_reducible rfl
                                      rotate_left
                                      · simp only [Act.put, List.setIfInBounds_toArray, List.set_cons_zero, List.set_cons_succ, i64_w, i32_w]
                                        rfl
                                      refine pure_ (i := 2) (N := some 49) (v := ?_) (a' := ?_) #[true, true, true, false, false, false, false, false, false, false, false, false, false, false, false, false, false, false, false, false, false, false, false, false, false, false, false, false, false, false, false, false] rfl rfl (any_of HT_.out (by kernel_rfl)) (fun _ _ _ h => h) (Or.inl ⟨by rfl, ?_⟩) ?_ ?_
                                      rotate_left
                                      · intro w'
                                        go_simp
                                        with_reducible rfl
                                      rotate_left
                                      · simp only [Act.put, List.setIfInBounds_toArray, List.set_cons_zero, List.set_cons_succ, i64_w, i32_w]
                                        rfl
                                      refine pure_ (i := 3) (N := some 50) (v := ?_) (a' := ?_) #[true, true, true, true, false, false, false, false, false, false, false, false, false, false, false, false, false, false, false, false, false, false, false, false, false, false, false, false, false, false, false, false] rfl rfl (any_of HT_.out (by kernel_rfl)) (fun _ _ _ h => h) (Or.inl ⟨by rfl, ?_⟩) ?_ ?_
                                      rotate_left
                                      · intro w'
                                        go_simp
                                        with_reducible rfl
                                      rotate_left
                                      · simp only [Act.put, List.setIfInBounds_toArray, List.set_cons_zero, List.set_cons_succ, i64_w, i32_w]
                                        rfl
                                      refine pure_ (i := 4) (N := some 51) (v := ?_) (a' := ?_) #[true, true, true, true, true, false, false, false, false, false, false, false, false, false, false, false, false, false, false, false, false, false, false, false, false, false, false, false, false, false, false, false] rfl rfl (any_of HT_.out (by kernel_rfl)) (fun _ _ _ h => h) (Or.inl ⟨by rfl, ?_⟩) ?_ ?_
                                      rotate_left
                                      · intro w'
                                        go_simp
                                        with_reducible rfl
                                      rotate_left
                                      · simp only [Act.put, List.setIfInBounds_toArray, List.set_cons_zero, List.set_cons_succ, i64_w, i32_w]
                                        rfl
                                      refine pure_ (i := 5) (N := some 52) (v := ?_) (a' := ?_) #[true, true, true, true, true, true, false, false, false, false, false, false, false, false, false, false, false, false, false, false, false, false, false, false, false, false, false, false, false, false, false, false] rfl rfl (any_of HT_.out (by kernel_rfl)) (fun _ _ _ h => h) (Or.inl ⟨by rfl, ?_⟩) ?_ ?_
                                      rotate_left
                                      · intro w'
                                        go_simp
                                        with_reducible rfl
                                      rotate_left
                                      · simp only [Act.put, List.setIfInBounds_toArray, List.set_cons_zero, List.set_cons_succ, i64_w, i32_w]
                                        rfl
                                      refine pure_ (i := 6) (N := some 53) (v := ?_) (a' := ?_) #[true, true, true, true, true, true, true, false, false, false, false, false, false, false, false, false, false, false, false, false, false, false, false, false, false, false, false, false, false, false, false, false] rfl rfl (any_of HT_.out (by kernel_rfl)) (fun _ _ _ h => h) (Or.inl ⟨by rfl, ?_⟩) ?_ ?_
                                      rotate_left
                                      · intro w'
                                        go_simp
                                        with_reducible rfl
                                      rotate_left
                                      · simp only [Act.put, List.setIfInBounds_toArray, List.set_cons_zero, List.set_cons_succ, i64_w, i32_w]
                                        rfl
                                      refine pure_ (i := 7) (N := some 54) (v := ?_) (a' := ?_) #[true, true, true, true, true, true, true, true, false, false, false, false, false, false, false, false, false, false, false, false, false, false, false, false, false, false, false, false, false, false, false, false] rfl rfl (any_of HT_.out (by kernel_rfl)) (fun _ _ _ h => h) (Or.inl ⟨by rfl, ?_⟩) ?_ ?_
                                      rotate_left
                                      · intro w'
                                        go_simp
                                        with_reducible rfl
                                      rotate_left
                                      · simp only [Act.put, List.setIfInBounds_toArray, List.set_cons_zero, List.set_cons_succ, i64_w, i32_w]
                                        rfl
                                      refine pure_ (i := 8) (N := some 55) (v := ?_) (a' := ?_) #[true, true, true, true, true, true, true, true, true, false, false, false, false, false, false, false, false, false, false, false, false, false, false, false, false, false, false, false, false, false, false, false] rfl rfl (any_of HT_.out (by kernel_rfl)) (fun _ _ _ h => h) (Or.inl ⟨by rfl, ?_⟩) ?_ ?_
                                      rotate_left
                                      · intro w'
                                        go_simp
                                        with_reducible rfl
                                      rotate_left
                                      · simp only [Act.put, List.setIfInBounds_toArray, List.set_cons_zero, List.set_cons_succ, i64_w, i32_w]
                                        rfl
                                      refine pure_ (i := 9) (N := some 56) (v := ?_) (a' := ?_) #[true, true, true, true, true, true, true, true, true, true, false, false, false, false, false, false, false, false, false, false, false, false, false, false, false, false, false, false, false, false, false, false] rfl rfl (any_of HT_.out (by kernel_rfl)) (fun _ _ _ h => h) (Or.inl ⟨by rfl, ?_⟩) ?_ ?_
                                      rotate_left
                                      · intro w'
                                        go_simp
                                        with_reducible rfl
                                      rotate_left
                                      · simp only [Act.put, List.setIfInBounds_toArray, List.set_cons_zero, List.set_cons_succ, i64_w, i32_w]
                                        rfl
                                      refine pure_ (i := 10) (N := some 57) (v := ?_) (a' := ?_) #[true, true, true, true, true, true, true, true, true, true, true, false, false, false, false, false, false, false, false, false, false, false, false, false, false, false, false, false, false, false, false, false] rfl rfl (any_of HT_.out (by kernel_rfl)) (fun _ _ _ h => h) (Or.inl ⟨by rfl, ?_⟩) ?_ ?_
                                      rotate_left
                                      · intro w'
                                        go_simp
                                        with_reducible rfl
                                      rotate_left
                                      · simp only [Act.put, List.setIfInBounds_toArray, List.set_cons_zero, List.set_cons_succ, i64_w, i32_w]
                                        rfl
                                      refine pure_ (i := 11) (N := some 58) (v := ?_) (a' := ?_) #[true, true, true, true, true, true, true, true, true, true, true, true, false, false, false, false, false, false, false, false, false, false, false, false, false, false, false, false, false, false, false, false] rfl rfl (any_of HT_.out (by kernel_rfl)) (fun _ _ _ h => h) (Or.inl ⟨by rfl, ?_⟩) ?_ ?_
                                      rotate_left
                                      · intro w'
                                        go_simp
                                        with_reducible rfl
                                      rotate_left
                                      · simp only [Act.put, List.setIfInBounds_toArray, List.set_cons_zero, List.set_cons_succ, i64_w, i32_w]
                                        rfl
                                      refine pure_ (i := 12) (N := some 59) (v := ?_) (a' := ?_) #[true, true, true, true, true, true, true, true, true, true, true, true, true, false, false, false, false, false, false, false, false, false, false, false, false, false, false, false, false, false, false, false] rfl rfl (any_of HT_.out (by kernel_rfl)) (fun _ _ _ h => h) (Or.inl ⟨by rfl, ?_⟩) ?_ ?_
                                      rotate_left
                                      · intro w'
                                        go_simp
                                        with_reducible rfl
                                      rotate_left
                                      · simp only [Act.put, List.setIfInBounds_toArray, List.set_cons_zero, List.set_cons_succ, i64_w, i32_w]
                                        rfl
                                      refine pure_ (i := 14) (N := some 61) (v := ?_) (a' := ?_) #[true, true, true, true, true, true, true, true, true, true, true, true, true, false, true, false, false, false, false, false, false, false, false, false, false, false, false, false, false, false, false, false] rfl rfl (any_of HT_.out (by kernel_rfl)) (fun _ _ _ h => h) (Or.inl ⟨by rfl, ?_⟩) ?_ ?_
                                      rotate_left
                                      · intro w'
                                        go_simp
                                        with_reducible rfl
                                      rotate_left
                                      · simp only [Act.put, List.setIfInBounds_toArray, List.set_cons_zero, List.set_cons_succ, i64_w, i32_w]
                                        rfl
                                      refine pure_ (i := 15) (N := some 62) (v := ?_) (a' := ?_) #[true, true, true, true, true, true, true, true, true, true, true, true, true, false, true, true, false, false, false, false, false, false, false, false, false, false, false, false, false, false, false, false] rfl rfl (any_of HT_.out (by kernel_rfl)) (fun _ _ _ h => h) (Or.inl ⟨by rfl, ?_⟩) ?_ ?_
                                      rotate_left
                                      · intro w'
                                        go_simp
                                        with_reducible rfl
                                      rotate_left
                                      · simp only [Act.put, List.setIfInBounds_toArray, List.set_cons_zero, List.set_cons_succ, i64_w, i32_w]
                                        rfl
                                      refine pure_ (i := 16) (N := some 63) (v := ?_) (a' := ?_) #[true, true, true, true, true, true, true, true, true, true, true, true, true, false, true, true, true, false, false, false, false, false, false, false, false, false, false, false, false, false, false, false] rfl rfl (any_of HT_.out (by kernel_rfl)) (fun _ _ _ h => h) (Or.inl ⟨by rfl, ?_⟩) ?_ ?_
                                      rotate_left
                                      · intro w'
                                        go_simp
                                        with_reducible rfl
                                      rotate_left
                                      · simp only [Act.put, List.setIfInBounds_toArray, List.set_cons_zero, List.set_cons_succ, i64_w, i32_w]
                                        rfl
                                      refine pure_ (i := 17) (N := some 64) (v := ?_) (a' := ?_) #[true, true, true, true, true, true, true, true, true, true, true, true, true, false, true, true, true, true, false, false, false, false, false, false, false, false, false, false, false, false, false, false] rfl rfl (any_of HT_.out (by kernel_rfl)) (fun _ _ _ h => h) (Or.inl ⟨by rfl, ?_⟩) ?_ ?_
                                      rotate_left
                                      · intro w'
                                        go_simp
                                        with_reducible rfl
                                      rotate_left
                                      · simp only [Act.put, List.setIfInBounds_toArray, List.set_cons_zero, List.set_cons_succ, i64_w, i32_w]
                                        rfl
                                      refine pure_ (i := 19) (N := some 66) (v := ?_) (a' := ?_) #[true, true, true, true, true, true, true, true, true, true, true, true, true, false, true, true, true, true, false, true, false, false, false, false, false, false, false, false, false, false, false, false] rfl rfl (any_of HT_.out (by kernel_rfl)) (fun _ _ _ h => h) (Or.inl ⟨by rfl, ?_⟩) ?_ ?_
                                      rotate_left
                                      · intro w'
                                        go_simp
                                        with_reducible rfl
                                      rotate_left
                                      · simp only [Act.put, List.setIfInBounds_toArray, List.set_cons_zero, List.set_cons_succ, i64_w, i32_w]
                                        rfl
                                      refine pure_ (i := 22) (N := some 69) (v := ?_) (a' := ?_) #[true, true, true, true, true, true, true, true, true, true, true, true, true, false, true, true, true, true, false, true, false, false, true, false, false, false, false, false, false, false, false, false] rfl rfl (any_of HT_.out (by kernel_rfl)) (fun _ _ _ h => h) (Or.inl ⟨by rfl, ?_⟩) ?_ ?_
                                      rotate_left
                                      · intro w'
                                        go_simp
                                        with_reducible rfl
                                      rotate_left
                                      · simp only [Act.put, List.setIfInBounds_toArray, List.set_cons_zero, List.set_cons_succ, i64_w, i32_w]
                                        rfl
                                      refine pure_ (i := 23) (N := some 70) (v := ?_) (a' := ?_) #[true, true, true, true, true, true, true, true, true, true, true, true, true, false, true, true, true, true, false, true, false, false, true, true, false, false, false, false, false, false, false, false] rfl rfl (any_of HT_.out (by kernel_rfl)) (fun _ _ _ h => h) (Or.inl ⟨by rfl, ?_⟩) ?_ ?_
                                      rotate_left
                                      · intro w'
                                        go_simp
                                        with_reducible rfl
                                      rotate_left
                                      · simp only [Act.put, List.setIfInBounds_toArray, List.set_cons_zero, List.set_cons_succ, i64_w, i32_w]
                                        rfl
                                      refine pure_ (i := 24) (N := some 71) (v := ?_) (a' := ?_) #[true, true, true, true, true, true, true, true, true, true, true, true, true, false, true, true, true, true, false, true, false, false, true, true, true, false, false, false, false, false, false, false] rfl rfl (any_of HT_.out (by kernel_rfl)) (fun _ _ _ h => h) (Or.inl ⟨by rfl, ?_⟩) ?_ ?_
                                      rotate_left
                                      · intro w'
                                        go_simp
                                        with_reducible rfl
                                      rotate_left
                                      · simp only [Act.put, List.setIfInBounds_toArray, List.set_cons_zero, List.set_cons_succ, i64_w, i32_w]
                                        rfl
                                      refine pure_ (i := 25) (N := some 72) (v := ?_) (a' := ?_) #[true, true, true, true, true, true, true, true, true, true, true, true, true, false, true, true, true, true, false, true, false, false, true, true, true, true, false, false, false, false, false, false] rfl rfl (any_of HT_.out (by kernel_rfl)) (fun _ _ _ h => h) (Or.inl ⟨by rfl, ?_⟩) ?_ ?_
                                      rotate_left
                                      · intro w'
                                        go_simp
                                        with_reducible rfl
                                      rotate_left
                                      · simp only [Act.put, List.setIfInBounds_toArray, List.set_cons_zero, List.set_cons_succ, i64_w, i32_w]
                                        rfl
                                      refine pure_ (i := 27) (N := some 74) (v := ?_) (a' := ?_) #[true, true, true, true, true, true, true, true, true, true, true, true, true, false, true, true, true, true, false, true, false, false, true, true, true, true, false, true, false, false, false, false] rfl rfl (any_of HT_.out (by kernel_rfl)) (fun _ _ _ h => h) (Or.inl ⟨by rfl, ?_⟩) ?_ ?_
                                      rotate_left
                                      · intro w'
                                        go_simp
                                        with_reducible rfl
                                      rotate_left
                                      · simp only [Act.put, List.setIfInBounds_toArray, List.set_cons_zero, List.set_cons_succ, i64_w, i32_w]
                                        rfl
                                      refine take_ (i := 13) (N := some 60) (v := ?_) (a' := ?_) #[true, true, true, true, true, true, true, true, true, true, true, true, true, true, true, true, true, true, false, true, false, false, true, true, true, true, false, true, false, false, false, false] rfl rfl (take_ofW HT_.out HW_.out (by kernel_rfl)) (fun _ _ _ h => h) (Or.inl ⟨by rfl, ?_⟩) hHeld ?_ ?_
                                      rotate_left
                                      · rintro w' ⟨s0, s1, s2, s3, s4, s5, s6, s7, s8, s9, s10⟩
                                        go_simp
                                        with_reducible rfl
                                      rotate_left
                                      · simp only [Act.put, List.setIfInBounds_toArray, List.set_cons_zero, List.set_cons_succ, i64_w, i32_w]
                                        rfl
                                      refine take_ (i := 18) (N := some 65) (v := ?_) (a' := ?_) #[true, true, true, true, true, true, true, true, true, true, true, true, true, true, true, true, true, true, true, true, false, false, true, true, true, true, false, true, false, false, false, false] rfl rfl (take_ofW HT_.out HW_.out (by kernel_rfl)) (fun _ _ _ h => h) (Or.inl ⟨by rfl, ?_⟩) hHeld ?_ ?_
                                      rotate_left
                                      · rintro w' ⟨s0, s1, s2, s3, s4, s5, s6, s7, s8, s9, s10⟩
                                        go_simp
                                        with_reducible rfl
                                      rotate_left
                                      · simp only [Act.put, List.setIfInBounds_toArray, List.set_cons_zero, List.set_cons_succ, i64_w, i32_w]
                                        rfl
                                      refine take_ (i := 26) (N := some 73) (v := ?_) (a' := ?_) #[true, true, true, true, true, true, true, true, true, true, true, true, true, true, true, true, true, true, true, true, false, false, true, true, true, true, true, true, false, false, false, false] rfl rfl (take_ofW HT_.out HW_.out (by kernel_rfl)) (fun _ _ _ h => h) (Or.inl ⟨by rfl, ?_⟩) hHeld ?_ ?_
                                      rotate_left
                                      · rintro w' ⟨s0, s1, s2, s3, s4, s5, s6, s7, s8, s9, s10⟩
                                        go_simp
                                        with_reducible rfl
                                      rotate_left
                                      · simp only [Act.put, List.setIfInBounds_toArray, List.set_cons_zero, List.set_cons_succ, i64_w, i32_w]
                                        rfl
                                      refine one_ (i := 20) (N := some 67) #[true, true, true, true, true, true, true, true, true, true, true, true, true, true, true, true, true, true, true, true, true, false, true, true, true, true, true, true, false, false, false, false] rfl rfl (one_of HT_.out (by kernel_rfl)) (by decide) (fun K hK => ?_)
                                      refine goes_ Try.func124 (by kernel_rfl) rfl #[.agg #[.int .i64 ((rd_T142 l1 x8_1).f1.f0), .slice A673_2 ((rd_T142 l1 x8_1).f1.f1).length c673_2], .int .i64 x10_3] (by rfl) rfl rfl (by (try simp only [List.map_toArray, List.map_cons, List.map_nil]); first | done | rfl | (simp only [List.length_drop, List.length_take]; rfl)) ?_
                                      with_reducible refine (elenchusref16_stands.calls k3 ((rd_T142 l1 x8_1).f1.f0) _ _ ((rd_T142 l1 x8_1).f1.f1) x10_3 t674 _ ?side1 ?side2 A28.out).mono ?_
                                      (case side1 => repeat (first | exact (Kd.C_below HR673_2.out HB.out) | (with_reducible refine Kd.C_alloc ?_ _) | (with_reducible refine Kd.C_drewN ?_ _) | (with_reducible refine Kd.C_drew ?_)))
                                      (case side2 => exact HC673_2.out)
                                      rintro e w32 ⟨rfl, hb⟩
                                      have HS0_ := (hb.cell (World.block_lt_of_cell? _ _ (hHeld.1))).trans (hHeld.1)
                                      refine ⟨_, rfl, ?_⟩
                                      have n0_ := Aside0.mk (Kd.R_below (by (with_reducible repeat (first | apply Kd.R_alloc | apply Kd.R_drewN | apply Kd.R_drew)); exact HO_7.out) hb)
                                      have n1_ := Aside0.mk (below_step (by repeat (first | (with_reducible first | exact HB.out | apply below_alloc | apply pw_below_drewN | apply below_drew1) | exact HB.out)) hb)
                                      clear HO_7
                                      clear HB
                                      have HO_7 := n0_
                                      have HB := n1_
                                      clear n0_ n1_
                                      (try clear hb)
                                      (try clear hb2)
                                      (try clear hk)
                                      (try clear hi)
                                      refine hK.out _ _ ⟨HS0_, ((HB.out.cell (World.block_lt_of_cell? w _ hw673_0)).trans hw673_0), ((HB.out.cell (World.block_lt_of_cell? w _ hw673_1)).trans hw673_1), ((HB.out.cell (World.block_lt_of_cell? w _ hw673_2)).trans hw673_2), ((HB.out.cell (World.block_lt_of_cell? w _ hw673_3)).trans hw673_3), ((HB.out.cell (World.block_lt_of_cell? w _ hw673_4)).trans hw673_4), ((HB.out.cell (World.block_lt_of_cell? w _ hw675_0)).trans hw675_0), ((HB.out.cell (World.block_lt_of_cell? w _ hw675_1)).trans hw675_1), ((HB.out.cell (World.block_lt_of_cell? w _ hw675_2)).trans hw675_2), ((HB.out.cell (World.block_lt_of_cell? w _ hw675_3)).trans hw675_3), ((HB.out.cell (World.block_lt_of_cell? w _ hw675_4)).trans hw675_4)⟩ (fun hHeld => ?_)
                                      clear hK K
                                      refine norm_ (a' := ?_) ?_ ?_
                                      rotate_left
                                      · show Act.put _ (some 67) _ = _
                                        simp only [Act.put, List.setIfInBounds_toArray, List.set_cons_zero, List.set_cons_succ, i64_w, i32_w]
                                        rfl
                                      refine pure_ (i := 21) (N := some 68) (v := ?_) (a' := ?_) #[true, true, true, true, true, true, true, true, true, true, true, true, true, true, true, true, true, true, true, true, true, true, true, true, true, true, true, true, false, false, false, false] rfl rfl (any_of HT_.out (by kernel_rfl)) (fun _ _ _ h => h) (Or.inl ⟨by rfl, ?_⟩) ?_ ?_
                                      rotate_left
                                      · intro w'
                                        go_simp
                                        with_reducible rfl
                                      rotate_left
                                      · simp only [Act.put, List.setIfInBounds_toArray, List.set_cons_zero, List.set_cons_succ, i64_w, i32_w]
                                        rfl
                                      refine one_ (i := 28) (N := some 75) #[true, true, true, true, true, true, true, true, true, true, true, true, true, true, true, true, true, true, true, true, true, true, true, true, true, true, true, true, true, false, false, false] rfl rfl (one_of HT_.out (by kernel_rfl)) (by decide) (fun K hK => ?_)
                                      refine goes_ Try.func124 (by kernel_rfl) rfl #[.agg #[.int .i64 ((rd_T142 l1 x8_1).f2.f0), .slice A673_4 ((rd_T142 l1 x8_1).f2.f1).length c673_4], .int .i64 x10_3] (by rfl) rfl rfl (by (try simp only [List.map_toArray, List.map_cons, List.map_nil]); first | done | rfl | (simp only [List.length_drop, List.length_take]; rfl)) ?_
                                      with_reducible refine (elenchusref16_stands.calls k3 ((rd_T142 l1 x8_1).f2.f0) _ _ ((rd_T142 l1 x8_1).f2.f1) x10_3 t676 _ ?side1 ?side2 A29.out).mono ?_
                                      (case side1 => repeat (first | exact (Kd.C_below HR675_4.out HB.out) | (with_reducible refine Kd.C_alloc ?_ _) | (with_reducible refine Kd.C_drewN ?_ _) | (with_reducible refine Kd.C_drew ?_)))
                                      (case side2 => exact HC675_4.out)
                                      rintro e w33 ⟨rfl, hb⟩
                                      have HS0_ := (hb.cell (World.block_lt_of_cell? _ _ (hHeld.1))).trans (hHeld.1)
                                      refine ⟨_, rfl, ?_⟩
                                      have n0_ := Aside0.mk (Kd.R_below (by (with_reducible repeat (first | apply Kd.R_alloc | apply Kd.R_drewN | apply Kd.R_drew)); exact HO_7.out) hb)
                                      have n1_ := Aside0.mk (below_step (by repeat (first | (with_reducible first | exact HB.out | apply below_alloc | apply pw_below_drewN | apply below_drew1) | exact HB.out)) hb)
                                      clear HO_7
                                      clear HB
                                      have HO_7 := n0_
                                      have HB := n1_
                                      clear n0_ n1_
                                      (try clear hb)
                                      (try clear hb2)
                                      (try clear hk)
                                      (try clear hi)
                                      have p30 : 0 ≤ ((ji23) : Int) := of_decide_eq_true (by first | (with_reducible assumption) | assumption)
                                      have q30 : ((ji23) : Int) < ((x7_3.length : Int) : Int) := of_decide_eq_true (by first | (with_reducible assumption) | assumption)
                                      obtain ⟨hx30_0, hf30_0⟩ := Kd.R_celln 0 HO_7.out ((ji23) : Int) p30 q30
                                      replace p30 := eq_true p30
                                      replace q30 := eq_true q30
                                      have HP34 := Kd.R_putn HO_7.out ((ji23) : Int) (wrap64 ((wrap64 ((rd x7_3 (ji23)) + t674)) + t676))
                                      rw [← Ny677.out] at HP34
                                      have HQ34 := Aside0.mk HP34
                                      clear HP34
                                      refine hK.out _ _ ⟨HS0_, ((HB.out.cell (World.block_lt_of_cell? w _ hw673_0)).trans hw673_0), ((HB.out.cell (World.block_lt_of_cell? w _ hw673_1)).trans hw673_1), ((HB.out.cell (World.block_lt_of_cell? w _ hw673_2)).trans hw673_2), ((HB.out.cell (World.block_lt_of_cell? w _ hw673_3)).trans hw673_3), ((HB.out.cell (World.block_lt_of_cell? w _ hw673_4)).trans hw673_4), ((HB.out.cell (World.block_lt_of_cell? w _ hw675_0)).trans hw675_0), ((HB.out.cell (World.block_lt_of_cell? w _ hw675_1)).trans hw675_1), ((HB.out.cell (World.block_lt_of_cell? w _ hw675_2)).trans hw675_2), ((HB.out.cell (World.block_lt_of_cell? w _ hw675_3)).trans hw675_3), ((HB.out.cell (World.block_lt_of_cell? w _ hw675_4)).trans hw675_4)⟩ (fun hHeld => ?_)
                                      clear hK K
                                      refine norm_ (a' := ?_) ?_ ?_
                                      rotate_left
                                      · show Act.put _ (some 75) _ = _
                                        simp only [Act.put, List.setIfInBounds_toArray, List.set_cons_zero, List.set_cons_succ, i64_w, i32_w]
                                        rfl
                                      refine pure_ (i := 29) (N := some 76) (v := ?_) (a' := ?_) #[true, true, true, true, true, true, true, true, true, true, true, true, true, true, true, true, true, true, true, true, true, true, true, true, true, true, true, true, true, true, false, false] rfl rfl (any_of HT_.out (by kernel_rfl)) (fun _ _ _ h => h) (Or.inl ⟨by rfl, ?_⟩) ?_ ?_
                                      rotate_left
                                      · intro w'
                                        go_simp
                                        with_reducible rfl
                                      rotate_left
                                      · simp only [Act.put, List.setIfInBounds_toArray, List.set_cons_zero, List.set_cons_succ, i64_w, i32_w]
                                        rfl
                                      refine pure_ (i := 30) (N := some 77) (v := ?_) (a' := ?_) #[true, true, true, true, true, true, true, true, true, true, true, true, true, true, true, true, true, true, true, true, true, true, true, true, true, true, true, true, true, true, true, false] rfl rfl (any_of HT_.out (by kernel_rfl)) (fun _ _ _ h => h) (Or.inl ⟨by rfl, ?_⟩) ?_ ?_
                                      rotate_left
                                      · intro w'
                                        go_simp
                                        with_reducible rfl
                                      rotate_left
                                      · simp only [Act.put, List.setIfInBounds_toArray, List.set_cons_zero, List.set_cons_succ, i64_w, i32_w]
                                        rfl
                                      refine last_ (i := 31) (N := none) #[true, true, true, true, true, true, true, true, true, true, true, true, true, true, true, true, true, true, true, true, true, true, true, true, true, true, true, true, true, true, true, true] rfl rfl (one_of HT_.out (by kernel_rfl)) (by decide) (fun K hK => ?_)
                                      refine skip_ (w1 := ?_) (by rfl) rfl ?_ ?_
                                      rotate_left
                                      · go_simp
                                        rfl
                                      refine hK.out _ _ ?_
                                      clear hK K
                                      refine done_ (done_of HT_.out (by kernel_rfl)) ?_
                                      try go_wp2
                                      (try simp only [← hl7_3])
                                      go_roundg k3
                                      case measure => have := HK1.out; have := HJ12.out; have := HK3.out; omega
                                      case rel => exact ⟨(y677), (wrap64 (x10_3 + 1)), (by first | rfl | (simp; done) | (simp [*]; done)), H', ⟨by have := HK1.out; have := HJ12.out; have := HK3.out; omega⟩, ⟨by (try simp only [hl7_3]); (with_reducible repeat (first | apply Kd.R_alloc | apply Kd.R_drewN | apply Kd.R_drew)); exact HQ34.out⟩, ⟨by repeat (first | (with_reducible first | exact HB.out | apply below_alloc | apply pw_below_drewN | apply below_drew1 | refine below_set ?_ GB18.out) | exact HB.out)⟩⟩
                                    · rw [if_neg c27] at H
                                      exact absurd H (by simp)
                                  · rw [if_neg c26] at H
                                    exact absurd H (by simp)
                                · rw [if_neg c25] at H
                                  exact absurd H (by simp)
                              · rw [if_neg c24] at H
                                exact absurd H (by simp)
                            · rw [if_neg c22] at H
                              have c22b0 : decide (x10_3 < (l0.length : Int)) = false := decide_eq_false c22
                              clear c22
                              have H' := Aside0.mk H
                              clear H
                              go_wp2
                              (try simp only [← hl7_3])
                              go_roundg k3
                              case measure => have := HK1.out; have := HJ12.out; have := HK3.out; omega
                              case rel => exact ⟨(x7_3), (wrap64 (x8_1 + 1)), (by first | rfl | (simp; done) | (simp [*]; done)), H', ⟨by have := HK1.out; have := HJ12.out; have := HK3.out; omega⟩, ⟨by (try simp only [hl7_3]); (with_reducible repeat (first | apply Kd.R_alloc | apply Kd.R_drewN | apply Kd.R_drew)); exact HO_7.out⟩, ⟨by repeat (first | (with_reducible first | exact HB.out | apply below_alloc | apply pw_below_drewN | apply below_drew1) | exact HB.out)⟩⟩
                      · rw [if_neg c17] at H
                        exact absurd H (by simp)
                    · rw [if_neg c16] at H
                      exact absurd H (by simp)
              · rw [if_neg c12] at H
                exact absurd H (by simp)
            · rw [if_neg c11] at H
              have c11b0 : decide (x8_1 < (l1.length : Int)) = false := decide_eq_false c11
              clear c11
              simp only [Option.some.injEq, Prod.mk.injEq] at H
              obtain ⟨rfl, rfl⟩ := H
              go_wp2
              go_ret2
              exact ⟨_, by first | rfl | (simp [errW_none, errW_some] <;> rfl) | (simp only [← hji5]; first | rfl | (simp [errW_none, errW_some] <;> rfl)) | (simp [*, errW_none, errW_some] <;> rfl), by (with_reducible repeat (first | apply Kd.R_alloc | apply Kd.R_drewN | apply Kd.R_drew)); exact HO_7.out, by repeat (first | (with_reducible first | exact HB.out | apply below_alloc | apply pw_below_drewN | apply below_drew1) | exact HB.out)⟩
      · rw [if_neg c7] at H
        exact absurd H (by simp)
    · rw [if_neg c6] at H
      exact absurd H (by simp)
  · rw [if_neg c4] at H
    have c4b0 : (t665 == 0) = false := beq_eq_false_iff_ne.mpr c4
    have c4b1 : (t665 != 0) = true := bne_iff_ne.mpr c4
    simp only [Option.some.injEq, Prod.mk.injEq] at H
    obtain ⟨rfl, rfl⟩ := H
    go_enter Try.func62, Try.ntmps62
    go_wp2_with (first | ((with_reducible refine gate_callee (f := 123) rfl ?_); refine goesL_ (some 13) rfl rfl Try.func123 (by kernel_rfl) rfl #[.slice A0 l0.length c0, .slice A1 l1.length c1] rfl (by (try simp only [List.map_toArray, List.map_cons, List.map_nil]); first | done | rfl | (simp only [List.length_drop, List.length_take]; rfl)) ?_; (with_reducible refine (elenchusref10_Check.calls k _ _ l0 _ _ l1 t665 _ ?side1 ?side2 ?side3 ?side4 A3.out).mono ?_); (case side1 => repeat (first | exact HR0.out | (with_reducible refine Kd.C_alloc ?_ _) | (with_reducible refine Kd.C_drewN ?_ _) | (with_reducible refine Kd.C_drew ?_))); (case side2 => exact HC0.out); (case side3 => repeat (first | exact HR1.out | (with_reducible refine Kd.C_alloc ?_ _) | (with_reducible refine Kd.C_drewN ?_ _) | (with_reducible refine Kd.C_drew ?_))); (case side4 => exact HC1.out); rintro e w35 ⟨rfl, hb⟩; refine ⟨_, rfl, ?_⟩; have n0_ := Aside0.mk (below_step (by repeat (first | (with_reducible first | exact HB.out | apply below_alloc | apply pw_below_drewN | apply below_drew1) | exact HB.out)) hb); clear HB; have HB := n0_; clear n0_; (try clear hb); (try clear hb2); (try clear hk); (try clear hi)))
    go_ret2
    exact ⟨_, by first | rfl | (simp [errW_none, errW_some] <;> rfl) | (simp [*, errW_none, errW_some] <;> rfl), by first | exact Kd.R_nil _ _ _ _ _ | exact Kd.N_nil _ _ _ _ _ | exact Kd.V_nil _ _ _ _ _ | exact Kd.Q_nil _ _ _ _ _ | exact Kd.S_nil _ _ _ _ _, by repeat (first | (with_reducible first | exact HB.out | apply below_alloc | apply pw_below_drewN | apply below_drew1) | exact HB.out)⟩
end Go.Proofs.Ythplndalbfcbbaa.PA
namespace Go.Proofs.Ythplndalbfcbbaa.PA
open Go.RowKit Go.Proofs.YthplndalbfcbbaaW.PrintWords Go.Proofs.YthplndalbfcbbaaW.PrintLast Go.Proofs.YthplndalbfcbbaaW.PrintMore
attribute [local go_sem] max2_int min2_int max_two min_two max_three min_three max_four min_four   -- for this text's walks alone
set_option linter.unusedVariables false
set_option linter.unusedSimpArgs false
mutual
def elenchusref16_Under.l0 : Nat → List Int → List Int → Int → Option (Bool)
  | 0, _, _, _ => none
  | k + 1, x0, x1, x5 => if x5 < (x0.length : Int) then (elenchusref16_Under.j1 k x0 x1 x5 ((x0.length : Int) == (x1.length : Int))) else (elenchusref16_Under.j1 k x0 x1 x5 false)
def elenchusref16_Under.j1 : Nat → List Int → List Int → Int → Bool → Option (Bool)
  | 0, _, _, _, _ => none
  | k + 1, x0, x1, x5, x16 => if x16 = true then (if 0 ≤ x5 then (if x5 < (x0.length : Int) then (if x5 < (x1.length : Int) then (if (rd x0 x5) > (rd x1 x5) then (some false) else (elenchusref16_Under.l0 k x0 x1 (wrap64 (x5 + 1)))) else (none)) else (none)) else (none)) else (some ((x0.length : Int) == (x1.length : Int)))
end
def elenchusref16_Under.f (k : Nat) (l0 : List Int) (l1 : List Int) : Option (Bool) := elenchusref16_Under.l0 k l0 l1 0
set_option maxHeartbeats 8000000 in
set_option maxRecDepth 100000 in
theorem elenchusref16_Under.calls (k : Nat) (A0 : Option Addr) (c0 : Nat) (l0 : List Int) (A1 : Option Addr) (c1 : Nat) (l1 : List Int) (r : Bool) (w : World) (hr0 : Kd.C (Kd.int .i64) w A0 l0.length l0) (hc0 : l0.length ≤ c0) (hr1 : Kd.C (Kd.int .i64) w A1 l1.length l1) (hc1 : l1.length ≤ c1) (h : elenchusref16_Under.f k l0 l1 = some r) :
    Calls Try.prog 66 #[.slice A0 l0.length c0, .slice A1 l1.length c1] w fun e w' => e = .returned (.bool r) ∧ Drawn0 w w' := by
  have HR0 := Aside0.mk hr0
  have HC0 := Aside0.mk hc0
  clear hr0 hc0
  have HR1 := Aside0.mk hr1
  have HC1 := Aside0.mk hc1
  clear hr1 hc1
  have H : (elenchusref16_Under.l0 k l0 l1 0) = some r := h
  clear h
  have H' := Aside0.mk H
  clear H
  go_enter Try.func66, Try.ntmps66
  go_wp2
  repeat (go_quiet (fail); try go_wp2)
  go_loopg [5] k (fun kq v5 w' => ∃ (x5_1 : Int), v5 = .int .i64 x5_1 ∧ Aside0 (elenchusref16_Under.l0 kq l0 l1 x5_1 = some r) ∧ Aside0 (kq ≤ k) ∧ Drawn0 w w')
  case atStart => exact ⟨(0), (by first | rfl | (simp; done) | (simp [*]; done)), H', ⟨Nat.le_refl _⟩, by repeat (first | exact Drawn0.refl _ | apply Drawn0.step)⟩
  case round =>
    clear H'
    try clear c1
    try clear p2
    obtain ⟨x5_1, rfl, HA, HK1, ⟨m1, rfl⟩⟩ := hrel
    cases gk with
    | zero => exact absurd HA.out (by simp [elenchusref16_Under.l0])
    | succ k1 =>
      have H := HA.out
      clear HA
      simp only [elenchusref16_Under.l0] at H
      have HC3 := Aside0.mk H
      clear H
      go_upto_region 2 with (fail)
      repeat (go_quiet (fail); go_upto_region 2 with (fail))
      go_cut [16] (fun v16 wc => ∃ (kq : Nat) (x16_2 : Bool), v16 = .bool x16_2 ∧ Aside0 (elenchusref16_Under.j1 kq l0 l1 x5_1 x16_2 = some r) ∧ Aside0 (kq ≤ k1) ∧ Drawn0 w wc)
      case first =>
        have H := HC3.out
        clear HC3
        by_cases c4 : x5_1 < (l0.length : Int)
        · rw [if_pos c4] at H
          have c4b0 : decide (x5_1 < (l0.length : Int)) = true := decide_eq_true c4
          clear c4
          (first | rw [c4b0] | (simp only [i64_w, i32_w]; rw [c4b0]) | skip)
          have H' := Aside0.mk H
          clear H
          go_wp2
          repeat (go_quiet (fail); try go_wp2)
          go_meet
          case rel => exact ⟨_, (((l0.length : Int) == (l1.length : Int))), (by first | rfl | (simp; done) | (simp [*]; done)), H', ⟨by have := HK1.out; first | omega | exact Nat.le_refl _⟩, by repeat (first | exact Drawn0.refl _ | apply Drawn0.step)⟩
        · rw [if_neg c4] at H
          have c4b0 : decide (x5_1 < (l0.length : Int)) = false := decide_eq_false c4
          clear c4
          (first | rw [c4b0] | (simp only [i64_w, i32_w]; rw [c4b0]) | skip)
          have H' := Aside0.mk H
          clear H
          go_wp2
          repeat (go_quiet (fail); try go_wp2)
          go_meet
          case rel => exact ⟨_, (false), (by first | rfl | (simp; done) | (simp [*]; done)), H', ⟨by have := HK1.out; first | omega | exact Nat.le_refl _⟩, by repeat (first | exact Drawn0.refl _ | apply Drawn0.step)⟩
      case rest =>
        clear HC3
        try clear c1
        try clear p2
        try clear c4
        try clear c4b0
        try clear p2
        obtain ⟨kq, x16_2, rfl, HA, HJ2, ⟨mc2, rfl⟩⟩ := hcut
        cases kq with
        | zero => exact absurd HA.out (by simp [elenchusref16_Under.j1])
        | succ kj2 =>
          have H := HA.out
          clear HA
          simp only [elenchusref16_Under.j1] at H
          by_cases c5 : x16_2 = true
          · subst c5
            have H1 : (if 0 ≤ x5_1 then (if x5_1 < (l0.length : Int) then (if x5_1 < (l1.length : Int) then (if (rd l0 x5_1) > (rd l1 x5_1) then (some false) else (elenchusref16_Under.l0 kj2 l0 l1 (wrap64 (x5_1 + 1)))) else (none)) else (none)) else (none)) = some r := by rw [if_pos rfl] at H; exact H
            clear H
            have H := H1
            clear H1
            by_cases c6 : 0 ≤ x5_1
            · rw [if_pos c6] at H
              have c6b0 : decide (0 ≤ x5_1) = true := decide_eq_true c6
              clear c6
              by_cases c7 : x5_1 < (l0.length : Int)
              · rw [if_pos c7] at H
                have c7b0 : decide (x5_1 < (l0.length : Int)) = true := decide_eq_true c7
                clear c7
                by_cases c8 : x5_1 < (l1.length : Int)
                · rw [if_pos c8] at H
                  have c8b0 : decide (x5_1 < (l1.length : Int)) = true := decide_eq_true c8
                  clear c8
                  by_cases c9 : (rd l0 x5_1) > (rd l1 x5_1)
                  · rw [if_pos c9] at H
                    have c9b0 : decide ((rd l1 x5_1) < (rd l0 x5_1)) = true := decide_eq_true c9
                    clear c9
                    obtain rfl := Option.some.inj H
                    have p678 : 0 ≤ (x5_1 : Int) := of_decide_eq_true (by first | (with_reducible assumption) | assumption)
                    have q678 : x5_1 < (l0.length : Int) := of_decide_eq_true (by first | (with_reducible assumption) | assumption)
                    obtain ⟨ad678, e678, hx678_0⟩ := Kd.at_int HR0.out x5_1 p678 q678
                    cases e678
                    replace p678 := eq_true p678
                    replace q678 := eq_true q678
                    have p679 : 0 ≤ (x5_1 : Int) := of_decide_eq_true (by first | (with_reducible assumption) | assumption)
                    have q679 : x5_1 < (l1.length : Int) := of_decide_eq_true (by first | (with_reducible assumption) | assumption)
                    obtain ⟨ad679, e679, hx679_0⟩ := Kd.at_int HR1.out x5_1 p679 q679
                    cases e679
                    replace p679 := eq_true p679
                    replace q679 := eq_true q679
                    go_wp2
                    repeat (go_quiet (fail); try go_wp2)
                    go_ret
                    exact ⟨by first | rfl | (simp; done) | (simp [*]; done), by repeat (first | exact Drawn0.refl _ | apply Drawn0.step)⟩
                  · rw [if_neg c9] at H
                    have c9b0 : decide ((rd l1 x5_1) < (rd l0 x5_1)) = false := decide_eq_false c9
                    clear c9
                    have H' := Aside0.mk H
                    clear H
                    have p678 : 0 ≤ (x5_1 : Int) := of_decide_eq_true (by first | (with_reducible assumption) | assumption)
                    have q678 : x5_1 < (l0.length : Int) := of_decide_eq_true (by first | (with_reducible assumption) | assumption)
                    obtain ⟨ad678, e678, hx678_0⟩ := Kd.at_int HR0.out x5_1 p678 q678
                    cases e678
                    replace p678 := eq_true p678
                    replace q678 := eq_true q678
                    have p679 : 0 ≤ (x5_1 : Int) := of_decide_eq_true (by first | (with_reducible assumption) | assumption)
                    have q679 : x5_1 < (l1.length : Int) := of_decide_eq_true (by first | (with_reducible assumption) | assumption)
                    obtain ⟨ad679, e679, hx679_0⟩ := Kd.at_int HR1.out x5_1 p679 q679
                    cases e679
                    replace p679 := eq_true p679
                    replace q679 := eq_true q679
                    go_wp2
                    repeat (go_quiet (fail); try go_wp2)
                    go_roundg kj2
                    case measure => have := HK1.out; have := HJ2.out; omega
                    case rel => exact ⟨(wrap64 (x5_1 + 1)), (by first | rfl | (simp; done) | (simp [*]; done)), H', ⟨by have := HK1.out; have := HJ2.out; omega⟩, by repeat (first | exact Drawn0.refl _ | apply Drawn0.step)⟩
                · rw [if_neg c8] at H
                  exact absurd H (by simp)
              · rw [if_neg c7] at H
                exact absurd H (by simp)
            · rw [if_neg c6] at H
              exact absurd H (by simp)
          · replace c5 := Bool.eq_false_iff.mpr c5
            subst c5
            have H1 : (some ((l0.length : Int) == (l1.length : Int))) = some r := by rw [if_neg (show ¬ (false = true) by decide)] at H; exact H
            clear H
            have H := H1
            clear H1
            obtain rfl := Option.some.inj H
            go_wp2
            repeat (go_quiet (fail); try go_wp2)
            go_ret
            exact ⟨by first | rfl | (simp; done) | (simp [*]; done), by repeat (first | exact Drawn0.refl _ | apply Drawn0.step)⟩
end Go.Proofs.Ythplndalbfcbbaa.PA
set_option linter.unusedSimpArgs false
set_option linter.unusedVariables false
namespace Go.Proofs.Ythplndalbfcbbaa
open Go.RowKit Go.Proofs.YthplndalbfcbbaaW.PrintWords
abbrev TS := PA.S25
abbrev kT := PA.k25
mutual
def toS : Tm → TS
  | .node h l => ⟨h, toSL l⟩
def toSL : List Tm → List TS
  | [] => []
  | t :: ts => toS t :: toSL ts
end
mutual
def ofS : TS → Tm
  | ⟨h, l⟩ => .node h (ofSL l)
def ofSL : List TS → List Tm
  | [] => []
  | x :: xs => ofS x :: ofSL xs
end
mutual
theorem ofS_toS : ∀ t : Tm, ofS (toS t) = t
  | .node h l => by simp only [toS, ofS, ofSL_toSL l]
theorem ofSL_toSL : ∀ l : List Tm, ofSL (toSL l) = l
  | [] => rfl
  | t :: ts => by simp only [toSL, ofSL, ofS_toS t, ofSL_toSL ts]
end
theorem toSL_map (l : List Tm) : toSL l = l.map toS := by induction l <;> simp_all [toSL]
theorem ofSL_map (l : List TS) : ofSL l = l.map ofS := by induction l <;> simp_all [ofSL]
theorem toSL_length (l : List Tm) : (toSL l).length = l.length := by rw [toSL_map]; simp
theorem ofSL_length (l : List TS) : (ofSL l).length = l.length := by rw [ofSL_map]; simp
theorem toS_f0 (t : Tm) : (toS t).f0 = t.h := by cases t; rfl
theorem toS_f1 (t : Tm) : (toS t).f1 = toSL t.args := by cases t; rfl
theorem add_flat (b off k : Nat) : (⟨b, off, none⟩ : Addr).add k = ⟨b, off + k, none⟩ := by unfold Addr.add; split <;> simp_all
mutual
theorem k_of {A : Nat → Prop} {w : World} : ∀ (t : Tm) (cs : List Value), RepD A w t.d cs → kT.K w (toS t) cs
  | .node h l, cs, hr => by
    obtain ⟨s, rfl, hs⟩ := repTm.1 hr
    have hs' : RepD A w (.row 2 (Tm.ds l)) [s] := hs
    simp only [RepD] at hs'
    obtain ⟨a, n, c, h1, h2, h3, h4, h5⟩ := hs'
    simp only [List.cons.injEq, and_true] at h1
    subst h1
    have hn : n = (toSL l).length := by rw [h2, Tm.ds_eq, toSL_length]; simp
    subst hn
    refine PA.k25_mk w (toS (.node h l)) (A1 := a) (c1 := c) h3 ⟨rfl, h4, fun h0 => ?_⟩
    obtain ⟨b, off, rfl, hb, hA, hR⟩ := h5 h0
    exact ⟨_, rfl, fun j p hp => by
      obtain ⟨c1, e1, e2, e3⟩ := kr_of l off hR j p hp
      exact ⟨c1, e1, e2, fun i u hu => by rw [add_flat, ← Nat.add_assoc]; exact e3 i u hu⟩⟩
theorem kr_of {A : Nat → Prop} {w : World} {b : Nat} : ∀ (l : List Tm) (off : Nat), RepR A w b 2 off (Tm.ds l) → ∀ j p, (toSL l)[j]? = some p → ∃ c : List Value, c.length = 2 ∧ kT.K w p c ∧ ∀ i u, c[i]? = some u → w.cell? ⟨b, off + j * 2 + i, none⟩ = some u
  | [], _, _, j, p, hp => by simp [toSL] at hp
  | t :: ts, off, h, j, p, hp => by
    simp only [Tm.ds, RepR] at h
    obtain ⟨⟨cs, e1, e2, e3⟩, h2⟩ := h
    cases j with
    | zero =>
      simp only [toSL, List.getElem?_cons_zero, Option.some.injEq] at hp
      subst hp
      refine ⟨cs, e1, k_of t cs e3, fun i u hu => ?_⟩
      have hi : i < 2 := by have := (List.getElem?_eq_some_iff.1 hu).1; omega
      rw [show off + 0 * 2 + i = off + i by omega, e2 i hi, hu]
    | succ j =>
      simp only [toSL, List.getElem?_cons_succ] at hp
      obtain ⟨c1, g1, g2, g3⟩ := kr_of ts (off + 2) h2 j p hp
      exact ⟨c1, g1, g2, fun i u hu => by rw [show off + (j + 1) * 2 + i = off + 2 + j * 2 + i by omega]; exact g3 i u hu⟩
end
theorem c_of {A : Nat → Prop} {w : World} {a : Option Addr} {n c : Nat} {l : List Tm} (hs : Terms A w (.slice a n c) l) : n = (toSL l).length ∧ (toSL l).length ≤ c ∧ kT.C w a (toSL l).length (toSL l) := by
  have hs' : RepD A w (.row 2 (Tm.ds l)) [.slice a n c] := hs
  simp only [RepD] at hs'
  obtain ⟨a', n', c', h1, h2, h3, h4, h5⟩ := hs'
  simp only [List.cons.injEq, and_true, Value.slice.injEq] at h1
  obtain ⟨rfl, rfl, rfl⟩ := h1
  have hn : n = (toSL l).length := by rw [h2, Tm.ds_eq, toSL_length]; simp
  subst hn
  refine ⟨rfl, h3, rfl, h4, fun h0 => ?_⟩
  obtain ⟨b, off, rfl, hb, hA, hR⟩ := h5 h0
  exact ⟨_, rfl, fun j p hp => by
    obtain ⟨c1, e1, e2, e3⟩ := kr_of l off hR j p hp
    exact ⟨c1, e1, e2, fun i u hu => by rw [add_flat, ← Nat.add_assoc]; exact e3 i u hu⟩⟩
theorem plain_of {w : World} {ad : Addr} {u : Value} (h : w.cell? ad = some u) : ad = ⟨ad.block, ad.off, none⟩ ∧ ad.block < w.heap.size := by
  refine ⟨?_, World.block_lt_of_cell? w ad h⟩
  cases ad with
  | mk b o s =>
    cases s with
    | none => rfl
    | some x =>
      unfold World.cell? at h
      split at h
      · simp at h
      · cases h
mutual
theorem tm_of {ok : Nat → Prop} {w : World} : ∀ (x : TS) (cs : List Value), Kd.FK kT w ok x cs → RepD (fun b => ¬ ok b) w (ofS x).d cs
  | ⟨h, l⟩, cs, hf => by
    obtain ⟨A1, c1, rfl, l1, g1⟩ := PA.k25_openF hf
    refine repTm.2 ⟨_, rfl, ?_⟩
    show RepD _ w (.row 2 (Tm.ds (ofSL l))) _
    simp only [RepD]
    refine ⟨A1, l.length, c1, rfl, by rw [Tm.ds_eq, List.length_map, ofSL_length], l1, Kd.F_max g1, fun h0 => ?_⟩
    obtain ⟨ad, c0, rfl, e1, _, e2, e3⟩ := Kd.F_get g1 PA.z25 0 (by omega) (by show (0 : Int) < (l.length : Int); omega)
    have hc0 : c0.length = 2 := e1
    have hcell := e2 0 (c0[0]'(by omega)) (List.getElem?_eq_getElem (by omega))
    obtain ⟨hp, hlt⟩ := plain_of (show w.cell? ad = some (c0[0]'(by omega)) from hcell)
    refine ⟨ad.block, ad.off, by rw [← hp], hlt, fun hn => hn (e3 (by show 0 < 2; omega)), tr_of l ad.off fun j p hj => ?_⟩
    have hjl := (List.getElem?_eq_some_iff.1 hj).1
    obtain ⟨ad', cs, he, g2, g3, g4, _⟩ := Kd.F_get g1 PA.z25 j (by omega) (by show (j : Int) < (l.length : Int); omega)
    simp only [Option.some.injEq] at he
    subst he
    have hx : l.getD (j : Int).toNat PA.z25 = p := by simp [List.getD_eq_getElem?_getD, hj]
    have g3' : Kd.FK kT w ok (l.getD (j : Int).toNat PA.z25) cs := g3
    rw [hx] at g3'
    refine ⟨cs, g2, g3', fun i u hu => ?_⟩
    have := g4 i u hu
    rw [hp, add_flat] at this
    rw [show ad.off + j * 2 + i = ad.off + ((j : Int).toNat * 2 + i) by simp; omega]
    exact this
theorem tr_of {ok : Nat → Prop} {w : World} {b : Nat} : ∀ (l : List TS) (off : Nat), (∀ j p, l[j]? = some p → ∃ cs : List Value, cs.length = 2 ∧ Kd.FK kT w ok p cs ∧ ∀ i u, cs[i]? = some u → w.cell? ⟨b, off + j * 2 + i, none⟩ = some u) → RepR (fun b => ¬ ok b) w b 2 off (Tm.ds (ofSL l))
  | [], _, _ => by simp only [ofSL, Tm.ds, RepR]
  | x :: xs, off, h => by
    simp only [ofSL, Tm.ds, RepR]
    obtain ⟨cs, e1, e2, e3⟩ := h 0 x rfl
    refine ⟨⟨cs, e1, fun i hi => ?_, tm_of x cs e2⟩, tr_of xs (off + 2) fun j p hj => ?_⟩
    · have := e3 i (cs[i]'(by omega)) (List.getElem?_eq_getElem (by omega))
      rw [show off + 0 * 2 + i = off + i by omega] at this
      rw [this, List.getElem?_eq_getElem (by omega)]
    · obtain ⟨c1, g1, g2, g3⟩ := h (j + 1) p (by simpa using hj)
      exact ⟨c1, g1, g2, fun i u hu => by rw [show off + 2 + j * 2 + i = off + (j + 1) * 2 + i by omega]; exact g3 i u hu⟩
end
theorem terms_of {ok : Nat → Prop} {w : World} {a : Option Addr} {c : Nat} {l : List TS} (hc : l.length ≤ c) (hf : Kd.F kT w ok a l.length l) : Terms (fun b => ¬ ok b) w (.slice a l.length c) (ofSL l) := by
  have h : Kd.FK kT w ok (⟨0, l⟩ : TS) [.int .i64 0, .slice a l.length c] := PA.k25_mkF w ok ⟨0, l⟩ hc hf
  have h2 := tm_of _ _ h
  obtain ⟨s, e, h3⟩ := repTm.1 h2
  simp only [List.cons.injEq, and_true] at e
  rw [e.2]; exact h3
theorem terms_of_c {w : World} {a : Option Addr} {c : Nat} {l : List TS} (hc : l.length ≤ c) (h : kT.C w a l.length l) : Terms (fun _ => False) w (.slice a l.length c) (ofSL l) :=
  RepD.frame (A := fun b => ¬ (b < w.heap.size)) (B := fun _ => False) (fun _ _ _ => rfl) (fun _ _ h => h.elim) _ _ (terms_of hc (Kd.C_F PA.k25_heap h))
end Go.Proofs.Ythplndalbfcbbaa
set_option linter.unusedSimpArgs false
set_option linter.unusedVariables false
namespace Go.Proofs.Ythplndalbfcbbaa
open Go.RowKit Go.Proofs.YthplndalbfcbbaaW.PrintWords
namespace PA
def elenchusref05_Few.f (l0 : List TS) : Option Bool := some (fewS (ofSL l0))
theorem elenchusref05_Few.calls (A0 : Option Addr) (c0 : Nat) (l0 : List TS) (r : Bool) (w : World) (hr0 : Kd.C kT w A0 l0.length l0) (hc0 : l0.length ≤ c0) (h : elenchusref05_Few.f l0 = some r) :
    Calls Try.prog 41 #[.slice A0 l0.length c0] w fun e w' => e = .returned (.bool r) ∧ Below w.heap.size w w' := by
  cases h
  exact few5_calls _ _ _ w (terms_of_c hc0 hr0)
def elenchusref01_In.f (a0 : Int) (l0 : List Int) : Option Bool := some (hasB a0 l0)
end PA
end Go.Proofs.Ythplndalbfcbbaa
namespace Go.Proofs.Ythplndalbfcbbaa.PA
open Go.RowKit Go.Proofs.YthplndalbfcbbaaW.PrintWords Go.Proofs.YthplndalbfcbbaaW.PrintLast Go.Proofs.YthplndalbfcbbaaW.PrintMore
attribute [local go_sem] max2_int min2_int max_two min_two max_three min_three max_four min_four   -- for this text's walks alone
set_option linter.unusedVariables false
set_option linter.unusedSimpArgs false
mutual
def elenchusref07_Few.l0 : Nat → List (S148) → Int → Option (Bool)
  | 0, _, _ => none
  | k + 1, x0, x3 => if x3 < (x0.length : Int) then (elenchusref07_Few.j1 k x0 x3 (decide ((x0.length : Int) ≤ 300))) else (elenchusref07_Few.j1 k x0 x3 false)
def elenchusref07_Few.j1 : Nat → List (S148) → Int → Bool → Option (Bool)
  | 0, _, _, _ => none
  | k + 1, x0, x3, x12 => if x12 = true then (if 0 ≤ x3 then (if x3 < (x0.length : Int) then (if (((rd_T148 x0 x3).f0).size : Int) > 100 then (some false) else (elenchusref07_Few.l0 k x0 (wrap64 (x3 + 1)))) else (none)) else (none)) else (some (decide ((x0.length : Int) ≤ 300)))
end
def elenchusref07_Few.f (k : Nat) (l0 : List (S148)) : Option (Bool) := elenchusref07_Few.l0 k l0 0
set_option maxHeartbeats 8000000 in
set_option maxRecDepth 100000 in
theorem elenchusref07_Few.calls (k : Nat) (A0 : Option Addr) (c0 : Nat) (l0 : List (S148)) (r : Bool) (w : World) (hr0 : Kd.C k148 w A0 l0.length l0) (hc0 : l0.length ≤ c0) (h : elenchusref07_Few.f k l0 = some r) :
    Calls Try.prog 118 #[.slice A0 l0.length c0] w fun e w' => e = .returned (.bool r) ∧ Drawn0 w w' := by
  have HR0 := Aside0.mk hr0
  have HC0 := Aside0.mk hc0
  clear hr0 hc0
  have H : (elenchusref07_Few.l0 k l0 0) = some r := h
  clear h
  have H' := Aside0.mk H
  clear H
  go_enter Try.func118, Try.ntmps118
  go_wp2
  go_loopg [3] k (fun kq v3 w' => ∃ (x3_1 : Int), v3 = .int .i64 x3_1 ∧ Aside0 (elenchusref07_Few.l0 kq l0 x3_1 = some r) ∧ Aside0 (kq ≤ k) ∧ Drawn0 w w')
  case atStart => exact ⟨(0), (by first | rfl | (simp; done) | (simp [*]; done)), H', ⟨Nat.le_refl _⟩, by repeat (first | exact Drawn0.refl _ | apply Drawn0.step)⟩
  case round =>
    clear H'
    try clear c1
    obtain ⟨x3_1, rfl, HA, HK1, ⟨m1, rfl⟩⟩ := hrel
    cases gk with
    | zero => exact absurd HA.out (by simp [elenchusref07_Few.l0])
    | succ k1 =>
      have H := HA.out
      clear HA
      simp only [elenchusref07_Few.l0] at H
      have HC2 := Aside0.mk H
      clear H
      go_upto_region 2 with (fail)
      go_cut [12] (fun v12 wc => ∃ (kq : Nat) (x12_1 : Bool), v12 = .bool x12_1 ∧ Aside0 (elenchusref07_Few.j1 kq l0 x3_1 x12_1 = some r) ∧ Aside0 (kq ≤ k1) ∧ Drawn0 w wc)
      case first =>
        have H := HC2.out
        clear HC2
        by_cases c3 : x3_1 < (l0.length : Int)
        · rw [if_pos c3] at H
          have c3b0 : decide (x3_1 < (l0.length : Int)) = true := decide_eq_true c3
          clear c3
          (first | rw [c3b0] | (simp only [i64_w, i32_w]; rw [c3b0]) | skip)
          have H' := Aside0.mk H
          clear H
          go_wp2
          go_meet
          case rel => exact ⟨_, (decide ((l0.length : Int) ≤ 300)), (by first | rfl | (simp; done) | (simp [*]; done)), H', ⟨by have := HK1.out; first | omega | exact Nat.le_refl _⟩, by repeat (first | exact Drawn0.refl _ | apply Drawn0.step)⟩
        · rw [if_neg c3] at H
          have c3b0 : decide (x3_1 < (l0.length : Int)) = false := decide_eq_false c3
          clear c3
          (first | rw [c3b0] | (simp only [i64_w, i32_w]; rw [c3b0]) | skip)
          have H' := Aside0.mk H
          clear H
          go_wp2
          go_meet
          case rel => exact ⟨_, (false), (by first | rfl | (simp; done) | (simp [*]; done)), H', ⟨by have := HK1.out; first | omega | exact Nat.le_refl _⟩, by repeat (first | exact Drawn0.refl _ | apply Drawn0.step)⟩
      case rest =>
        clear HC2
        try clear c1
        try clear p2
        try clear c3
        try clear c3b0
        obtain ⟨kq, x12_1, rfl, HA, HJ1, ⟨mc1, rfl⟩⟩ := hcut
        cases kq with
        | zero => exact absurd HA.out (by simp [elenchusref07_Few.j1])
        | succ kj1 =>
          have H := HA.out
          clear HA
          simp only [elenchusref07_Few.j1] at H
          by_cases c4 : x12_1 = true
          · subst c4
            have H1 : (if 0 ≤ x3_1 then (if x3_1 < (l0.length : Int) then (if (((rd_T148 l0 x3_1).f0).size : Int) > 100 then (some false) else (elenchusref07_Few.l0 kj1 l0 (wrap64 (x3_1 + 1)))) else (none)) else (none)) = some r := by rw [if_pos rfl] at H; exact H
            clear H
            have H := H1
            clear H1
            by_cases c5 : 0 ≤ x3_1
            · rw [if_pos c5] at H
              have c5b0 : decide (0 ≤ x3_1) = true := decide_eq_true c5
              clear c5
              by_cases c6 : x3_1 < (l0.length : Int)
              · rw [if_pos c6] at H
                have c6b0 : decide (x3_1 < (l0.length : Int)) = true := decide_eq_true c6
                clear c6
                by_cases c7 : (((rd_T148 l0 x3_1).f0).size : Int) > 100
                · rw [if_pos c7] at H
                  have c7b0 : decide (100 < (((rd_T148 l0 x3_1).f0).size : Int)) = true := decide_eq_true c7
                  have c7b1 : decide (100 < ((rd_T148 l0 x3_1).f0).size) = true := decide_eq_true (by omega)
                  clear c7
                  obtain rfl := Option.some.inj H
                  have p615 : 0 ≤ (x3_1 : Int) := of_decide_eq_true (by first | (with_reducible assumption) | assumption)
                  have q615 : x3_1 < (l0.length : Int) := of_decide_eq_true (by first | (with_reducible assumption) | assumption)
                  obtain ⟨ad615, e615, hx615_0, hx615_1, hx615_2, hx615_3⟩ := at_T148 HR0.out x3_1 p615 q615
                  cases e615
                  replace p615 := eq_true p615
                  replace q615 := eq_true q615
                  go_wp2
                  go_ret
                  exact ⟨by first | rfl | (simp; done) | (simp [*]; done), by repeat (first | exact Drawn0.refl _ | apply Drawn0.step)⟩
                · rw [if_neg c7] at H
                  have c7b0 : decide (100 < (((rd_T148 l0 x3_1).f0).size : Int)) = false := decide_eq_false c7
                  have c7b1 : decide (100 < ((rd_T148 l0 x3_1).f0).size) = false := decide_eq_false (by omega)
                  clear c7
                  have H' := Aside0.mk H
                  clear H
                  have p615 : 0 ≤ (x3_1 : Int) := of_decide_eq_true (by first | (with_reducible assumption) | assumption)
                  have q615 : x3_1 < (l0.length : Int) := of_decide_eq_true (by first | (with_reducible assumption) | assumption)
                  obtain ⟨ad615, e615, hx615_0, hx615_1, hx615_2, hx615_3⟩ := at_T148 HR0.out x3_1 p615 q615
                  cases e615
                  replace p615 := eq_true p615
                  replace q615 := eq_true q615
                  go_wp2
                  go_roundg kj1
                  case measure => have := HK1.out; have := HJ1.out; omega
                  case rel => exact ⟨(wrap64 (x3_1 + 1)), (by first | rfl | (simp; done) | (simp [*]; done)), H', ⟨by have := HK1.out; have := HJ1.out; omega⟩, by repeat (first | exact Drawn0.refl _ | apply Drawn0.step)⟩
              · rw [if_neg c6] at H
                exact absurd H (by simp)
            · rw [if_neg c5] at H
              exact absurd H (by simp)
          · replace c4 := Bool.eq_false_iff.mpr c4
            subst c4
            have H1 : (some (decide ((l0.length : Int) ≤ 300))) = some r := by rw [if_neg (show ¬ (false = true) by decide)] at H; exact H
            clear H
            have H := H1
            clear H1
            obtain rfl := Option.some.inj H
            go_wp2
            go_ret
            exact ⟨by first | rfl | (simp; done) | (simp [*]; done), by repeat (first | exact Drawn0.refl _ | apply Drawn0.step)⟩
end Go.Proofs.Ythplndalbfcbbaa.PA
namespace Go.Proofs.Ythplndalbfcbbaa.PA
open Go.RowKit Go.Proofs.YthplndalbfcbbaaW.PrintWords Go.Proofs.YthplndalbfcbbaaW.PrintLast Go.Proofs.YthplndalbfcbbaaW.PrintMore
attribute [local go_sem] max2_int min2_int max_two min_two max_three min_three max_four min_four   -- for this text's walks alone
set_option linter.unusedVariables false
set_option linter.unusedSimpArgs false
def elenchusref10_Terms.l0 : Nat → List (S142) → List (S25) → Int → Option ((List (S25)))
  | 0, _, _, _ => none
  | k + 1, x0, x3, x4 => if x4 < (x0.length : Int) then (if 0 ≤ x4 then ((some (([(⟨(rd_T142 x0 x4).f1.f0, (rd_T142 x0 x4).f1.f1⟩ : S25), (⟨(rd_T142 x0 x4).f2.f0, (rd_T142 x0 x4).f2.f1⟩ : S25)] : List (S25)) : List (S25))).bind fun y618 => (if x3.length + y618.length < 4398046511104 then (elenchusref10_Terms.l0 k x0 (x3 ++ y618) (wrap64 (x4 + 1))) else (none))) else (none)) else (some x3)
def elenchusref10_Terms.f (k : Nat) (l0 : List (S142)) : Option ((List (S25))) := elenchusref10_Terms.l0 k l0 ([] : List (S25)) 0
def elenchusref10_Terms.T5 : Bool × List (List Nat × List Nat) := (true, [([], []), ([], []), ([], []), ([1, 2], [1, 2]), ([3], [3]), ([4], [4]), ([], []), ([], []), ([6, 7], [6, 7]), ([8], [8]), ([9], [9]), ([5, 10], [5, 10]), ([0, 11], [0, 11]), ([12, 12, 0, 1, 2, 3, 4, 5, 6, 7, 8, 9, 10, 11, 12], [0, 12])])
def elenchusref10_Terms.B5 : List Nat := [0, 0, 0, 6, 14, 30, 0, 0, 192, 448, 960, 2046, 4095, 8191]
theorem elenchusref10_Terms.tab5 : rtab .any (opsOf Try.f120 5) = elenchusref10_Terms.T5 := by kernel_rfl
theorem elenchusref10_Terms.bits5 : waitsOk elenchusref10_Terms.T5.2 elenchusref10_Terms.B5 = true := by kernel_rfl
set_option maxHeartbeats 8000000 in
set_option maxRecDepth 100000 in
theorem elenchusref10_Terms.calls (k : Nat) (P0_ : Nat → Prop) (A0 : Option Addr) (c0 : Nat) (l0 : List (S142)) (r : List (S25)) (w : World) (hs0 : Kd.V k142 142 w w.heap.size (fun k_ => P0_ k_) (.slice A0 l0.length c0) l0) (h : elenchusref10_Terms.f k l0 = some r) :
    Calls Try.prog 120 #[.slice A0 l0.length c0] w fun e w' => ∃ v0_ : Value, e = .returned (v0_) ∧ Kd.N k25 25 w' w.heap.size (fun k_ => (P0_ k_ ∨ w.heap.size ≤ k_)) v0_ r ∧ Below w.heap.size w w' := by
  have hu25 := Try.underlying25
  have HO0 := Aside0.mk (show Kd.V k142 142 w w.heap.size (fun k_ => (P0_ k_ ∨ w.heap.size ≤ k_)) (.slice A0 l0.length c0) l0 from Kd.V_mono hs0 (fun k_ hk => .inl hk))
  have HB := Aside0.mk (Below.refl w.heap.size w)
  have H : (elenchusref10_Terms.l0 k l0 ([] : List (S25)) 0) = some r := h
  clear h
  have H' := Aside0.mk H
  clear H
  go_enter Try.func120, Try.ntmps120
  go_wp2
  go_loopg [3, 4] k (fun kq v3 v4 w' => ∃ (x3_1 : List (S25)) (x4_1 : Int), v4 = .int .i64 x4_1 ∧ Aside0 (elenchusref10_Terms.l0 kq l0 x3_1 x4_1 = some r) ∧ Aside0 (kq ≤ k) ∧ Aside0 (Kd.V k142 142 w' w.heap.size (fun k_ => (P0_ k_ ∨ w.heap.size ≤ k_) ∧ some k_ ≠ (v3 : Value).ownBlock) (.slice A0 l0.length c0) l0) ∧ Aside0 (Kd.N k25 25 w' w.heap.size (fun k_ => (P0_ k_ ∨ w.heap.size ≤ k_)) v3 x3_1) ∧ Aside0 (Below w.heap.size w w'))
  case atStart => exact ⟨(([] : List (S25))), (0), (by first | rfl | (simp; done) | (simp [*]; done)), H', ⟨Nat.le_refl _⟩, ⟨by (with_reducible repeat (first | apply Kd.V_alloc | apply Kd.V_drewN | apply Kd.V_drew)); exact Kd.V_mono HO0.out (fun _ hk => ⟨hk, (by simp [Value.ownBlock])⟩)⟩, ⟨by first | exact Kd.R_nil _ _ _ _ _ | exact Kd.N_nil _ _ _ _ _ | exact Kd.V_nil _ _ _ _ _ | exact Kd.Q_nil _ _ _ _ _ | exact Kd.S_nil _ _ _ _ _⟩, ⟨by repeat (first | (with_reducible first | exact HB.out | apply below_alloc | apply pw_below_drewN | apply below_drew1) | exact HB.out)⟩⟩
  case round =>
    clear H'
    try clear c1
    obtain ⟨x3_1, x4_1, rfl, HA, HK1, HO_0, HO_3, HB⟩ := hrel
    cases gk with
    | zero => exact absurd HA.out (by simp [elenchusref10_Terms.l0])
    | succ k1 =>
      have H := HA.out
      clear HA
      simp only [elenchusref10_Terms.l0] at H
      by_cases c2 : x4_1 < (l0.length : Int)
      · rw [if_pos c2] at H
        have c2b0 : decide (x4_1 < (l0.length : Int)) = true := decide_eq_true c2
        clear c2
        by_cases c3 : 0 ≤ x4_1
        · rw [if_pos c3] at H
          have c3b0 : decide (0 ≤ x4_1) = true := decide_eq_true c3
          clear c3
          obtain ⟨y618, hy618⟩ : ∃ y_ : List (S25), y_ = (([(⟨(rd_T142 l0 x4_1).f1.f0, (rd_T142 l0 x4_1).f1.f1⟩ : S25), (⟨(rd_T142 l0 x4_1).f2.f0, (rd_T142 l0 x4_1).f2.f1⟩ : S25)] : List (S25))) := ⟨_, rfl⟩
          replace H : (if x3_1.length + y618.length < 4398046511104 then (elenchusref10_Terms.l0 k1 l0 (x3_1 ++ y618) (wrap64 (x4_1 + 1))) else (none)) = some r := by first | (rw [hy618]; with_reducible exact H) | (have H2_ := (Option.bind_some _ _).symm.trans H; rw [hy618]; with_reducible exact H2_) | (have H2_ := (Option.bind_some _ _).symm.trans H; with_reducible exact H2_) | with_reducible exact H | (rw [hy618]; exact H) | exact H
          have Ny618 := Aside0.mk hy618
          clear hy618
          by_cases c4 : x3_1.length + y618.length < 4398046511104
          · rw [if_pos c4] at H
            have LMc4 := Aside0.mk c4
            clear c4
            obtain ⟨y621, hy621⟩ : ∃ y_ : List (S25), y_ = (x3_1 ++ y618) := ⟨_, rfl⟩
            replace H : (elenchusref10_Terms.l0 k1 l0 y621 (wrap64 (x4_1 + 1))) = some r := by first | (rw [hy621]; with_reducible exact H) | (have H2_ := (Option.bind_some _ _).symm.trans H; rw [hy621]; with_reducible exact H2_) | (have H2_ := (Option.bind_some _ _).symm.trans H; with_reducible exact H2_) | with_reducible exact H | (rw [hy621]; exact H) | exact H
            have Ny621 := Aside0.mk hy621
            clear hy621
            have H' := Aside0.mk H
            clear H
            try go_wp2
            have n0_ := Aside0.mk (Kd.V_drew HO_0.out)
            have n1_ := Aside0.mk (Kd.N_drew HO_3.out)
            have n2_ := Aside0.mk (below_drew1 HB.out)
            clear HO_0
            clear HO_3
            clear HB
            have HO_0 := n0_
            have HO_3 := n1_
            have HB := n2_
            clear n0_ n1_ n2_
            have p616 : 0 ≤ (x4_1 : Int) := of_decide_eq_true (by first | (with_reducible assumption) | assumption)
            have q616 : x4_1 < (l0.length : Int) := of_decide_eq_true (by first | (with_reducible assumption) | assumption)
            obtain ⟨ad616, A616_2, c616_2, A616_4, c616_4, e616, hx616_0, hx616_1, hx616_2, hx616_3, hx616_4, hl616_2, hi616_2, hl616_4, hi616_4⟩ := at_T142 (Kd.V_reads' HO_0.out).2.2 x4_1 p616 q616
            cases e616
            obtain ⟨ce616, hce616, hMe616, hcc616⟩ := Kd.V_get HO_0.out z142 x4_1 p616 (by first | exact q616 | exact of_decide_eq_true (by first | (with_reducible assumption) | assumption) | (have e_ := (Kd.V_reads' HO_0.out).1; omega))
            obtain ⟨ua616_2, uc616_2, ua616_4, uc616_4, rfl, ul616_2, ge616_2, ul616_4, ge616_4⟩ := k142_openF hMe616
            have hv616_2 := hcc616 2 _ rfl
            rw [add_field _ _ 2 (by omega)] at hv616_2
            replace hv616_2 := Option.some.inj (hv616_2.symm.trans hx616_2)
            injection hv616_2 with hva_ hvn_ hvc_
            rw [hva_] at ge616_2
            rw [hvc_] at ul616_2
            have HL616_2 := Aside0.mk (show Kd.V k25 25 _ w.heap.size _ _ ((rd_T142 l0 x4_1).f1.f1) from Kd.V_mk ul616_2 ge616_2)
            clear hva_ hvn_ hvc_ ge616_2 ul616_2
            have hv616_4 := hcc616 4 _ rfl
            rw [add_field _ _ 4 (by omega)] at hv616_4
            replace hv616_4 := Option.some.inj (hv616_4.symm.trans hx616_4)
            injection hv616_4 with hva_ hvn_ hvc_
            rw [hva_] at ge616_4
            rw [hvc_] at ul616_4
            have HL616_4 := Aside0.mk (show Kd.V k25 25 _ w.heap.size _ _ ((rd_T142 l0 x4_1).f2.f1) from Kd.V_mk ul616_4 ge616_4)
            clear hva_ hvn_ hvc_ ge616_4 ul616_4
            clear hcc616 hce616
            have HR616_2 := Aside0.mk hi616_2
            have HC616_2 := Aside0.mk hl616_2
            clear hi616_2 hl616_2
            have HR616_4 := Aside0.mk hi616_4
            have HC616_4 := Aside0.mk hl616_4
            clear hi616_4 hl616_4
            replace p616 := eq_true p616
            replace q616 := eq_true q616
            have p617 : 0 ≤ (x4_1 : Int) := of_decide_eq_true (by first | (with_reducible assumption) | assumption)
            have q617 : x4_1 < (l0.length : Int) := of_decide_eq_true (by first | (with_reducible assumption) | assumption)
            obtain ⟨ad617, A617_2, c617_2, A617_4, c617_4, e617, hx617_0, hx617_1, hx617_2, hx617_3, hx617_4, hl617_2, hi617_2, hl617_4, hi617_4⟩ := at_T142 (Kd.V_reads' HO_0.out).2.2 x4_1 p617 q617
            obtain rfl : ad616 = ad617 := (by injection e617)
            obtain ⟨ce617, hce617, hMe617, hcc617⟩ := Kd.V_get HO_0.out z142 x4_1 p617 (by first | exact q617 | exact of_decide_eq_true (by first | (with_reducible assumption) | assumption) | (have e_ := (Kd.V_reads' HO_0.out).1; omega))
            obtain ⟨ua617_2, uc617_2, ua617_4, uc617_4, rfl, ul617_2, ge617_2, ul617_4, ge617_4⟩ := k142_openF hMe617
            have hv617_2 := hcc617 2 _ rfl
            rw [add_field _ _ 2 (by omega)] at hv617_2
            replace hv617_2 := Option.some.inj (hv617_2.symm.trans hx617_2)
            injection hv617_2 with hva_ hvn_ hvc_
            rw [hva_] at ge617_2
            rw [hvc_] at ul617_2
            have HL617_2 := Aside0.mk (show Kd.V k25 25 _ w.heap.size _ _ ((rd_T142 l0 x4_1).f1.f1) from Kd.V_mk ul617_2 ge617_2)
            clear hva_ hvn_ hvc_ ge617_2 ul617_2
            have hv617_4 := hcc617 4 _ rfl
            rw [add_field _ _ 4 (by omega)] at hv617_4
            replace hv617_4 := Option.some.inj (hv617_4.symm.trans hx617_4)
            injection hv617_4 with hva_ hvn_ hvc_
            rw [hva_] at ge617_4
            rw [hvc_] at ul617_4
            have HL617_4 := Aside0.mk (show Kd.V k25 25 _ w.heap.size _ _ ((rd_T142 l0 x4_1).f2.f1) from Kd.V_mk ul617_4 ge617_4)
            clear hva_ hvn_ hvc_ ge617_4 ul617_4
            clear hcc617 hce617
            have HR617_2 := Aside0.mk hi617_2
            have HC617_2 := Aside0.mk hl617_2
            clear hi617_2 hl617_2
            have HR617_4 := Aside0.mk hi617_4
            have HC617_4 := Aside0.mk hl617_4
            clear hi617_4 hl617_4
            replace p617 := eq_true p617
            replace q617 := eq_true q617
            have ea_ := Option.some.inj (hx616_2.symm.trans hx617_2)
            injection ea_ with ea_ en_ ec_
            subst ea_
            subst ec_
            clear en_
            have ea_ := Option.some.inj (hx616_4.symm.trans hx617_4)
            injection ea_ with ea_ en_ ec_
            subst ea_
            subst ec_
            clear en_
            refine start_ (n := 14) (S := fun w' => w'.cell? (ad616.add ((x4_1).toNat * 5)) = some (.bool ((rd_T142 l0 x4_1).f0)) ∧ w'.cell? ⟨(ad616.add ((x4_1).toNat * 5)).block, (ad616.add ((x4_1).toNat * 5)).off + 1, none⟩ = some (.int .i64 ((rd_T142 l0 x4_1).f1.f0)) ∧ w'.cell? ⟨(ad616.add ((x4_1).toNat * 5)).block, (ad616.add ((x4_1).toNat * 5)).off + 2, none⟩ = some (.slice A616_2 ((rd_T142 l0 x4_1).f1.f1).length c616_2) ∧ w'.cell? ⟨(ad616.add ((x4_1).toNat * 5)).block, (ad616.add ((x4_1).toNat * 5)).off + 3, none⟩ = some (.int .i64 ((rd_T142 l0 x4_1).f2.f0)) ∧ w'.cell? ⟨(ad616.add ((x4_1).toNat * 5)).block, (ad616.add ((x4_1).toNat * 5)).off + 4, none⟩ = some (.slice A616_4 ((rd_T142 l0 x4_1).f2.f1).length c616_4) ∧ w'.cell? (ad616.add ((x4_1).toNat * 5)) = some (.bool ((rd_T142 l0 x4_1).f0)) ∧ w'.cell? ⟨(ad616.add ((x4_1).toNat * 5)).block, (ad616.add ((x4_1).toNat * 5)).off + 1, none⟩ = some (.int .i64 ((rd_T142 l0 x4_1).f1.f0)) ∧ w'.cell? ⟨(ad616.add ((x4_1).toNat * 5)).block, (ad616.add ((x4_1).toNat * 5)).off + 2, none⟩ = some (.slice A616_2 ((rd_T142 l0 x4_1).f1.f1).length c616_2) ∧ w'.cell? ⟨(ad616.add ((x4_1).toNat * 5)).block, (ad616.add ((x4_1).toNat * 5)).off + 3, none⟩ = some (.int .i64 ((rd_T142 l0 x4_1).f2.f0)) ∧ w'.cell? ⟨(ad616.add ((x4_1).toNat * 5)).block, (ad616.add ((x4_1).toNat * 5)).off + 4, none⟩ = some (.slice A616_4 ((rd_T142 l0 x4_1).f2.f1).length c616_4)) (ds := [12]) #[false, false, false, false, false, false, false, false, false, false, false, false, false, false] (by kernel_rfl) rfl rfl ⟨hx616_0, hx616_1, hx616_2, hx616_3, hx616_4, hx617_0, hx617_1, hx617_2, hx617_3, hx617_4⟩ (fun hHeld => ?_); refine with_tabW elenchusref10_Terms.tab5 elenchusref10_Terms.bits5 (fun HT_ HW_ => ?_)
            generalize wr.drew = w5 at HO_0 HO_3 HB HL616_2 HL616_4 HL617_2 HL617_4 HR616_2 HR616_4 HR617_2 HR617_4 hx616_0 hx616_1 hx616_2 hx616_3 hx616_4 hx617_0 hx617_1 hx617_2 hx617_3 hx617_4 hHeld ⊢
            refine pure_ (i := 0) (N := some 11) (v := ?_) (a' := ?_) #[true, false, false, false, false, false, false, false, false, false, false, false, false, false] rfl rfl (any_of HT_.out (by kernel_rfl)) (fun _ _ _ h => h) (Or.inl ⟨by rfl, ?_⟩) ?_ ?_
            rotate_left
            · intro w'
              go_simp
              with_reducible rfl
            rotate_left
            · simp only [Act.put, List.setIfInBounds_toArray, List.set_cons_zero, List.set_cons_succ, i64_w, i32_w]
              rfl
            refine pure_ (i := 1) (N := some 12) (v := ?_) (a' := ?_) #[true, true, false, false, false, false, false, false, false, false, false, false, false, false] rfl rfl (any_of HT_.out (by kernel_rfl)) (fun _ _ _ h => h) (Or.inl ⟨by rfl, ?_⟩) ?_ ?_
            rotate_left
            · intro w'
              go_simp
              with_reducible rfl
            rotate_left
            · simp only [Act.put, List.setIfInBounds_toArray, List.set_cons_zero, List.set_cons_succ, i64_w, i32_w]
              rfl
            refine pure_ (i := 2) (N := some 13) (v := ?_) (a' := ?_) #[true, true, true, false, false, false, false, false, false, false, false, false, false, false] rfl rfl (any_of HT_.out (by kernel_rfl)) (fun _ _ _ h => h) (Or.inl ⟨by rfl, ?_⟩) ?_ ?_
            rotate_left
            · intro w'
              go_simp
              with_reducible rfl
            rotate_left
            · simp only [Act.put, List.setIfInBounds_toArray, List.set_cons_zero, List.set_cons_succ, i64_w, i32_w]
              rfl
            refine pure_ (i := 3) (N := some 14) (v := ?_) (a' := ?_) #[true, true, true, true, false, false, false, false, false, false, false, false, false, false] rfl rfl (any_of HT_.out (by kernel_rfl)) (fun _ _ _ h => h) (Or.inl ⟨by rfl, ?_⟩) ?_ ?_
            rotate_left
            · intro w'
              go_simp
              with_reducible rfl
            rotate_left
            · simp only [Act.put, List.setIfInBounds_toArray, List.set_cons_zero, List.set_cons_succ, i64_w, i32_w]
              rfl
            refine pure_ (i := 4) (N := some 15) (v := ?_) (a' := ?_) #[true, true, true, true, true, false, false, false, false, false, false, false, false, false] rfl rfl (any_of HT_.out (by kernel_rfl)) (fun _ _ _ h => h) (Or.inl ⟨by rfl, ?_⟩) ?_ ?_
            rotate_left
            · intro w'
              go_simp
              with_reducible rfl
            rotate_left
            · simp only [Act.put, List.setIfInBounds_toArray, List.set_cons_zero, List.set_cons_succ, i64_w, i32_w]
              rfl
            refine pure_ (i := 6) (N := some 17) (v := ?_) (a' := ?_) #[true, true, true, true, true, false, true, false, false, false, false, false, false, false] rfl rfl (any_of HT_.out (by kernel_rfl)) (fun _ _ _ h => h) (Or.inl ⟨by rfl, ?_⟩) ?_ ?_
            rotate_left
            · intro w'
              go_simp
              with_reducible rfl
            rotate_left
            · simp only [Act.put, List.setIfInBounds_toArray, List.set_cons_zero, List.set_cons_succ, i64_w, i32_w]
              rfl
            refine pure_ (i := 7) (N := some 18) (v := ?_) (a' := ?_) #[true, true, true, true, true, false, true, true, false, false, false, false, false, false] rfl rfl (any_of HT_.out (by kernel_rfl)) (fun _ _ _ h => h) (Or.inl ⟨by rfl, ?_⟩) ?_ ?_
            rotate_left
            · intro w'
              go_simp
              with_reducible rfl
            rotate_left
            · simp only [Act.put, List.setIfInBounds_toArray, List.set_cons_zero, List.set_cons_succ, i64_w, i32_w]
              rfl
            refine pure_ (i := 8) (N := some 19) (v := ?_) (a' := ?_) #[true, true, true, true, true, false, true, true, true, false, false, false, false, false] rfl rfl (any_of HT_.out (by kernel_rfl)) (fun _ _ _ h => h) (Or.inl ⟨by rfl, ?_⟩) ?_ ?_
            rotate_left
            · intro w'
              go_simp
              with_reducible rfl
            rotate_left
            · simp only [Act.put, List.setIfInBounds_toArray, List.set_cons_zero, List.set_cons_succ, i64_w, i32_w]
              rfl
            refine pure_ (i := 9) (N := some 20) (v := ?_) (a' := ?_) #[true, true, true, true, true, false, true, true, true, true, false, false, false, false] rfl rfl (any_of HT_.out (by kernel_rfl)) (fun _ _ _ h => h) (Or.inl ⟨by rfl, ?_⟩) ?_ ?_
            rotate_left
            · intro w'
              go_simp
              with_reducible rfl
            rotate_left
            · simp only [Act.put, List.setIfInBounds_toArray, List.set_cons_zero, List.set_cons_succ, i64_w, i32_w]
              rfl
            refine take_ (i := 5) (N := some 16) (v := ?_) (a' := ?_) #[true, true, true, true, true, true, true, true, true, true, false, false, false, false] rfl rfl (take_ofW HT_.out HW_.out (by kernel_rfl)) (fun _ _ _ h => h) (Or.inl ⟨by rfl, ?_⟩) hHeld ?_ ?_
            rotate_left
            · rintro w' ⟨s0, s1, s2, s3, s4, s5, s6, s7, s8, s9⟩
              go_simp
              with_reducible rfl
            rotate_left
            · simp only [Act.put, List.setIfInBounds_toArray, List.set_cons_zero, List.set_cons_succ, i64_w, i32_w]
              rfl
            refine take_ (i := 10) (N := some 21) (v := ?_) (a' := ?_) #[true, true, true, true, true, true, true, true, true, true, true, false, false, false] rfl rfl (take_ofW HT_.out HW_.out (by kernel_rfl)) (fun _ _ _ h => h) (Or.inl ⟨by rfl, ?_⟩) hHeld ?_ ?_
            rotate_left
            · rintro w' ⟨s0, s1, s2, s3, s4, s5, s6, s7, s8, s9⟩
              go_simp
              with_reducible rfl
            rotate_left
            · simp only [Act.put, List.setIfInBounds_toArray, List.set_cons_zero, List.set_cons_succ, i64_w, i32_w]
              rfl
            refine one_ (i := 11) (N := some 22) #[true, true, true, true, true, true, true, true, true, true, true, true, false, false] rfl rfl (one_of HT_.out (by kernel_rfl)) (by decide) (fun K hK => ?_)
            refine Kd.N_lit_step k25 _ 25 ?hg (N' := 22) ?hd (xs := ([(⟨(rd_T142 l0 x4_1).f1.f0, (rd_T142 l0 x4_1).f1.f1⟩ : S25), (⟨(rd_T142 l0 x4_1).f2.f0, (rd_T142 l0 x4_1).f2.f1⟩ : S25)] : List (S25))) (inner := [.int .i64 ((rd_T142 l0 x4_1).f1.f0), .slice A616_2 ((rd_T142 l0 x4_1).f1.f1).length c616_2, .int .i64 ((rd_T142 l0 x4_1).f2.f0), .slice A616_4 ((rd_T142 l0 x4_1).f2.f1).length c616_4]) (ok := (fun k_ => (P0_ k_ ∨ w.heap.size ≤ k_) ∧ some k_ ≠ (u3 : Value).ownBlock)) (okp := (fun k_ => (P0_ k_ ∨ w.heap.size ≤ k_) ∧ some k_ ≠ (u3 : Value).ownBlock)) ?hr ?hp (fun _ hk => hk) ((show ∀ k_, w5.heap.size ≤ k_ → (fun k_ => (P0_ k_ ∨ w.heap.size ≤ k_) ∧ some k_ ≠ (u3 : Value).ownBlock) k_ from fun k_ hk => ⟨(.inr (Nat.le_trans (below_size (by repeat (first | (with_reducible first | exact HB.out | apply below_alloc | apply pw_below_drewN | apply below_drew1) | exact HB.out))) hk)), Kd.fresh' (Kd.N_lt (by (with_reducible repeat (first | apply Kd.N_alloc | apply Kd.N_drewN | apply Kd.N_drew)); exact HO_3.out)) k_ hk⟩) _ (Nat.le_refl _)) (Below.refl _ _) (Nat.le_refl _) (by simp) ?_; (case hd => rfl); (case hg => rfl); (case hr => first | (go_simp; done) | (go_simp; rfl)); (case hp => exact (Reps.c2 (show Kd.FK k25 _ _ (⟨(rd_T142 l0 x4_1).f1.f0, (rd_T142 l0 x4_1).f1.f1⟩ : S25) [.int .i64 ((rd_T142 l0 x4_1).f1.f0), .slice A616_2 ((rd_T142 l0 x4_1).f1.f1).length c616_2] from (k25_mkF _ _ (⟨(rd_T142 l0 x4_1).f1.f0, (rd_T142 l0 x4_1).f1.f1⟩ : S25) (Kd.V_reads' (Kd.V_mono (ok' := (fun k_ => (P0_ k_ ∨ w.heap.size ≤ k_) ∧ some k_ ≠ (u3 : Value).ownBlock)) (HL616_2.out) (fun k_ hk => ⟨hk.1, hk.2⟩))).2.1 (Kd.V_F (Kd.V_mono (ok' := (fun k_ => (P0_ k_ ∨ w.heap.size ≤ k_) ∧ some k_ ≠ (u3 : Value).ownBlock)) (HL616_2.out) (fun k_ hk => ⟨hk.1, hk.2⟩))))) (Reps.c2 (show Kd.FK k25 _ _ (⟨(rd_T142 l0 x4_1).f2.f0, (rd_T142 l0 x4_1).f2.f1⟩ : S25) [.int .i64 ((rd_T142 l0 x4_1).f2.f0), .slice A616_4 ((rd_T142 l0 x4_1).f2.f1).length c616_4] from (k25_mkF _ _ (⟨(rd_T142 l0 x4_1).f2.f0, (rd_T142 l0 x4_1).f2.f1⟩ : S25) (Kd.V_reads' (Kd.V_mono (ok' := (fun k_ => (P0_ k_ ∨ w.heap.size ≤ k_) ∧ some k_ ≠ (u3 : Value).ownBlock)) (HL617_4.out) (fun k_ hk => ⟨hk.1, hk.2⟩))).2.1 (Kd.V_F (Kd.V_mono (ok' := (fun k_ => (P0_ k_ ∨ w.heap.size ≤ k_) ∧ some k_ ≠ (u3 : Value).ownBlock)) (HL617_4.out) (fun k_ hk => ⟨hk.1, hk.2⟩))))) (Reps.none _ _))))
            intro v619 w6 ho7 hb hg_ hnew_
            have HS0_ := (hb.cell (World.block_lt_of_cell? _ _ (hHeld.1))).trans (hHeld.1)
            have HS1_ := (hb.cell (World.block_lt_of_cell? _ _ (hHeld.2.1))).trans (hHeld.2.1)
            have HS2_ := (hb.cell (World.block_lt_of_cell? _ _ (hHeld.2.2.1))).trans (hHeld.2.2.1)
            have HS3_ := (hb.cell (World.block_lt_of_cell? _ _ (hHeld.2.2.2.1))).trans (hHeld.2.2.2.1)
            have HS4_ := (hb.cell (World.block_lt_of_cell? _ _ (hHeld.2.2.2.2.1))).trans (hHeld.2.2.2.2.1)
            have HS5_ := (hb.cell (World.block_lt_of_cell? _ _ (hHeld.2.2.2.2.2.1))).trans (hHeld.2.2.2.2.2.1)
            have HS6_ := (hb.cell (World.block_lt_of_cell? _ _ (hHeld.2.2.2.2.2.2.1))).trans (hHeld.2.2.2.2.2.2.1)
            have HS7_ := (hb.cell (World.block_lt_of_cell? _ _ (hHeld.2.2.2.2.2.2.2.1))).trans (hHeld.2.2.2.2.2.2.2.1)
            have HS8_ := (hb.cell (World.block_lt_of_cell? _ _ (hHeld.2.2.2.2.2.2.2.2.1))).trans (hHeld.2.2.2.2.2.2.2.2.1)
            have HS9_ := (hb.cell (World.block_lt_of_cell? _ _ (hHeld.2.2.2.2.2.2.2.2.2))).trans (hHeld.2.2.2.2.2.2.2.2.2)
            clear hg_ hnew_
            (first | rw [← Ny618.out] at ho7 | (simp only [Int.reduceToNat] at ho7; rw [← Ny618.out] at ho7))
            have n0_ := Aside0.mk (Kd.V_elder' (by (with_reducible repeat (first | apply Kd.V_alloc | apply Kd.V_drewN | apply Kd.V_drew)); exact HO_0.out) (by first | exact Kd.N_base ho7 | exact Kd.R_base ho7) hb)
            have n1_ := Aside0.mk (Kd.N_elder' (by (with_reducible repeat (first | apply Kd.N_alloc | apply Kd.N_drewN | apply Kd.N_drew)); exact HO_3.out) (by first | exact Kd.N_base ho7 | exact Kd.R_base ho7) hb)
            have n2_ := Aside0.mk (Kd.V_elder' (by (with_reducible repeat (first | apply Kd.V_alloc | apply Kd.V_drewN | apply Kd.V_drew)); exact HL616_2.out) (by first | exact Kd.N_base ho7 | exact Kd.R_base ho7) hb)
            have n3_ := Aside0.mk (Kd.V_elder' (by (with_reducible repeat (first | apply Kd.V_alloc | apply Kd.V_drewN | apply Kd.V_drew)); exact HL616_4.out) (by first | exact Kd.N_base ho7 | exact Kd.R_base ho7) hb)
            have n4_ := Aside0.mk (Kd.V_elder' (by (with_reducible repeat (first | apply Kd.V_alloc | apply Kd.V_drewN | apply Kd.V_drew)); exact HL617_2.out) (by first | exact Kd.N_base ho7 | exact Kd.R_base ho7) hb)
            have n5_ := Aside0.mk (Kd.V_elder' (by (with_reducible repeat (first | apply Kd.V_alloc | apply Kd.V_drewN | apply Kd.V_drew)); exact HL617_4.out) (by first | exact Kd.N_base ho7 | exact Kd.R_base ho7) hb)
            have n6_ := Aside0.mk (Kd.N_lower ho7 (below_size (by repeat (first | (with_reducible first | exact HB.out | apply below_alloc | apply pw_below_drewN | apply below_drew1) | exact HB.out))))
            have n7_ := Aside0.mk (Kd.C_below (by repeat (first | (with_reducible exact HR616_2.out) | (with_reducible refine Kd.C_alloc ?_ _) | (with_reducible refine Kd.C_drewN ?_ _) | (with_reducible refine Kd.C_drew ?_) | exact HR616_2.out)) hb)
            have n8_ := Aside0.mk (Kd.C_below (by repeat (first | (with_reducible exact HR616_4.out) | (with_reducible refine Kd.C_alloc ?_ _) | (with_reducible refine Kd.C_drewN ?_ _) | (with_reducible refine Kd.C_drew ?_) | exact HR616_4.out)) hb)
            have n9_ := Aside0.mk (Kd.C_below (by repeat (first | (with_reducible exact HR617_2.out) | (with_reducible refine Kd.C_alloc ?_ _) | (with_reducible refine Kd.C_drewN ?_ _) | (with_reducible refine Kd.C_drew ?_) | exact HR617_2.out)) hb)
            have n10_ := Aside0.mk (Kd.C_below (by repeat (first | (with_reducible exact HR617_4.out) | (with_reducible refine Kd.C_alloc ?_ _) | (with_reducible refine Kd.C_drewN ?_ _) | (with_reducible refine Kd.C_drew ?_) | exact HR617_4.out)) hb)
            have n11_ := Aside0.mk (below_step (by repeat (first | (with_reducible first | exact HB.out | apply below_alloc | apply pw_below_drewN | apply below_drew1) | exact HB.out)) hb)
            clear HO_0
            clear HO_3
            clear HL616_2
            clear HL616_4
            clear HL617_2
            clear HL617_4
            clear HR616_2
            clear HR616_4
            clear HR617_2
            clear HR617_4
            clear HB
            have HO_0 := n0_
            have HO_3 := n1_
            have HL616_2 := n2_
            have HL616_4 := n3_
            have HL617_2 := n4_
            have HL617_4 := n5_
            have HO620 := n6_
            have HR616_2 := n7_
            have HR616_4 := n8_
            have HR617_2 := n9_
            have HR617_4 := n10_
            have HB := n11_
            clear n0_ n1_ n2_ n3_ n4_ n5_ n6_ n7_ n8_ n9_ n10_ n11_
            clear hb ho7
            obtain ⟨Ao9, co9, eo9⟩ := Kd.N_slice HO620.out
            (first | subst eo9 | (injection eo9 with f1_ f2_ f3_; have f4_ := f1_.symm; have f5_ := f3_.symm; clear f1_ f2_ f3_; subst f4_; subst f5_))
            refine hK.out _ _ ⟨HS0_, HS1_, HS2_, HS3_, HS4_, HS5_, HS6_, HS7_, HS8_, HS9_⟩ (fun hHeld => ?_)
            clear hK K
            refine norm_ (a' := ?_) ?_ ?_
            rotate_left
            · show Act.put _ (some 22) _ = _
              simp only [Act.put, List.setIfInBounds_toArray, List.set_cons_zero, List.set_cons_succ, i64_w, i32_w]
              rfl
            refine last_ (i := 12) (N := some 23) #[true, true, true, true, true, true, true, true, true, true, true, true, true, false] rfl rfl (one_of HT_.out (by kernel_rfl)) (by decide) (fun K hK => ?_)
            refine Kd.N_append_rows_step k25 (w0 := w) w.heap.size (by rfl) (.tmp 11) (.tmp 22) 23 25 (.agg #[(.int .i64 0), (.slice none 0 0)]) 32 rfl Try.underlying23 info25 rfl (by decide) (by omega) u3 x3_1 y618 _ _ _ (fun k_ => (P0_ k_ ∨ w.heap.size ≤ k_)) (fun k_ => ((fun k_ => (P0_ k_ ∨ w.heap.size ≤ k_))) k_ ∧ some k_ ≠ (u3 : Value).ownBlock) rfl rfl ?aO ?aR (fun _ hk => hk) ?aF ?aB ?aS ?aL ?_
            (case aR => exact (by skip; exact Kd.N_F (Kd.N_mono (ok' := (fun k_ => ((fun k_ => (P0_ k_ ∨ w.heap.size ≤ k_))) k_ ∧ some k_ ≠ (u3 : Value).ownBlock)) (HO620.out) (fun k_ hk => ⟨hk.1, hk.2⟩))))
            (case aB => exact (by repeat (first | (with_reducible first | exact HB.out | apply below_alloc | apply pw_below_drewN | apply below_drew1) | exact HB.out)))
            (case aF => exact (fun k_ hk => (.inr (Nat.le_trans (below_size (by repeat (first | (with_reducible first | exact HB.out | apply below_alloc | apply pw_below_drewN | apply below_drew1) | exact HB.out))) hk))))
            (case aO => exact (by (with_reducible repeat (first | apply Kd.N_alloc | apply Kd.N_drewN | apply Kd.N_drew)); exact Kd.N_mono HO_3.out (fun _ hk => hk.1)))
            (case aS => exact (below_size (by repeat (first | (with_reducible first | exact HB.out | apply below_alloc | apply pw_below_drewN | apply below_drew1) | exact HB.out))))
            (case aL => have := LMc4.out; omega)
            intro v622 w8 ho hb hg hat
            rw [← Ny621.out] at ho
            have n0_ := Aside0.mk (Kd.V_afterv (ok := (fun k_ => (P0_ k_ ∨ w.heap.size ≤ k_) ∧ some k_ ≠ (.slice Ao9 y618.length co9 : Value).ownBlock)) (by (with_reducible repeat (first | apply Kd.V_alloc | apply Kd.V_drewN | apply Kd.V_drew)); exact Kd.V_mono HO_0.out (fun _ hk => ⟨⟨hk.1.1, hk.2⟩, hk.1.2⟩)) hg hat)
            have n1_ := Aside0.mk (Kd.V_afterv (ok := (fun k_ => (P0_ k_ ∨ w.heap.size ≤ k_) ∧ some k_ ≠ (.slice Ao9 y618.length co9 : Value).ownBlock)) (by (with_reducible repeat (first | apply Kd.V_alloc | apply Kd.V_drewN | apply Kd.V_drew)); exact Kd.V_mono HL616_2.out (fun _ hk => ⟨⟨hk.1.1, hk.2⟩, hk.1.2⟩)) hg hat)
            have n2_ := Aside0.mk (Kd.V_afterv (ok := (fun k_ => (P0_ k_ ∨ w.heap.size ≤ k_) ∧ some k_ ≠ (.slice Ao9 y618.length co9 : Value).ownBlock)) (by (with_reducible repeat (first | apply Kd.V_alloc | apply Kd.V_drewN | apply Kd.V_drew)); exact Kd.V_mono HL616_4.out (fun _ hk => ⟨⟨hk.1.1, hk.2⟩, hk.1.2⟩)) hg hat)
            have n3_ := Aside0.mk (Kd.V_afterv (ok := (fun k_ => (P0_ k_ ∨ w.heap.size ≤ k_) ∧ some k_ ≠ (.slice Ao9 y618.length co9 : Value).ownBlock)) (by (with_reducible repeat (first | apply Kd.V_alloc | apply Kd.V_drewN | apply Kd.V_drew)); exact Kd.V_mono HL617_2.out (fun _ hk => ⟨⟨hk.1.1, hk.2⟩, hk.1.2⟩)) hg hat)
            have n4_ := Aside0.mk (Kd.V_afterv (ok := (fun k_ => (P0_ k_ ∨ w.heap.size ≤ k_) ∧ some k_ ≠ (.slice Ao9 y618.length co9 : Value).ownBlock)) (by (with_reducible repeat (first | apply Kd.V_alloc | apply Kd.V_drewN | apply Kd.V_drew)); exact Kd.V_mono HL617_4.out (fun _ hk => ⟨⟨hk.1.1, hk.2⟩, hk.1.2⟩)) hg hat)
            have n5_ := Aside0.mk (Kd.N_afterv (ok := (fun k_ => (P0_ k_ ∨ w.heap.size ≤ k_))) (by (with_reducible repeat (first | apply Kd.N_alloc | apply Kd.N_drewN | apply Kd.N_drew)); exact HO620.out) hg hat)
            have n6_ := Aside0.mk (hb)
            have n7_ := Aside0.mk (ho)
            clear HO_0
            clear HL616_2
            clear HL616_4
            clear HL617_2
            clear HL617_4
            clear HO620
            clear HB
            clear HO_3
            have HO_0 := n0_
            have HL616_2 := n1_
            have HL616_4 := n2_
            have HL617_2 := n3_
            have HL617_4 := n4_
            have HO620 := n5_
            have HB := n6_
            have HO623 := n7_
            clear n0_ n1_ n2_ n3_ n4_ n5_ n6_ n7_
            clear ho hb hg hat
            refine hK.out _ _ ?_
            clear hK K
            refine norm_ (a' := ?_) ?_ ?_
            rotate_left
            · show Act.put _ (some 23) _ = _
              simp only [Act.put, List.setIfInBounds_toArray, List.set_cons_zero, List.set_cons_succ, i64_w, i32_w]
              rfl
            refine pure_ (i := 13) (N := some 3) (v := ?_) (a' := ?_) #[true, true, true, true, true, true, true, true, true, true, true, true, true, true] rfl rfl (any_of HT_.out (by kernel_rfl)) (fun _ _ _ h => h) (Or.inl ⟨by rfl, ?_⟩) ?_ ?_
            rotate_left
            · intro w'
              go_simp
              with_reducible rfl
            rotate_left
            · simp only [Act.put, List.setIfInBounds_toArray, List.set_cons_zero, List.set_cons_succ, i64_w, i32_w]
              rfl
            refine done_ (done_of HT_.out (by kernel_rfl)) ?_
            try go_wp2
            go_roundg k1
            case measure => have := HK1.out; omega
            case rel => exact ⟨(y621), (wrap64 (x4_1 + 1)), (by first | rfl | (simp; done) | (simp [*]; done)), H', ⟨by have := HK1.out; omega⟩, ⟨by (with_reducible repeat (first | apply Kd.V_alloc | apply Kd.V_drewN | apply Kd.V_drew)); exact Kd.V_mono HO_0.out (fun _ hk => ⟨hk.1.1, hk.2⟩)⟩, ⟨by (with_reducible repeat (first | apply Kd.N_alloc | apply Kd.N_drewN | apply Kd.N_drew)); exact HO623.out⟩, ⟨by repeat (first | (with_reducible first | exact HB.out | apply below_alloc | apply pw_below_drewN | apply below_drew1) | exact HB.out)⟩⟩
          · rw [if_neg c4] at H
            exact absurd H (by simp)
        · rw [if_neg c3] at H
          exact absurd H (by simp)
      · rw [if_neg c2] at H
        have c2b0 : decide (x4_1 < (l0.length : Int)) = false := decide_eq_false c2
        clear c2
        obtain rfl := Option.some.inj H
        go_wp2
        go_ret
        exact ⟨_, by first | rfl | (simp [errW_none, errW_some] <;> rfl) | (simp [*, errW_none, errW_some] <;> rfl), by (with_reducible repeat (first | apply Kd.N_alloc | apply Kd.N_drewN | apply Kd.N_drew)); exact HO_3.out, by repeat (first | (with_reducible first | exact HB.out | apply below_alloc | apply pw_below_drewN | apply below_drew1) | exact HB.out)⟩
end Go.Proofs.Ythplndalbfcbbaa.PA
namespace Go.Proofs.Ythplndalbfcbbaa.PA
open Go.RowKit Go.Proofs.YthplndalbfcbbaaW.PrintWords Go.Proofs.YthplndalbfcbbaaW.PrintLast Go.Proofs.YthplndalbfcbbaaW.PrintMore
attribute [local go_sem] max2_int min2_int max_two min_two max_three min_three max_four min_four   -- for this text's walks alone
set_option linter.unusedVariables false
set_option linter.unusedSimpArgs false
def elenchusref10_Few.f (k : Nat) (l0 : List (S142)) : Option (Bool) := if (l0.length : Int) ≤ 40 then ((elenchusref10_Terms.f k l0).bind fun t624 => ((elenchusref05_Few.f t624).bind fun t627 => (some t627))) else (some false)
set_option maxHeartbeats 8000000 in
set_option maxRecDepth 100000 in
theorem elenchusref10_Few.calls (k : Nat) (A0 : Option Addr) (c0 : Nat) (l0 : List (S142)) (r : Bool) (w : World) (hr0 : Kd.C k142 w A0 l0.length l0) (hc0 : l0.length ≤ c0) (h : elenchusref10_Few.f k l0 = some r) :
    Calls Try.prog 119 #[.slice A0 l0.length c0] w fun e w' => e = .returned (.bool r) ∧ Below w.heap.size w w' := by
  have HR0 := Aside0.mk hr0
  have HC0 := Aside0.mk hc0
  clear hr0 hc0
  have HB := Aside0.mk (Below.refl w.heap.size w)
  have H : (if (l0.length : Int) ≤ 40 then ((elenchusref10_Terms.f k l0).bind fun t624 => ((elenchusref05_Few.f t624).bind fun t627 => (some t627))) else (some false)) = some r := h
  clear h
  by_cases c2 : (l0.length : Int) ≤ 40
  · rw [if_pos c2] at H
    have c2b0 : decide ((l0.length : Int) ≤ 40) = true := decide_eq_true c2
    have c2b1 : decide (l0.length ≤ 40) = true := decide_eq_true (by omega)
    clear c2
    replace H := Option.bind_eq_some_iff.mp H
    obtain ⟨t624, A30, H⟩ := H
    replace H : ((elenchusref05_Few.f t624).bind fun t627 => (some t627)) = some r := H
    have A3 := Aside0.mk A30
    clear A30
    replace H := Option.bind_eq_some_iff.mp H
    obtain ⟨t627, A40, H⟩ := H
    replace H : (some t627) = some r := H
    have A4 := Aside0.mk A40
    clear A40
    obtain rfl := Option.some.inj H
    go_enter Try.func119, Try.ntmps119
    go_wp2_with (first | (go_at_call 120; (with_reducible refine (elenchusref10_Terms.calls k (fun k_ => k_ < w.heap.size) _ _ l0 t624 _ ?side1 A3.out).mono ?_); (case side1 => exact Kd.V_mk HC0.out (Kd.F_below (Kd.C_F k142_heap HR0.out) (by repeat (first | (with_reducible first | exact HB.out | apply below_alloc | apply pw_below_drewN | apply below_drew1) | exact HB.out)))); rintro e w5 ⟨v625, rfl, ho0, hb⟩; have n0_ := Aside0.mk (Kd.N_lower (Kd.N_mono (ok' := fun k_ => True) ho0 (fun k_ hk_ => trivial)) (below_size (by repeat (first | (with_reducible first | exact HB.out | apply below_alloc | apply pw_below_drewN | apply below_drew1) | exact HB.out)))); have n1_ := Aside0.mk (below_step (by repeat (first | (with_reducible first | exact HB.out | apply below_alloc | apply pw_below_drewN | apply below_drew1) | exact HB.out)) hb); clear HB; have HO626 := n0_; have HB := n1_; clear n0_ n1_; (try clear hb); (try clear hb2); (try clear hk); (try clear hi); (try clear ho0); obtain ⟨Ao6, co6, eo6⟩ := Kd.N_slice HO626.out; subst eo6) | (go_at_call 41; (with_reducible refine (elenchusref05_Few.calls _ _ t624 t627 _ ?side1 ?side2 A4.out).mono ?_); (case side1 => repeat (first | exact (Kd.N_reads' HO626.out).2.2 | (with_reducible refine Kd.C_alloc ?_ _) | (with_reducible refine Kd.C_drewN ?_ _) | (with_reducible refine Kd.C_drew ?_))); (case side2 => exact (Kd.N_reads' HO626.out).2.1); rintro e w7 ⟨rfl, hb⟩; have n0_ := Aside0.mk (Kd.N_below (by (with_reducible repeat (first | apply Kd.N_alloc | apply Kd.N_drewN | apply Kd.N_drew)); exact HO626.out) hb); have n1_ := Aside0.mk (below_step (by repeat (first | (with_reducible first | exact HB.out | apply below_alloc | apply pw_below_drewN | apply below_drew1) | exact HB.out)) hb); clear HO626; clear HB; have HO626 := n0_; have HB := n1_; clear n0_ n1_; (try clear hb); (try clear hb2); (try clear hk); (try clear hi)))
    go_ret
    exact ⟨by first | rfl | (simp [errW_none, errW_some] <;> rfl) | (simp [*, errW_none, errW_some] <;> rfl), by repeat (first | (with_reducible first | exact HB.out | apply below_alloc | apply pw_below_drewN | apply below_drew1) | exact HB.out)⟩
  · rw [if_neg c2] at H
    have c2b0 : decide ((l0.length : Int) ≤ 40) = false := decide_eq_false c2
    have c2b1 : decide (l0.length ≤ 40) = false := decide_eq_false (by omega)
    clear c2
    obtain rfl := Option.some.inj H
    go_enter Try.func119, Try.ntmps119
    go_wp2
    go_ret
    exact ⟨by first | rfl | (simp [errW_none, errW_some] <;> rfl) | (simp [*, errW_none, errW_some] <;> rfl), by repeat (first | (with_reducible first | exact HB.out | apply below_alloc | apply pw_below_drewN | apply below_drew1) | exact HB.out)⟩
end Go.Proofs.Ythplndalbfcbbaa.PA
namespace Go.Proofs.Ythplndalbfcbbaa.PA
open Go.RowKit Go.Proofs.YthplndalbfcbbaaW.PrintWords Go.Proofs.YthplndalbfcbbaaW.PrintLast Go.Proofs.YthplndalbfcbbaaW.PrintMore
attribute [local go_sem] max2_int min2_int max_two min_two max_three min_three max_four min_four   -- for this text's walks alone
set_option linter.unusedVariables false
set_option linter.unusedSimpArgs false
def elenchusref16_Few.f (k : Nat) (l0 : List (S148)) (l1 : List (S142)) : Option (Bool) := (elenchusref07_Few.f k l0).bind fun t628 => (if t628 = true then ((elenchusref10_Few.f k l1).bind fun t629 => (if t629 = true then ((elenchusref10_Terms.f k l1).bind fun t630 => ((elenchusref05_Few.f t630).bind fun t633 => (some t633))) else (some false))) else (some false))
set_option maxHeartbeats 8000000 in
set_option maxRecDepth 100000 in
theorem elenchusref16_Few.calls (k : Nat) (A0 : Option Addr) (c0 : Nat) (l0 : List (S148)) (A1 : Option Addr) (c1 : Nat) (l1 : List (S142)) (r : Bool) (w : World) (hr0 : Kd.C k148 w A0 l0.length l0) (hc0 : l0.length ≤ c0) (hr1 : Kd.C k142 w A1 l1.length l1) (hc1 : l1.length ≤ c1) (h : elenchusref16_Few.f k l0 l1 = some r) :
    Calls Try.prog 60 #[.slice A0 l0.length c0, .slice A1 l1.length c1] w fun e w' => e = .returned (.bool r) ∧ Below w.heap.size w w' := by
  have HR0 := Aside0.mk hr0
  have HC0 := Aside0.mk hc0
  clear hr0 hc0
  have HR1 := Aside0.mk hr1
  have HC1 := Aside0.mk hc1
  clear hr1 hc1
  have HB := Aside0.mk (Below.refl w.heap.size w)
  have H : ((elenchusref07_Few.f k l0).bind fun t628 => (if t628 = true then ((elenchusref10_Few.f k l1).bind fun t629 => (if t629 = true then ((elenchusref10_Terms.f k l1).bind fun t630 => ((elenchusref05_Few.f t630).bind fun t633 => (some t633))) else (some false))) else (some false))) = some r := h
  clear h
  replace H := Option.bind_eq_some_iff.mp H
  obtain ⟨t628, A30, H⟩ := H
  replace H : (if t628 = true then ((elenchusref10_Few.f k l1).bind fun t629 => (if t629 = true then ((elenchusref10_Terms.f k l1).bind fun t630 => ((elenchusref05_Few.f t630).bind fun t633 => (some t633))) else (some false))) else (some false)) = some r := H
  have A3 := Aside0.mk A30
  clear A30
  by_cases c4 : t628 = true
  · subst c4
    have H1 : ((elenchusref10_Few.f k l1).bind fun t629 => (if t629 = true then ((elenchusref10_Terms.f k l1).bind fun t630 => ((elenchusref05_Few.f t630).bind fun t633 => (some t633))) else (some false))) = some r := by rw [if_pos rfl] at H; exact H
    clear H
    have H := H1
    clear H1
    replace H := Option.bind_eq_some_iff.mp H
    obtain ⟨t629, A50, H⟩ := H
    replace H : (if t629 = true then ((elenchusref10_Terms.f k l1).bind fun t630 => ((elenchusref05_Few.f t630).bind fun t633 => (some t633))) else (some false)) = some r := H
    have A5 := Aside0.mk A50
    clear A50
    by_cases c6 : t629 = true
    · subst c6
      have H1 : ((elenchusref10_Terms.f k l1).bind fun t630 => ((elenchusref05_Few.f t630).bind fun t633 => (some t633))) = some r := by rw [if_pos rfl] at H; exact H
      clear H
      have H := H1
      clear H1
      replace H := Option.bind_eq_some_iff.mp H
      obtain ⟨t630, A70, H⟩ := H
      replace H : ((elenchusref05_Few.f t630).bind fun t633 => (some t633)) = some r := H
      have A7 := Aside0.mk A70
      clear A70
      replace H := Option.bind_eq_some_iff.mp H
      obtain ⟨t633, A80, H⟩ := H
      replace H : (some t633) = some r := H
      have A8 := Aside0.mk A80
      clear A80
      obtain rfl := Option.some.inj H
      go_enter Try.func60, Try.ntmps60
      go_wp2_with (first | ((with_reducible refine gate_callee (f := 118) rfl ?_); refine goesL_ (some 6) rfl rfl Try.func118 (by kernel_rfl) rfl #[.slice A0 l0.length c0] rfl (by (try simp only [List.map_toArray, List.map_cons, List.map_nil]); first | done | rfl | (simp only [List.length_drop, List.length_take]; rfl)) ?_; (with_reducible refine (elenchusref07_Few.calls k _ _ l0 true _ ?side1 ?side2 A3.out).mono ?_); (case side1 => repeat (first | exact HR0.out | (with_reducible refine Kd.C_alloc ?_ _) | (with_reducible refine Kd.C_drewN ?_ _) | (with_reducible refine Kd.C_drew ?_))); (case side2 => exact HC0.out); rintro e w' ⟨rfl, ⟨nd, rfl⟩⟩; refine ⟨_, rfl, ?_⟩) | (go_at_call 119; (with_reducible refine (elenchusref10_Few.calls k _ _ l1 true _ ?side1 ?side2 A5.out).mono ?_); (case side1 => repeat (first | exact HR1.out | (with_reducible refine Kd.C_alloc ?_ _) | (with_reducible refine Kd.C_drewN ?_ _) | (with_reducible refine Kd.C_drew ?_))); (case side2 => exact HC1.out); rintro e w9 ⟨rfl, hb⟩; have n0_ := Aside0.mk (below_step (by repeat (first | (with_reducible first | exact HB.out | apply below_alloc | apply pw_below_drewN | apply below_drew1) | exact HB.out)) hb); clear HB; have HB := n0_; clear n0_; (try clear hb); (try clear hb2); (try clear hk); (try clear hi)) | (go_at_call 120; (with_reducible refine (elenchusref10_Terms.calls k (fun k_ => k_ < w.heap.size) _ _ l1 t630 _ ?side1 A7.out).mono ?_); (case side1 => exact Kd.V_mk HC1.out (Kd.F_below (Kd.C_F k142_heap HR1.out) (by repeat (first | (with_reducible first | exact HB.out | apply below_alloc | apply pw_below_drewN | apply below_drew1) | exact HB.out)))); rintro e w10 ⟨v631, rfl, ho0, hb⟩; have n0_ := Aside0.mk (Kd.N_lower (Kd.N_mono (ok' := fun k_ => True) ho0 (fun k_ hk_ => trivial)) (below_size (by repeat (first | (with_reducible first | exact HB.out | apply below_alloc | apply pw_below_drewN | apply below_drew1) | exact HB.out)))); have n1_ := Aside0.mk (below_step (by repeat (first | (with_reducible first | exact HB.out | apply below_alloc | apply pw_below_drewN | apply below_drew1) | exact HB.out)) hb); clear HB; have HO632 := n0_; have HB := n1_; clear n0_ n1_; (try clear hb); (try clear hb2); (try clear hk); (try clear hi); (try clear ho0); obtain ⟨Ao11, co11, eo11⟩ := Kd.N_slice HO632.out; subst eo11) | (go_at_call 41; (with_reducible refine (elenchusref05_Few.calls _ _ t630 t633 _ ?side1 ?side2 A8.out).mono ?_); (case side1 => repeat (first | exact (Kd.N_reads' HO632.out).2.2 | (with_reducible refine Kd.C_alloc ?_ _) | (with_reducible refine Kd.C_drewN ?_ _) | (with_reducible refine Kd.C_drew ?_))); (case side2 => exact (Kd.N_reads' HO632.out).2.1); rintro e w12 ⟨rfl, hb⟩; have n0_ := Aside0.mk (Kd.N_below (by (with_reducible repeat (first | apply Kd.N_alloc | apply Kd.N_drewN | apply Kd.N_drew)); exact HO632.out) hb); have n1_ := Aside0.mk (below_step (by repeat (first | (with_reducible first | exact HB.out | apply below_alloc | apply pw_below_drewN | apply below_drew1) | exact HB.out)) hb); clear HO632; clear HB; have HO632 := n0_; have HB := n1_; clear n0_ n1_; (try clear hb); (try clear hb2); (try clear hk); (try clear hi)))
      go_ret
      exact ⟨by first | rfl | (simp [errW_none, errW_some] <;> rfl) | (simp [*, errW_none, errW_some] <;> rfl), by repeat (first | (with_reducible first | exact HB.out | apply below_alloc | apply pw_below_drewN | apply below_drew1) | exact HB.out)⟩
    · replace c6 := Bool.eq_false_iff.mpr c6
      subst c6
      have H1 : (some false) = some r := by rw [if_neg (show ¬ (false = true) by decide)] at H; exact H
      clear H
      have H := H1
      clear H1
      obtain rfl := Option.some.inj H
      go_enter Try.func60, Try.ntmps60
      go_wp2_with (first | ((with_reducible refine gate_callee (f := 118) rfl ?_); refine goesL_ (some 6) rfl rfl Try.func118 (by kernel_rfl) rfl #[.slice A0 l0.length c0] rfl (by (try simp only [List.map_toArray, List.map_cons, List.map_nil]); first | done | rfl | (simp only [List.length_drop, List.length_take]; rfl)) ?_; (with_reducible refine (elenchusref07_Few.calls k _ _ l0 true _ ?side1 ?side2 A3.out).mono ?_); (case side1 => repeat (first | exact HR0.out | (with_reducible refine Kd.C_alloc ?_ _) | (with_reducible refine Kd.C_drewN ?_ _) | (with_reducible refine Kd.C_drew ?_))); (case side2 => exact HC0.out); rintro e w' ⟨rfl, ⟨nd, rfl⟩⟩; refine ⟨_, rfl, ?_⟩) | (go_at_call 119; (with_reducible refine (elenchusref10_Few.calls k _ _ l1 false _ ?side1 ?side2 A5.out).mono ?_); (case side1 => repeat (first | exact HR1.out | (with_reducible refine Kd.C_alloc ?_ _) | (with_reducible refine Kd.C_drewN ?_ _) | (with_reducible refine Kd.C_drew ?_))); (case side2 => exact HC1.out); rintro e w13 ⟨rfl, hb⟩; have n0_ := Aside0.mk (below_step (by repeat (first | (with_reducible first | exact HB.out | apply below_alloc | apply pw_below_drewN | apply below_drew1) | exact HB.out)) hb); clear HB; have HB := n0_; clear n0_; (try clear hb); (try clear hb2); (try clear hk); (try clear hi)))
      go_ret
      exact ⟨by first | rfl | (simp [errW_none, errW_some] <;> rfl) | (simp [*, errW_none, errW_some] <;> rfl), by repeat (first | (with_reducible first | exact HB.out | apply below_alloc | apply pw_below_drewN | apply below_drew1) | exact HB.out)⟩
  · replace c4 := Bool.eq_false_iff.mpr c4
    subst c4
    have H1 : (some false) = some r := by rw [if_neg (show ¬ (false = true) by decide)] at H; exact H
    clear H
    have H := H1
    clear H1
    obtain rfl := Option.some.inj H
    go_enter Try.func60, Try.ntmps60
    go_wp2_with (first | ((with_reducible refine gate_callee (f := 118) rfl ?_); refine goesL_ (some 6) rfl rfl Try.func118 (by kernel_rfl) rfl #[.slice A0 l0.length c0] rfl (by (try simp only [List.map_toArray, List.map_cons, List.map_nil]); first | done | rfl | (simp only [List.length_drop, List.length_take]; rfl)) ?_; (with_reducible refine (elenchusref07_Few.calls k _ _ l0 false _ ?side1 ?side2 A3.out).mono ?_); (case side1 => repeat (first | exact HR0.out | (with_reducible refine Kd.C_alloc ?_ _) | (with_reducible refine Kd.C_drewN ?_ _) | (with_reducible refine Kd.C_drew ?_))); (case side2 => exact HC0.out); rintro e w' ⟨rfl, ⟨nd, rfl⟩⟩; refine ⟨_, rfl, ?_⟩))
    go_ret
    exact ⟨by first | rfl | (simp [errW_none, errW_some] <;> rfl) | (simp [*, errW_none, errW_some] <;> rfl), by repeat (first | (with_reducible first | exact HB.out | apply below_alloc | apply pw_below_drewN | apply below_drew1) | exact HB.out)⟩
end Go.Proofs.Ythplndalbfcbbaa.PA
