/- What the proof of the law rests on: contracts of the functions, plain laws, and words. -/
import Derived.Deep.LoopGhost
import Derived.WalkSmall
import Derived.Shelf.SlIterI.Nil
import Derived.Shelf.SlGeneric
import Derived.Ground.GgzProg
import Derived.Test.YthplndalbfcbbaaProg
import Derived.Lib.AppendZerosOnto
import Derived.Lib.SliceRun
import Derived.Laws.EntriesVeiled
import Derived.Test.YthplndalbfcbbaaKFeatureCountsL0
import Derived.Test.YthplndalbfcbbaaKFeatureCountsL1
import Derived.Test.YthplndalbfcbbaaKFeatureCountsG1
import Derived.Test.YthplndalbfcbbaaKFeatureCountsG4
import Derived.Test.YthplndalbfcbbaaKFeatureCountsG2
import Derived.Test.YthplndalbfcbbaaKFeatureCountsG6
import Derived.Test.YthplndalbfcbbaaKFeatureCountsG3
import Derived.Test.YthplndalbfcbbaaKFeatureCountsG5
import Derived.Test.YthplndalbfcbbaaKFeatureCountsG12
import Derived.Test.YthplndalbfcbbaaKFeatureCountsG9
import Derived.Test.YthplndalbfcbbaaKFeatureCountsG7
namespace Go.Proofs.Ythplndalbfcbbaa.PA
open Go.RowKit Go.Proofs.YthplndalbfcbbaaW.PrintWords Go.Proofs.YthplndalbfcbbaaW.PrintLast Go.Proofs.YthplndalbfcbbaaW.PrintMore
attribute [local go_sem] max2_int min2_int max_two min_two max_three min_three max_four min_four   -- for this text's walks alone
set_option linter.unusedVariables false
set_option linter.unusedSimpArgs false
def elenchusref09_Check.j0 : Nat → Bool → Option (Int)
  | 0, _ => none
  | k + 1, x42 => if x42 = true then (some 10) else (some 0)
def elenchusref09_Check.f (k : Nat) (l0 : List (S148)) (a1_0 : Bool) (a1_1 : Int) (l1_2 : List (S25)) (a1_3 : Int) (l1_4 : List (S25)) : Option (Int) := (elenchusref07_Term.f k l0 a1_1 l1_2).bind fun t655 => (if t655 = 0 then ((elenchusref07_Term.f k l0 a1_3 l1_4).bind fun t656 => (if t656 = 0 then ((elenchusref07_Truth.f l0 a1_1 l1_2).bind fun t657 => (if t657 = true then (if a1_3 = 0 then (elenchusref09_Check.j0 k false) else (elenchusref09_Check.j0 k true)) else ((elenchusref07_Truth.f l0 a1_3 l1_4).bind fun t658 => (elenchusref09_Check.j0 k t658)))) else (some t656))) else (some t655))
set_option maxHeartbeats 8000000 in
set_option maxRecDepth 100000 in
theorem elenchusref09_Check.calls (k : Nat) (A0 : Option Addr) (c0 : Nat) (l0 : List (S148)) (a1_0 : Bool) (a1_1 : Int) (A1_2 : Option Addr) (c1_2 : Nat) (l1_2 : List (S25)) (a1_3 : Int) (A1_4 : Option Addr) (c1_4 : Nat) (l1_4 : List (S25)) (r : Int) (w : World) (hr0 : Kd.C k148 w A0 l0.length l0) (hc0 : l0.length ≤ c0) (hr1_2 : Kd.C k25 w A1_2 l1_2.length l1_2) (hc1_2 : l1_2.length ≤ c1_2) (hr1_4 : Kd.C k25 w A1_4 l1_4.length l1_4) (hc1_4 : l1_4.length ≤ c1_4) (h : elenchusref09_Check.f k l0 a1_0 a1_1 l1_2 a1_3 l1_4 = some r) :
    Calls Try.prog 160 #[.slice A0 l0.length c0, .agg #[.bool a1_0, .int .i64 a1_1, .slice A1_2 l1_2.length c1_2, .int .i64 a1_3, .slice A1_4 l1_4.length c1_4]] w fun e w' => e = .returned (.int .i64 r) ∧ Below w.heap.size w w' := by
  have hu142 := Try.underlying142
  have hu25 := Try.underlying25
  have HR0 := Aside0.mk hr0
  have HC0 := Aside0.mk hc0
  clear hr0 hc0
  have HR1_2 := Aside0.mk hr1_2
  have HC1_2 := Aside0.mk hc1_2
  clear hr1_2 hc1_2
  have HR1_4 := Aside0.mk hr1_4
  have HC1_4 := Aside0.mk hc1_4
  clear hr1_4 hc1_4
  have HB := Aside0.mk (Below.refl w.heap.size w)
  have H : ((elenchusref07_Term.f k l0 a1_1 l1_2).bind fun t655 => (if t655 = 0 then ((elenchusref07_Term.f k l0 a1_3 l1_4).bind fun t656 => (if t656 = 0 then ((elenchusref07_Truth.f l0 a1_1 l1_2).bind fun t657 => (if t657 = true then (if a1_3 = 0 then (elenchusref09_Check.j0 k false) else (elenchusref09_Check.j0 k true)) else ((elenchusref07_Truth.f l0 a1_3 l1_4).bind fun t658 => (elenchusref09_Check.j0 k t658)))) else (some t656))) else (some t655))) = some r := h
  clear h
  replace H := Option.bind_eq_some_iff.mp H
  obtain ⟨t655, A30, H⟩ := H
  replace H : (if t655 = 0 then ((elenchusref07_Term.f k l0 a1_3 l1_4).bind fun t656 => (if t656 = 0 then ((elenchusref07_Truth.f l0 a1_1 l1_2).bind fun t657 => (if t657 = true then (if a1_3 = 0 then (elenchusref09_Check.j0 k false) else (elenchusref09_Check.j0 k true)) else ((elenchusref07_Truth.f l0 a1_3 l1_4).bind fun t658 => (elenchusref09_Check.j0 k t658)))) else (some t656))) else (some t655)) = some r := H
  have A3 := Aside0.mk A30
  clear A30
  by_cases c4 : t655 = 0
  · rw [if_pos c4] at H
    have c4b0 : (t655 == 0) = true := beq_iff_eq.mpr c4
    have c4b1 : (t655 != 0) = false := bne_eq_false_iff_eq.mpr c4
    clear c4
    replace H := Option.bind_eq_some_iff.mp H
    obtain ⟨t656, A50, H⟩ := H
    replace H : (if t656 = 0 then ((elenchusref07_Truth.f l0 a1_1 l1_2).bind fun t657 => (if t657 = true then (if a1_3 = 0 then (elenchusref09_Check.j0 k false) else (elenchusref09_Check.j0 k true)) else ((elenchusref07_Truth.f l0 a1_3 l1_4).bind fun t658 => (elenchusref09_Check.j0 k t658)))) else (some t656)) = some r := H
    have A5 := Aside0.mk A50
    clear A50
    by_cases c6 : t656 = 0
    · rw [if_pos c6] at H
      have c6b0 : (t656 == 0) = true := beq_iff_eq.mpr c6
      have c6b1 : (t656 != 0) = false := bne_eq_false_iff_eq.mpr c6
      clear c6
      replace H := Option.bind_eq_some_iff.mp H
      obtain ⟨t657, A70, H⟩ := H
      replace H : (if t657 = true then (if a1_3 = 0 then (elenchusref09_Check.j0 k false) else (elenchusref09_Check.j0 k true)) else ((elenchusref07_Truth.f l0 a1_3 l1_4).bind fun t658 => (elenchusref09_Check.j0 k t658))) = some r := H
      have A7 := Aside0.mk A70
      clear A70
      have HC8 := Aside0.mk H
      clear H
      go_enter Try.func160, Try.ntmps160
      go_upto_region 8 with (first | ((with_reducible refine gate_dst (N := 3) rfl ?_); refine box_event ?hg (N := 3) ?hd (cs := #[.bool a1_0, .int .i64 a1_1, .slice A1_2 l1_2.length c1_2, .int .i64 a1_3, .slice A1_4 l1_4.length c1_4]) (t := 142) ?hr ?_; (case hd => rfl); (case hg => rfl); (case hr => first | (go_simp; done) | (go_simp; rfl)); intro gb654 hg w9 hbox hb; have n0_ := Aside0.mk (below_step (by repeat (first | (with_reducible first | exact HB.out | apply below_alloc | apply pw_below_drewN | apply below_drew1) | exact HB.out)) hb); have n1_ := Aside0.mk (hbox); have n2_ := Aside0.mk ((by rw [hg]; exact (below_size (by repeat (first | (with_reducible first | exact HB.out | apply below_alloc | apply pw_below_drewN | apply below_drew1) | exact HB.out))) : w.heap.size ≤ gb654)); have n3_ := Aside0.mk ((by rw [hg]; exact (below_size (by repeat (first | (with_reducible first | exact HB.out | apply below_alloc | apply pw_below_drewN | apply below_drew1) | exact HB.out))) : w.heap.size ≤ gb654)); clear HB; have HB := n0_; have BK654 := n1_; have GW654 := n2_; have GE654 := n3_; clear n0_ n1_ n2_ n3_; clear hb hbox hg; have hcz10_0 : w9.cell? ⟨gb654, 0, none⟩ = some (.bool a1_0) := (blk_cell BK654.out 0).trans rfl; have hcz10_1 : w9.cell? ⟨gb654, 1, none⟩ = some (.int .i64 a1_1) := (blk_cell BK654.out 1).trans rfl; have hcz10_2 : w9.cell? ⟨gb654, 2, none⟩ = some (.slice A1_2 l1_2.length c1_2) := (blk_cell BK654.out 2).trans rfl; have hcz10_3 : w9.cell? ⟨gb654, 3, none⟩ = some (.int .i64 a1_3) := (blk_cell BK654.out 3).trans rfl; have hcz10_4 : w9.cell? ⟨gb654, 4, none⟩ = some (.slice A1_4 l1_4.length c1_4) := (blk_cell BK654.out 4).trans rfl; have hfz10_0 := blk_frozen BK654.out 0; have hfz10_1 := blk_frozen BK654.out 1; have hfz10_2 := blk_frozen BK654.out 2; have hfz10_3 := blk_frozen BK654.out 3; have hfz10_4 := blk_frozen BK654.out 4) | ((with_reducible refine gate_callee (f := 189) rfl ?_); refine goesL_ (some 11) rfl rfl Try.func189 (by kernel_rfl) rfl #[.slice A0 l0.length c0, .agg #[.int .i64 a1_1, .slice A1_2 l1_2.length c1_2]] rfl (by (try simp only [List.map_toArray, List.map_cons, List.map_nil]); first | done | rfl | (simp only [List.length_drop, List.length_take]; rfl)) ?_; (with_reducible refine (elenchusref07_Term.calls k _ _ l0 a1_1 _ _ l1_2 t655 _ ?side1 ?side2 ?side3 ?side4 A3.out).mono ?_); (case side1 => repeat (first | exact (Kd.C_below HR0.out HB.out) | (with_reducible refine Kd.C_alloc ?_ _) | (with_reducible refine Kd.C_drewN ?_ _) | (with_reducible refine Kd.C_drew ?_))); (case side2 => exact HC0.out); (case side3 => repeat (first | exact (Kd.C_below HR1_2.out HB.out) | (with_reducible refine Kd.C_alloc ?_ _) | (with_reducible refine Kd.C_drewN ?_ _) | (with_reducible refine Kd.C_drew ?_))); (case side4 => exact HC1_2.out); rintro e w11 ⟨rfl, hb⟩; refine ⟨_, rfl, ?_⟩; have n0_ := Aside0.mk (blk_below (g := gb654) (o := .cells #[.bool a1_0, .int .i64 a1_1, .slice A1_2 l1_2.length c1_2, .int .i64 a1_3, .slice A1_4 l1_4.length c1_4] 142 (0, 0)) (by (with_reducible repeat (first | refine blk_drewN ?_ _ | refine blk_drew ?_ | refine blk_alloc ?_ _)); exact BK654.out) hb); have n1_ := Aside0.mk (below_step (by repeat (first | (with_reducible first | exact HB.out | apply below_alloc | apply pw_below_drewN | apply below_drew1 | refine below_set ?_ GE654.out) | exact HB.out)) hb); clear BK654; clear HB; have BK654 := n0_; have HB := n1_; clear n0_ n1_; (try clear hb); (try clear hb2); (try clear hk); (try clear hi); have hcz12_0 : w11.cell? ⟨gb654, 0, none⟩ = some (.bool a1_0) := (blk_cell BK654.out 0).trans rfl; have hcz12_1 : w11.cell? ⟨gb654, 1, none⟩ = some (.int .i64 a1_1) := (blk_cell BK654.out 1).trans rfl; have hcz12_2 : w11.cell? ⟨gb654, 2, none⟩ = some (.slice A1_2 l1_2.length c1_2) := (blk_cell BK654.out 2).trans rfl; have hcz12_3 : w11.cell? ⟨gb654, 3, none⟩ = some (.int .i64 a1_3) := (blk_cell BK654.out 3).trans rfl; have hcz12_4 : w11.cell? ⟨gb654, 4, none⟩ = some (.slice A1_4 l1_4.length c1_4) := (blk_cell BK654.out 4).trans rfl; have hfz12_0 := blk_frozen BK654.out 0; have hfz12_1 := blk_frozen BK654.out 1; have hfz12_2 := blk_frozen BK654.out 2; have hfz12_3 := blk_frozen BK654.out 3; have hfz12_4 := blk_frozen BK654.out 4) | ((with_reducible refine gate_callee (f := 189) rfl ?_); refine goesL_ (some 18) rfl rfl Try.func189 (by kernel_rfl) rfl #[.slice A0 l0.length c0, .agg #[.int .i64 a1_3, .slice A1_4 l1_4.length c1_4]] rfl (by (try simp only [List.map_toArray, List.map_cons, List.map_nil]); first | done | rfl | (simp only [List.length_drop, List.length_take]; rfl)) ?_; (with_reducible refine (elenchusref07_Term.calls k _ _ l0 a1_3 _ _ l1_4 t656 _ ?side1 ?side2 ?side3 ?side4 A5.out).mono ?_); (case side1 => repeat (first | exact (Kd.C_below HR0.out HB.out) | (with_reducible refine Kd.C_alloc ?_ _) | (with_reducible refine Kd.C_drewN ?_ _) | (with_reducible refine Kd.C_drew ?_))); (case side2 => exact HC0.out); (case side3 => repeat (first | exact (Kd.C_below HR1_4.out HB.out) | (with_reducible refine Kd.C_alloc ?_ _) | (with_reducible refine Kd.C_drewN ?_ _) | (with_reducible refine Kd.C_drew ?_))); (case side4 => exact HC1_4.out); rintro e w13 ⟨rfl, hb⟩; refine ⟨_, rfl, ?_⟩; have n0_ := Aside0.mk (blk_below (g := gb654) (o := .cells #[.bool a1_0, .int .i64 a1_1, .slice A1_2 l1_2.length c1_2, .int .i64 a1_3, .slice A1_4 l1_4.length c1_4] 142 (0, 0)) (by (with_reducible repeat (first | refine blk_drewN ?_ _ | refine blk_drew ?_ | refine blk_alloc ?_ _)); exact BK654.out) hb); have n1_ := Aside0.mk (below_step (by repeat (first | (with_reducible first | exact HB.out | apply below_alloc | apply pw_below_drewN | apply below_drew1 | refine below_set ?_ GE654.out) | exact HB.out)) hb); clear BK654; clear HB; have BK654 := n0_; have HB := n1_; clear n0_ n1_; (try clear hb); (try clear hb2); (try clear hk); (try clear hi); have hcz14_0 : w13.cell? ⟨gb654, 0, none⟩ = some (.bool a1_0) := (blk_cell BK654.out 0).trans rfl; have hcz14_1 : w13.cell? ⟨gb654, 1, none⟩ = some (.int .i64 a1_1) := (blk_cell BK654.out 1).trans rfl; have hcz14_2 : w13.cell? ⟨gb654, 2, none⟩ = some (.slice A1_2 l1_2.length c1_2) := (blk_cell BK654.out 2).trans rfl; have hcz14_3 : w13.cell? ⟨gb654, 3, none⟩ = some (.int .i64 a1_3) := (blk_cell BK654.out 3).trans rfl; have hcz14_4 : w13.cell? ⟨gb654, 4, none⟩ = some (.slice A1_4 l1_4.length c1_4) := (blk_cell BK654.out 4).trans rfl; have hfz14_0 := blk_frozen BK654.out 0; have hfz14_1 := blk_frozen BK654.out 1; have hfz14_2 := blk_frozen BK654.out 2; have hfz14_3 := blk_frozen BK654.out 3; have hfz14_4 := blk_frozen BK654.out 4) | ((with_reducible refine gate_callee (f := 190) rfl ?_); refine goesL_ (some 25) rfl rfl Try.func190 (by kernel_rfl) rfl #[.slice A0 l0.length c0, .agg #[.int .i64 a1_1, .slice A1_2 l1_2.length c1_2]] rfl (by (try simp only [List.map_toArray, List.map_cons, List.map_nil]); first | done | rfl | (simp only [List.length_drop, List.length_take]; rfl)) ?_; (with_reducible refine (elenchusref07_Truth.calls _ _ l0 a1_1 _ _ l1_2 t657 _ ?side1 ?side2 ?side3 ?side4 A7.out).mono ?_); (case side1 => repeat (first | exact (Kd.C_below HR0.out HB.out) | (with_reducible refine Kd.C_alloc ?_ _) | (with_reducible refine Kd.C_drewN ?_ _) | (with_reducible refine Kd.C_drew ?_))); (case side2 => exact HC0.out); (case side3 => repeat (first | exact (Kd.C_below HR1_2.out HB.out) | (with_reducible refine Kd.C_alloc ?_ _) | (with_reducible refine Kd.C_drewN ?_ _) | (with_reducible refine Kd.C_drew ?_))); (case side4 => exact HC1_2.out); rintro e w15 ⟨rfl, hb⟩; refine ⟨_, rfl, ?_⟩; have n0_ := Aside0.mk (blk_below (g := gb654) (o := .cells #[.bool a1_0, .int .i64 a1_1, .slice A1_2 l1_2.length c1_2, .int .i64 a1_3, .slice A1_4 l1_4.length c1_4] 142 (0, 0)) (by (with_reducible repeat (first | refine blk_drewN ?_ _ | refine blk_drew ?_ | refine blk_alloc ?_ _)); exact BK654.out) hb); have n1_ := Aside0.mk (below_step (by repeat (first | (with_reducible first | exact HB.out | apply below_alloc | apply pw_below_drewN | apply below_drew1 | refine below_set ?_ GE654.out) | exact HB.out)) hb); clear BK654; clear HB; have BK654 := n0_; have HB := n1_; clear n0_ n1_; (try clear hb); (try clear hb2); (try clear hk); (try clear hi)))
      (try simp only [Act.put, List.setIfInBounds_toArray, List.set_cons_zero, List.set_cons_succ])
      go_cut [42] (fun v42 wc => ∃ (kq : Nat) (x42_7 : Bool), v42 = .bool x42_7 ∧ Aside0 (elenchusref09_Check.j0 kq x42_7 = some r) ∧ Aside0 (kq ≤ k) ∧ Aside0 (wc.heap[gb654]? = some (.cells #[.bool a1_0, .int .i64 a1_1, (.slice A1_2 l1_2.length c1_2), .int .i64 a1_3, (.slice A1_4 l1_4.length c1_4)] 142 (0, 0))) ∧ Aside0 (Below w.heap.size w wc))
      case first =>
        have H := HC8.out
        clear HC8
        by_cases c16 : t657 = true
        · subst c16
          have H1 : (if a1_3 = 0 then (elenchusref09_Check.j0 k false) else (elenchusref09_Check.j0 k true)) = some r := by rw [if_pos rfl] at H; exact H
          clear H
          have H := H1
          clear H1
          by_cases c17 : a1_3 = 0
          · rw [if_pos c17] at H
            have c17b0 : (a1_3 == 0) = true := beq_iff_eq.mpr c17
            have c17b1 : (a1_3 != 0) = false := bne_eq_false_iff_eq.mpr c17
            clear c17
            (first | rw [c17b0] | (simp only [i64_w, i32_w]; rw [c17b0]) | skip)
            have H' := Aside0.mk H
            clear H
            have hcz18_0 : w15.cell? ⟨gb654, 0, none⟩ = some (.bool a1_0) := (blk_cell BK654.out 0).trans rfl
            have hcz18_1 : w15.cell? ⟨gb654, 1, none⟩ = some (.int .i64 a1_1) := (blk_cell BK654.out 1).trans rfl
            have hcz18_2 : w15.cell? ⟨gb654, 2, none⟩ = some (.slice A1_2 l1_2.length c1_2) := (blk_cell BK654.out 2).trans rfl
            have hcz18_3 : w15.cell? ⟨gb654, 3, none⟩ = some (.int .i64 a1_3) := (blk_cell BK654.out 3).trans rfl
            have hcz18_4 : w15.cell? ⟨gb654, 4, none⟩ = some (.slice A1_4 l1_4.length c1_4) := (blk_cell BK654.out 4).trans rfl
            have hfz18_0 := blk_frozen BK654.out 0
            have hfz18_1 := blk_frozen BK654.out 1
            have hfz18_2 := blk_frozen BK654.out 2
            have hfz18_3 := blk_frozen BK654.out 3
            have hfz18_4 := blk_frozen BK654.out 4
            go_wp2
            go_meet
            case rel => exact ⟨_, (false), (by first | rfl | (simp; done) | (simp [*]; done)), H', ⟨by first | omega | exact Nat.le_refl _⟩, ⟨by (with_reducible repeat (first | refine blk_drewN ?_ _ | refine blk_drew ?_ | refine blk_alloc ?_ _)); exact BK654.out⟩, ⟨by repeat (first | (with_reducible first | exact HB.out | apply below_alloc | apply pw_below_drewN | apply below_drew1 | refine below_set ?_ GE654.out) | exact HB.out)⟩⟩
          · rw [if_neg c17] at H
            have c17b0 : (a1_3 == 0) = false := beq_eq_false_iff_ne.mpr c17
            have c17b1 : (a1_3 != 0) = true := bne_iff_ne.mpr c17
            (first | rw [c17b0] | (simp only [i64_w, i32_w]; rw [c17b0]) | skip)
            have H' := Aside0.mk H
            clear H
            have hcz19_0 : w15.cell? ⟨gb654, 0, none⟩ = some (.bool a1_0) := (blk_cell BK654.out 0).trans rfl
            have hcz19_1 : w15.cell? ⟨gb654, 1, none⟩ = some (.int .i64 a1_1) := (blk_cell BK654.out 1).trans rfl
            have hcz19_2 : w15.cell? ⟨gb654, 2, none⟩ = some (.slice A1_2 l1_2.length c1_2) := (blk_cell BK654.out 2).trans rfl
            have hcz19_3 : w15.cell? ⟨gb654, 3, none⟩ = some (.int .i64 a1_3) := (blk_cell BK654.out 3).trans rfl
            have hcz19_4 : w15.cell? ⟨gb654, 4, none⟩ = some (.slice A1_4 l1_4.length c1_4) := (blk_cell BK654.out 4).trans rfl
            have hfz19_0 := blk_frozen BK654.out 0
            have hfz19_1 := blk_frozen BK654.out 1
            have hfz19_2 := blk_frozen BK654.out 2
            have hfz19_3 := blk_frozen BK654.out 3
            have hfz19_4 := blk_frozen BK654.out 4
            go_wp2
            go_meet
            case rel => exact ⟨_, (true), (by first | rfl | (simp; done) | (simp [*]; done)), H', ⟨by first | omega | exact Nat.le_refl _⟩, ⟨by (with_reducible repeat (first | refine blk_drewN ?_ _ | refine blk_drew ?_ | refine blk_alloc ?_ _)); exact BK654.out⟩, ⟨by repeat (first | (with_reducible first | exact HB.out | apply below_alloc | apply pw_below_drewN | apply below_drew1 | refine below_set ?_ GE654.out) | exact HB.out)⟩⟩
        · replace c16 := Bool.eq_false_iff.mpr c16
          subst c16
          have H1 : ((elenchusref07_Truth.f l0 a1_3 l1_4).bind fun t658 => (elenchusref09_Check.j0 k t658)) = some r := by rw [if_neg (show ¬ (false = true) by decide)] at H; exact H
          clear H
          have H := H1
          clear H1
          replace H := Option.bind_eq_some_iff.mp H
          obtain ⟨t658, A200, H⟩ := H
          replace H : (elenchusref09_Check.j0 k t658) = some r := H
          have A20 := Aside0.mk A200
          clear A200
          have H' := Aside0.mk H
          clear H
          have hcz21_0 : w15.cell? ⟨gb654, 0, none⟩ = some (.bool a1_0) := (blk_cell BK654.out 0).trans rfl
          have hcz21_1 : w15.cell? ⟨gb654, 1, none⟩ = some (.int .i64 a1_1) := (blk_cell BK654.out 1).trans rfl
          have hcz21_2 : w15.cell? ⟨gb654, 2, none⟩ = some (.slice A1_2 l1_2.length c1_2) := (blk_cell BK654.out 2).trans rfl
          have hcz21_3 : w15.cell? ⟨gb654, 3, none⟩ = some (.int .i64 a1_3) := (blk_cell BK654.out 3).trans rfl
          have hcz21_4 : w15.cell? ⟨gb654, 4, none⟩ = some (.slice A1_4 l1_4.length c1_4) := (blk_cell BK654.out 4).trans rfl
          have hfz21_0 := blk_frozen BK654.out 0
          have hfz21_1 := blk_frozen BK654.out 1
          have hfz21_2 := blk_frozen BK654.out 2
          have hfz21_3 := blk_frozen BK654.out 3
          have hfz21_4 := blk_frozen BK654.out 4
          go_wp2_with (first | (go_at_call 190; (with_reducible refine (elenchusref07_Truth.calls _ _ l0 a1_3 _ _ l1_4 t658 _ ?side1 ?side2 ?side3 ?side4 A20.out).mono ?_); (case side1 => repeat (first | exact (Kd.C_below HR0.out HB.out) | (with_reducible refine Kd.C_alloc ?_ _) | (with_reducible refine Kd.C_drewN ?_ _) | (with_reducible refine Kd.C_drew ?_))); (case side2 => exact HC0.out); (case side3 => repeat (first | exact (Kd.C_below HR1_4.out HB.out) | (with_reducible refine Kd.C_alloc ?_ _) | (with_reducible refine Kd.C_drewN ?_ _) | (with_reducible refine Kd.C_drew ?_))); (case side4 => exact HC1_4.out); rintro e w22 ⟨rfl, hb⟩; have n0_ := Aside0.mk (blk_below (g := gb654) (o := .cells #[.bool a1_0, .int .i64 a1_1, .slice A1_2 l1_2.length c1_2, .int .i64 a1_3, .slice A1_4 l1_4.length c1_4] 142 (0, 0)) (by (with_reducible repeat (first | refine blk_drewN ?_ _ | refine blk_drew ?_ | refine blk_alloc ?_ _)); exact BK654.out) hb); have n1_ := Aside0.mk (below_step (by repeat (first | (with_reducible first | exact HB.out | apply below_alloc | apply pw_below_drewN | apply below_drew1 | refine below_set ?_ GE654.out) | exact HB.out)) hb); clear BK654; clear HB; have BK654 := n0_; have HB := n1_; clear n0_ n1_; (try clear hb); (try clear hb2); (try clear hk); (try clear hi)))
          go_meet
          case rel => exact ⟨_, (t658), (by first | rfl | (simp; done) | (simp [*]; done)), H', ⟨by first | omega | exact Nat.le_refl _⟩, ⟨by (with_reducible repeat (first | refine blk_drewN ?_ _ | refine blk_drew ?_ | refine blk_alloc ?_ _)); exact BK654.out⟩, ⟨by repeat (first | (with_reducible first | exact HB.out | apply below_alloc | apply pw_below_drewN | apply below_drew1 | refine below_set ?_ GE654.out) | exact HB.out)⟩⟩
      case rest =>
        clear HC8
        try clear c1
        try clear p2
        try clear c4
        try clear c4b0
        try clear c4b1
        try clear c6
        try clear c6b0
        try clear c6b1
        try clear c16
        try clear c17
        try clear c17b0
        try clear c17b1
        try clear c18
        try clear c19
        try clear hcz10_0
        try clear hcz10_1
        try clear hcz10_2
        try clear hcz10_3
        try clear hcz10_4
        try clear hcz12_0
        try clear hcz12_1
        try clear hcz12_2
        try clear hcz12_3
        try clear hcz12_4
        try clear hcz14_0
        try clear hcz14_1
        try clear hcz14_2
        try clear hcz14_3
        try clear hcz14_4
        try clear hcz18_0
        try clear hcz18_1
        try clear hcz18_2
        try clear hcz18_3
        try clear hcz18_4
        try clear hcz19_0
        try clear hcz19_1
        try clear hcz19_2
        try clear hcz19_3
        try clear hcz19_4
        try clear hcz21_0
        try clear hcz21_1
        try clear hcz21_2
        try clear hcz21_3
        try clear hcz21_4
        try clear hfz10_0
        try clear hfz10_1
        try clear hfz10_2
        try clear hfz10_3
        try clear hfz10_4
        try clear hfz12_0
        try clear hfz12_1
        try clear hfz12_2
        try clear hfz12_3
        try clear hfz12_4
        try clear hfz14_0
        try clear hfz14_1
        try clear hfz14_2
        try clear hfz14_3
        try clear hfz14_4
        try clear hfz18_0
        try clear hfz18_1
        try clear hfz18_2
        try clear hfz18_3
        try clear hfz18_4
        try clear hfz19_0
        try clear hfz19_1
        try clear hfz19_2
        try clear hfz19_3
        try clear hfz19_4
        try clear hfz21_0
        try clear hfz21_1
        try clear hfz21_2
        try clear hfz21_3
        try clear hfz21_4
        obtain ⟨kq, x42_7, rfl, HA, HJ7, BK654, HB⟩ := hcut
        cases kq with
        | zero => exact absurd HA.out (by simp [elenchusref09_Check.j0])
        | succ kj7 =>
          have H := HA.out
          clear HA
          simp only [elenchusref09_Check.j0] at H
          by_cases c23 : x42_7 = true
          · subst c23
            have H1 : (some 10) = some r := by rw [if_pos rfl] at H; exact H
            clear H
            have H := H1
            clear H1
            obtain rfl := Option.some.inj H
            go_wp2
            go_ret
            exact ⟨by first | rfl | (simp [errW_none, errW_some] <;> rfl) | (simp [*, errW_none, errW_some] <;> rfl), by repeat (first | (with_reducible first | exact HB.out | apply below_alloc | apply pw_below_drewN | apply below_drew1 | refine below_set ?_ GE654.out) | exact HB.out)⟩
          · replace c23 := Bool.eq_false_iff.mpr c23
            subst c23
            have H1 : (some 0) = some r := by rw [if_neg (show ¬ (false = true) by decide)] at H; exact H
            clear H
            have H := H1
            clear H1
            obtain rfl := Option.some.inj H
            go_wp2
            go_ret
            exact ⟨by first | rfl | (simp [errW_none, errW_some] <;> rfl) | (simp [*, errW_none, errW_some] <;> rfl), by repeat (first | (with_reducible first | exact HB.out | apply below_alloc | apply pw_below_drewN | apply below_drew1 | refine below_set ?_ GE654.out) | exact HB.out)⟩
    · rw [if_neg c6] at H
      have c6b0 : (t656 == 0) = false := beq_eq_false_iff_ne.mpr c6
      have c6b1 : (t656 != 0) = true := bne_iff_ne.mpr c6
      obtain rfl := Option.some.inj H
      go_enter Try.func160, Try.ntmps160
      go_wp2_with (first | ((with_reducible refine gate_dst (N := 3) rfl ?_); refine box_event ?hg (N := 3) ?hd (cs := #[.bool a1_0, .int .i64 a1_1, .slice A1_2 l1_2.length c1_2, .int .i64 a1_3, .slice A1_4 l1_4.length c1_4]) (t := 142) ?hr ?_; (case hd => rfl); (case hg => rfl); (case hr => first | (go_simp; done) | (go_simp; rfl)); intro gb654 hg w24 hbox hb; have n0_ := Aside0.mk (below_step (by repeat (first | (with_reducible first | exact HB.out | apply below_alloc | apply pw_below_drewN | apply below_drew1) | exact HB.out)) hb); have n1_ := Aside0.mk (hbox); have n2_ := Aside0.mk ((by rw [hg]; exact (below_size (by repeat (first | (with_reducible first | exact HB.out | apply below_alloc | apply pw_below_drewN | apply below_drew1) | exact HB.out))) : w.heap.size ≤ gb654)); have n3_ := Aside0.mk ((by rw [hg]; exact (below_size (by repeat (first | (with_reducible first | exact HB.out | apply below_alloc | apply pw_below_drewN | apply below_drew1) | exact HB.out))) : w.heap.size ≤ gb654)); clear HB; have HB := n0_; have BK654 := n1_; have GW654 := n2_; have GE654 := n3_; clear n0_ n1_ n2_ n3_; clear hb hbox hg; have hcz25_0 : w24.cell? ⟨gb654, 0, none⟩ = some (.bool a1_0) := (blk_cell BK654.out 0).trans rfl; have hcz25_1 : w24.cell? ⟨gb654, 1, none⟩ = some (.int .i64 a1_1) := (blk_cell BK654.out 1).trans rfl; have hcz25_2 : w24.cell? ⟨gb654, 2, none⟩ = some (.slice A1_2 l1_2.length c1_2) := (blk_cell BK654.out 2).trans rfl; have hcz25_3 : w24.cell? ⟨gb654, 3, none⟩ = some (.int .i64 a1_3) := (blk_cell BK654.out 3).trans rfl; have hcz25_4 : w24.cell? ⟨gb654, 4, none⟩ = some (.slice A1_4 l1_4.length c1_4) := (blk_cell BK654.out 4).trans rfl; have hfz25_0 := blk_frozen BK654.out 0; have hfz25_1 := blk_frozen BK654.out 1; have hfz25_2 := blk_frozen BK654.out 2; have hfz25_3 := blk_frozen BK654.out 3; have hfz25_4 := blk_frozen BK654.out 4) | ((with_reducible refine gate_callee (f := 189) rfl ?_); refine goesL_ (some 11) rfl rfl Try.func189 (by kernel_rfl) rfl #[.slice A0 l0.length c0, .agg #[.int .i64 a1_1, .slice A1_2 l1_2.length c1_2]] rfl (by (try simp only [List.map_toArray, List.map_cons, List.map_nil]); first | done | rfl | (simp only [List.length_drop, List.length_take]; rfl)) ?_; (with_reducible refine (elenchusref07_Term.calls k _ _ l0 a1_1 _ _ l1_2 t655 _ ?side1 ?side2 ?side3 ?side4 A3.out).mono ?_); (case side1 => repeat (first | exact (Kd.C_below HR0.out HB.out) | (with_reducible refine Kd.C_alloc ?_ _) | (with_reducible refine Kd.C_drewN ?_ _) | (with_reducible refine Kd.C_drew ?_))); (case side2 => exact HC0.out); (case side3 => repeat (first | exact (Kd.C_below HR1_2.out HB.out) | (with_reducible refine Kd.C_alloc ?_ _) | (with_reducible refine Kd.C_drewN ?_ _) | (with_reducible refine Kd.C_drew ?_))); (case side4 => exact HC1_2.out); rintro e w26 ⟨rfl, hb⟩; refine ⟨_, rfl, ?_⟩; have n0_ := Aside0.mk (blk_below (g := gb654) (o := .cells #[.bool a1_0, .int .i64 a1_1, .slice A1_2 l1_2.length c1_2, .int .i64 a1_3, .slice A1_4 l1_4.length c1_4] 142 (0, 0)) (by (with_reducible repeat (first | refine blk_drewN ?_ _ | refine blk_drew ?_ | refine blk_alloc ?_ _)); exact BK654.out) hb); have n1_ := Aside0.mk (below_step (by repeat (first | (with_reducible first | exact HB.out | apply below_alloc | apply pw_below_drewN | apply below_drew1 | refine below_set ?_ GE654.out) | exact HB.out)) hb); clear BK654; clear HB; have BK654 := n0_; have HB := n1_; clear n0_ n1_; (try clear hb); (try clear hb2); (try clear hk); (try clear hi); have hcz27_0 : w26.cell? ⟨gb654, 0, none⟩ = some (.bool a1_0) := (blk_cell BK654.out 0).trans rfl; have hcz27_1 : w26.cell? ⟨gb654, 1, none⟩ = some (.int .i64 a1_1) := (blk_cell BK654.out 1).trans rfl; have hcz27_2 : w26.cell? ⟨gb654, 2, none⟩ = some (.slice A1_2 l1_2.length c1_2) := (blk_cell BK654.out 2).trans rfl; have hcz27_3 : w26.cell? ⟨gb654, 3, none⟩ = some (.int .i64 a1_3) := (blk_cell BK654.out 3).trans rfl; have hcz27_4 : w26.cell? ⟨gb654, 4, none⟩ = some (.slice A1_4 l1_4.length c1_4) := (blk_cell BK654.out 4).trans rfl; have hfz27_0 := blk_frozen BK654.out 0; have hfz27_1 := blk_frozen BK654.out 1; have hfz27_2 := blk_frozen BK654.out 2; have hfz27_3 := blk_frozen BK654.out 3; have hfz27_4 := blk_frozen BK654.out 4) | ((with_reducible refine gate_callee (f := 189) rfl ?_); refine goesL_ (some 18) rfl rfl Try.func189 (by kernel_rfl) rfl #[.slice A0 l0.length c0, .agg #[.int .i64 a1_3, .slice A1_4 l1_4.length c1_4]] rfl (by (try simp only [List.map_toArray, List.map_cons, List.map_nil]); first | done | rfl | (simp only [List.length_drop, List.length_take]; rfl)) ?_; (with_reducible refine (elenchusref07_Term.calls k _ _ l0 a1_3 _ _ l1_4 t656 _ ?side1 ?side2 ?side3 ?side4 A5.out).mono ?_); (case side1 => repeat (first | exact (Kd.C_below HR0.out HB.out) | (with_reducible refine Kd.C_alloc ?_ _) | (with_reducible refine Kd.C_drewN ?_ _) | (with_reducible refine Kd.C_drew ?_))); (case side2 => exact HC0.out); (case side3 => repeat (first | exact (Kd.C_below HR1_4.out HB.out) | (with_reducible refine Kd.C_alloc ?_ _) | (with_reducible refine Kd.C_drewN ?_ _) | (with_reducible refine Kd.C_drew ?_))); (case side4 => exact HC1_4.out); rintro e w28 ⟨rfl, hb⟩; refine ⟨_, rfl, ?_⟩; have n0_ := Aside0.mk (blk_below (g := gb654) (o := .cells #[.bool a1_0, .int .i64 a1_1, .slice A1_2 l1_2.length c1_2, .int .i64 a1_3, .slice A1_4 l1_4.length c1_4] 142 (0, 0)) (by (with_reducible repeat (first | refine blk_drewN ?_ _ | refine blk_drew ?_ | refine blk_alloc ?_ _)); exact BK654.out) hb); have n1_ := Aside0.mk (below_step (by repeat (first | (with_reducible first | exact HB.out | apply below_alloc | apply pw_below_drewN | apply below_drew1 | refine below_set ?_ GE654.out) | exact HB.out)) hb); clear BK654; clear HB; have BK654 := n0_; have HB := n1_; clear n0_ n1_; (try clear hb); (try clear hb2); (try clear hk); (try clear hi)))
      go_ret
      exact ⟨by first | rfl | (simp [errW_none, errW_some] <;> rfl) | (simp [*, errW_none, errW_some] <;> rfl), by repeat (first | (with_reducible first | exact HB.out | apply below_alloc | apply pw_below_drewN | apply below_drew1 | refine below_set ?_ GE654.out) | exact HB.out)⟩
  · rw [if_neg c4] at H
    have c4b0 : (t655 == 0) = false := beq_eq_false_iff_ne.mpr c4
    have c4b1 : (t655 != 0) = true := bne_iff_ne.mpr c4
    obtain rfl := Option.some.inj H
    go_enter Try.func160, Try.ntmps160
    go_wp2_with (first | ((with_reducible refine gate_dst (N := 3) rfl ?_); refine box_event ?hg (N := 3) ?hd (cs := #[.bool a1_0, .int .i64 a1_1, .slice A1_2 l1_2.length c1_2, .int .i64 a1_3, .slice A1_4 l1_4.length c1_4]) (t := 142) ?hr ?_; (case hd => rfl); (case hg => rfl); (case hr => first | (go_simp; done) | (go_simp; rfl)); intro gb654 hg w29 hbox hb; have n0_ := Aside0.mk (below_step (by repeat (first | (with_reducible first | exact HB.out | apply below_alloc | apply pw_below_drewN | apply below_drew1) | exact HB.out)) hb); have n1_ := Aside0.mk (hbox); have n2_ := Aside0.mk ((by rw [hg]; exact (below_size (by repeat (first | (with_reducible first | exact HB.out | apply below_alloc | apply pw_below_drewN | apply below_drew1) | exact HB.out))) : w.heap.size ≤ gb654)); have n3_ := Aside0.mk ((by rw [hg]; exact (below_size (by repeat (first | (with_reducible first | exact HB.out | apply below_alloc | apply pw_below_drewN | apply below_drew1) | exact HB.out))) : w.heap.size ≤ gb654)); clear HB; have HB := n0_; have BK654 := n1_; have GW654 := n2_; have GE654 := n3_; clear n0_ n1_ n2_ n3_; clear hb hbox hg; have hcz30_0 : w29.cell? ⟨gb654, 0, none⟩ = some (.bool a1_0) := (blk_cell BK654.out 0).trans rfl; have hcz30_1 : w29.cell? ⟨gb654, 1, none⟩ = some (.int .i64 a1_1) := (blk_cell BK654.out 1).trans rfl; have hcz30_2 : w29.cell? ⟨gb654, 2, none⟩ = some (.slice A1_2 l1_2.length c1_2) := (blk_cell BK654.out 2).trans rfl; have hcz30_3 : w29.cell? ⟨gb654, 3, none⟩ = some (.int .i64 a1_3) := (blk_cell BK654.out 3).trans rfl; have hcz30_4 : w29.cell? ⟨gb654, 4, none⟩ = some (.slice A1_4 l1_4.length c1_4) := (blk_cell BK654.out 4).trans rfl; have hfz30_0 := blk_frozen BK654.out 0; have hfz30_1 := blk_frozen BK654.out 1; have hfz30_2 := blk_frozen BK654.out 2; have hfz30_3 := blk_frozen BK654.out 3; have hfz30_4 := blk_frozen BK654.out 4) | ((with_reducible refine gate_callee (f := 189) rfl ?_); refine goesL_ (some 11) rfl rfl Try.func189 (by kernel_rfl) rfl #[.slice A0 l0.length c0, .agg #[.int .i64 a1_1, .slice A1_2 l1_2.length c1_2]] rfl (by (try simp only [List.map_toArray, List.map_cons, List.map_nil]); first | done | rfl | (simp only [List.length_drop, List.length_take]; rfl)) ?_; (with_reducible refine (elenchusref07_Term.calls k _ _ l0 a1_1 _ _ l1_2 t655 _ ?side1 ?side2 ?side3 ?side4 A3.out).mono ?_); (case side1 => repeat (first | exact (Kd.C_below HR0.out HB.out) | (with_reducible refine Kd.C_alloc ?_ _) | (with_reducible refine Kd.C_drewN ?_ _) | (with_reducible refine Kd.C_drew ?_))); (case side2 => exact HC0.out); (case side3 => repeat (first | exact (Kd.C_below HR1_2.out HB.out) | (with_reducible refine Kd.C_alloc ?_ _) | (with_reducible refine Kd.C_drewN ?_ _) | (with_reducible refine Kd.C_drew ?_))); (case side4 => exact HC1_2.out); rintro e w31 ⟨rfl, hb⟩; refine ⟨_, rfl, ?_⟩; have n0_ := Aside0.mk (blk_below (g := gb654) (o := .cells #[.bool a1_0, .int .i64 a1_1, .slice A1_2 l1_2.length c1_2, .int .i64 a1_3, .slice A1_4 l1_4.length c1_4] 142 (0, 0)) (by (with_reducible repeat (first | refine blk_drewN ?_ _ | refine blk_drew ?_ | refine blk_alloc ?_ _)); exact BK654.out) hb); have n1_ := Aside0.mk (below_step (by repeat (first | (with_reducible first | exact HB.out | apply below_alloc | apply pw_below_drewN | apply below_drew1 | refine below_set ?_ GE654.out) | exact HB.out)) hb); clear BK654; clear HB; have BK654 := n0_; have HB := n1_; clear n0_ n1_; (try clear hb); (try clear hb2); (try clear hk); (try clear hi)))
    go_ret
    exact ⟨by first | rfl | (simp [errW_none, errW_some] <;> rfl) | (simp [*, errW_none, errW_some] <;> rfl), by repeat (first | (with_reducible first | exact HB.out | apply below_alloc | apply pw_below_drewN | apply below_drew1 | refine below_set ?_ GE654.out) | exact HB.out)⟩
end Go.Proofs.Ythplndalbfcbbaa.PA
namespace Go.Proofs.Ythplndalbfcbbaa.PA
open Go.RowKit Go.Proofs.YthplndalbfcbbaaW.PrintWords Go.Proofs.YthplndalbfcbbaaW.PrintLast Go.Proofs.YthplndalbfcbbaaW.PrintMore
attribute [local go_sem] max2_int min2_int max_two min_two max_three min_three max_four min_four   -- for this text's walks alone
set_option linter.unusedVariables false
set_option linter.unusedSimpArgs false
def elenchusref10_Check.l0 : Nat → List (S148) → List (S142) → Int → Option (Int)
  | 0, _, _, _ => none
  | k + 1, x0, x1, x5 => if x5 < (x1.length : Int) then (if 0 ≤ x5 then ((elenchusref09_Check.f k x0 ((rd_T142 x1 x5).f0) ((rd_T142 x1 x5).f1.f0) ((rd_T142 x1 x5).f1.f1) ((rd_T142 x1 x5).f2.f0) ((rd_T142 x1 x5).f2.f1)).bind fun t661 => (if t661 = 0 then (elenchusref10_Check.l0 k x0 x1 (wrap64 (x5 + 1))) else (some t661))) else (none)) else (some 0)
def elenchusref10_Check.f (k : Nat) (l0 : List (S148)) (l1 : List (S142)) : Option (Int) := (elenchusref07_Right.f k l0).bind fun t659 => (if t659 = true then (if (l1.length : Int) > 32 then (some 2) else (elenchusref10_Check.l0 k l0 l1 0)) else (some 1))
set_option maxHeartbeats 8000000 in
set_option maxRecDepth 100000 in
theorem elenchusref10_Check.calls (k : Nat) (A0 : Option Addr) (c0 : Nat) (l0 : List (S148)) (A1 : Option Addr) (c1 : Nat) (l1 : List (S142)) (r : Int) (w : World) (hr0 : Kd.C k148 w A0 l0.length l0) (hc0 : l0.length ≤ c0) (hr1 : Kd.C k142 w A1 l1.length l1) (hc1 : l1.length ≤ c1) (h : elenchusref10_Check.f k l0 l1 = some r) :
    Calls Try.prog 123 #[.slice A0 l0.length c0, .slice A1 l1.length c1] w fun e w' => e = .returned (.int .i64 r) ∧ Below w.heap.size w w' := by
  have hu142 := Try.underlying142
  have HR0 := Aside0.mk hr0
  have HC0 := Aside0.mk hc0
  clear hr0 hc0
  have HR1 := Aside0.mk hr1
  have HC1 := Aside0.mk hc1
  clear hr1 hc1
  have HB := Aside0.mk (Below.refl w.heap.size w)
  have H : ((elenchusref07_Right.f k l0).bind fun t659 => (if t659 = true then (if (l1.length : Int) > 32 then (some 2) else (elenchusref10_Check.l0 k l0 l1 0)) else (some 1))) = some r := h
  clear h
  replace H := Option.bind_eq_some_iff.mp H
  obtain ⟨t659, A30, H⟩ := H
  replace H : (if t659 = true then (if (l1.length : Int) > 32 then (some 2) else (elenchusref10_Check.l0 k l0 l1 0)) else (some 1)) = some r := H
  have A3 := Aside0.mk A30
  clear A30
  by_cases c4 : t659 = true
  · subst c4
    have H1 : (if (l1.length : Int) > 32 then (some 2) else (elenchusref10_Check.l0 k l0 l1 0)) = some r := by rw [if_pos rfl] at H; exact H
    clear H
    have H := H1
    clear H1
    by_cases c5 : (l1.length : Int) > 32
    · rw [if_pos c5] at H
      have c5b0 : decide (32 < (l1.length : Int)) = true := decide_eq_true c5
      have c5b1 : decide (32 < l1.length) = true := decide_eq_true (by omega)
      clear c5
      obtain rfl := Option.some.inj H
      go_enter Try.func123, Try.ntmps123
      go_wp2_with (first | ((with_reducible refine gate_callee (f := 159) rfl ?_); refine goesL_ (some 8) rfl rfl Try.func159 (by kernel_rfl) rfl #[.slice A0 l0.length c0] rfl (by (try simp only [List.map_toArray, List.map_cons, List.map_nil]); first | done | rfl | (simp only [List.length_drop, List.length_take]; rfl)) ?_; (with_reducible refine (elenchusref07_Right.calls k _ _ l0 true _ ?side1 ?side2 A3.out).mono ?_); (case side1 => repeat (first | exact HR0.out | (with_reducible refine Kd.C_alloc ?_ _) | (with_reducible refine Kd.C_drewN ?_ _) | (with_reducible refine Kd.C_drew ?_))); (case side2 => exact HC0.out); rintro e w6 ⟨rfl, hb⟩; refine ⟨_, rfl, ?_⟩; have n0_ := Aside0.mk (below_step (by repeat (first | (with_reducible first | exact HB.out | apply below_alloc | apply pw_below_drewN | apply below_drew1) | exact HB.out)) hb); clear HB; have HB := n0_; clear n0_; (try clear hb); (try clear hb2); (try clear hk); (try clear hi)))
      go_ret
      exact ⟨by first | rfl | (simp [errW_none, errW_some] <;> rfl) | (simp [*, errW_none, errW_some] <;> rfl), by repeat (first | (with_reducible first | exact HB.out | apply below_alloc | apply pw_below_drewN | apply below_drew1) | exact HB.out)⟩
    · rw [if_neg c5] at H
      have c5b0 : decide (32 < (l1.length : Int)) = false := decide_eq_false c5
      have c5b1 : decide (32 < l1.length) = false := decide_eq_false (by omega)
      clear c5
      have H' := Aside0.mk H
      clear H
      go_enter Try.func123, Try.ntmps123
      go_wp2_with (first | ((with_reducible refine gate_callee (f := 159) rfl ?_); refine goesL_ (some 8) rfl rfl Try.func159 (by kernel_rfl) rfl #[.slice A0 l0.length c0] rfl (by (try simp only [List.map_toArray, List.map_cons, List.map_nil]); first | done | rfl | (simp only [List.length_drop, List.length_take]; rfl)) ?_; (with_reducible refine (elenchusref07_Right.calls k _ _ l0 true _ ?side1 ?side2 A3.out).mono ?_); (case side1 => repeat (first | exact HR0.out | (with_reducible refine Kd.C_alloc ?_ _) | (with_reducible refine Kd.C_drewN ?_ _) | (with_reducible refine Kd.C_drew ?_))); (case side2 => exact HC0.out); rintro e w7 ⟨rfl, hb⟩; refine ⟨_, rfl, ?_⟩; have n0_ := Aside0.mk (below_step (by repeat (first | (with_reducible first | exact HB.out | apply below_alloc | apply pw_below_drewN | apply below_drew1) | exact HB.out)) hb); clear HB; have HB := n0_; clear n0_; (try clear hb); (try clear hb2); (try clear hk); (try clear hi)))
      go_loopg [5] k (fun kq v5 w' => ∃ (x5_1 : Int), v5 = .int .i64 x5_1 ∧ Aside0 (elenchusref10_Check.l0 kq l0 l1 x5_1 = some r) ∧ Aside0 (kq ≤ k) ∧ Aside0 (Below w.heap.size w w'))
      case atStart => exact ⟨(0), (by first | rfl | (simp; done) | (simp [*]; done)), H', ⟨Nat.le_refl _⟩, ⟨by repeat (first | (with_reducible first | exact HB.out | apply below_alloc | apply pw_below_drewN | apply below_drew1) | exact HB.out)⟩⟩
      case round =>
        clear H'
        try clear c1
        try clear p2
        try clear c4
        try clear c5
        try clear c5b0
        try clear c5b1
        obtain ⟨x5_1, rfl, HA, HK1, HB⟩ := hrel
        cases gk with
        | zero => exact absurd HA.out (by simp [elenchusref10_Check.l0])
        | succ k1 =>
          have H := HA.out
          clear HA
          simp only [elenchusref10_Check.l0] at H
          by_cases c8 : x5_1 < (l1.length : Int)
          · rw [if_pos c8] at H
            have c8b0 : decide (x5_1 < (l1.length : Int)) = true := decide_eq_true c8
            clear c8
            by_cases c9 : 0 ≤ x5_1
            · rw [if_pos c9] at H
              have c9b0 : decide (0 ≤ x5_1) = true := decide_eq_true c9
              clear c9
              replace H := Option.bind_eq_some_iff.mp H
              obtain ⟨t661, A100, H⟩ := H
              replace H : (if t661 = 0 then (elenchusref10_Check.l0 k1 l0 l1 (wrap64 (x5_1 + 1))) else (some t661)) = some r := H
              have A10 := Aside0.mk A100
              clear A100
              by_cases c11 : t661 = 0
              · rw [if_pos c11] at H
                have c11b0 : (t661 == 0) = true := beq_iff_eq.mpr c11
                have c11b1 : (t661 != 0) = false := bne_eq_false_iff_eq.mpr c11
                clear c11
                have H' := Aside0.mk H
                clear H
                have p660 : 0 ≤ (x5_1 : Int) := of_decide_eq_true (by first | (with_reducible assumption) | assumption)
                have q660 : x5_1 < (l1.length : Int) := of_decide_eq_true (by first | (with_reducible assumption) | assumption)
                obtain ⟨ad660, A660_2, c660_2, A660_4, c660_4, e660, hx660_0, hx660_1, hx660_2, hx660_3, hx660_4, hl660_2, hi660_2, hl660_4, hi660_4⟩ := at_T142 HR1.out x5_1 p660 q660
                cases e660
                replace hx660_0 := (HB.out.cell (World.block_lt_of_cell? w _ hx660_0)).trans hx660_0
                replace hx660_1 := (HB.out.cell (World.block_lt_of_cell? w _ hx660_1)).trans hx660_1
                replace hx660_2 := (HB.out.cell (World.block_lt_of_cell? w _ hx660_2)).trans hx660_2
                replace hx660_3 := (HB.out.cell (World.block_lt_of_cell? w _ hx660_3)).trans hx660_3
                replace hx660_4 := (HB.out.cell (World.block_lt_of_cell? w _ hx660_4)).trans hx660_4
                have HR660_2 := Aside0.mk hi660_2
                have HC660_2 := Aside0.mk hl660_2
                clear hi660_2 hl660_2
                have HR660_4 := Aside0.mk hi660_4
                have HC660_4 := Aside0.mk hl660_4
                clear hi660_4 hl660_4
                replace p660 := eq_true p660
                replace q660 := eq_true q660
                go_wp2_with (first | ((with_reducible refine gate_callee (f := 160) rfl ?_); refine goesL_ (some 24) rfl rfl Try.func160 (by kernel_rfl) rfl #[.slice A0 l0.length c0, .agg #[.bool ((rd_T142 l1 x5_1).f0), .int .i64 ((rd_T142 l1 x5_1).f1.f0), .slice A660_2 ((rd_T142 l1 x5_1).f1.f1).length c660_2, .int .i64 ((rd_T142 l1 x5_1).f2.f0), .slice A660_4 ((rd_T142 l1 x5_1).f2.f1).length c660_4]] rfl (by (try simp only [List.map_toArray, List.map_cons, List.map_nil]); first | done | rfl | (simp only [List.length_drop, List.length_take]; rfl)) ?_; (with_reducible refine (elenchusref09_Check.calls k1 _ _ l0 ((rd_T142 l1 x5_1).f0) ((rd_T142 l1 x5_1).f1.f0) _ _ ((rd_T142 l1 x5_1).f1.f1) ((rd_T142 l1 x5_1).f2.f0) _ _ ((rd_T142 l1 x5_1).f2.f1) t661 _ ?side1 ?side2 ?side3 ?side4 ?side5 ?side6 A10.out).mono ?_); (case side1 => repeat (first | exact (Kd.C_below HR0.out HB.out) | (with_reducible refine Kd.C_alloc ?_ _) | (with_reducible refine Kd.C_drewN ?_ _) | (with_reducible refine Kd.C_drew ?_))); (case side2 => exact HC0.out); (case side3 => repeat (first | exact (Kd.C_below HR660_2.out HB.out) | (with_reducible refine Kd.C_alloc ?_ _) | (with_reducible refine Kd.C_drewN ?_ _) | (with_reducible refine Kd.C_drew ?_))); (case side4 => exact HC660_2.out); (case side5 => repeat (first | exact (Kd.C_below HR660_4.out HB.out) | (with_reducible refine Kd.C_alloc ?_ _) | (with_reducible refine Kd.C_drewN ?_ _) | (with_reducible refine Kd.C_drew ?_))); (case side6 => exact HC660_4.out); rintro e w12 ⟨rfl, hb⟩; refine ⟨_, rfl, ?_⟩; have n0_ := Aside0.mk (below_step (by repeat (first | (with_reducible first | exact HB.out | apply below_alloc | apply pw_below_drewN | apply below_drew1) | exact HB.out)) hb); clear HB; have HB := n0_; clear n0_; (try clear hb); (try clear hb2); (try clear hk); (try clear hi)))
                go_roundg k1
                case measure => have := HK1.out; omega
                case rel => exact ⟨(wrap64 (x5_1 + 1)), (by first | rfl | (simp; done) | (simp [*]; done)), H', ⟨by have := HK1.out; omega⟩, ⟨by repeat (first | (with_reducible first | exact HB.out | apply below_alloc | apply pw_below_drewN | apply below_drew1) | exact HB.out)⟩⟩
              · rw [if_neg c11] at H
                have c11b0 : (t661 == 0) = false := beq_eq_false_iff_ne.mpr c11
                have c11b1 : (t661 != 0) = true := bne_iff_ne.mpr c11
                obtain rfl := Option.some.inj H
                have p660 : 0 ≤ (x5_1 : Int) := of_decide_eq_true (by first | (with_reducible assumption) | assumption)
                have q660 : x5_1 < (l1.length : Int) := of_decide_eq_true (by first | (with_reducible assumption) | assumption)
                obtain ⟨ad660, A660_2, c660_2, A660_4, c660_4, e660, hx660_0, hx660_1, hx660_2, hx660_3, hx660_4, hl660_2, hi660_2, hl660_4, hi660_4⟩ := at_T142 HR1.out x5_1 p660 q660
                cases e660
                replace hx660_0 := (HB.out.cell (World.block_lt_of_cell? w _ hx660_0)).trans hx660_0
                replace hx660_1 := (HB.out.cell (World.block_lt_of_cell? w _ hx660_1)).trans hx660_1
                replace hx660_2 := (HB.out.cell (World.block_lt_of_cell? w _ hx660_2)).trans hx660_2
                replace hx660_3 := (HB.out.cell (World.block_lt_of_cell? w _ hx660_3)).trans hx660_3
                replace hx660_4 := (HB.out.cell (World.block_lt_of_cell? w _ hx660_4)).trans hx660_4
                have HR660_2 := Aside0.mk hi660_2
                have HC660_2 := Aside0.mk hl660_2
                clear hi660_2 hl660_2
                have HR660_4 := Aside0.mk hi660_4
                have HC660_4 := Aside0.mk hl660_4
                clear hi660_4 hl660_4
                replace p660 := eq_true p660
                replace q660 := eq_true q660
                go_wp2_with (first | ((with_reducible refine gate_callee (f := 160) rfl ?_); refine goesL_ (some 24) rfl rfl Try.func160 (by kernel_rfl) rfl #[.slice A0 l0.length c0, .agg #[.bool ((rd_T142 l1 x5_1).f0), .int .i64 ((rd_T142 l1 x5_1).f1.f0), .slice A660_2 ((rd_T142 l1 x5_1).f1.f1).length c660_2, .int .i64 ((rd_T142 l1 x5_1).f2.f0), .slice A660_4 ((rd_T142 l1 x5_1).f2.f1).length c660_4]] rfl (by (try simp only [List.map_toArray, List.map_cons, List.map_nil]); first | done | rfl | (simp only [List.length_drop, List.length_take]; rfl)) ?_; (with_reducible refine (elenchusref09_Check.calls k1 _ _ l0 ((rd_T142 l1 x5_1).f0) ((rd_T142 l1 x5_1).f1.f0) _ _ ((rd_T142 l1 x5_1).f1.f1) ((rd_T142 l1 x5_1).f2.f0) _ _ ((rd_T142 l1 x5_1).f2.f1) t661 _ ?side1 ?side2 ?side3 ?side4 ?side5 ?side6 A10.out).mono ?_); (case side1 => repeat (first | exact (Kd.C_below HR0.out HB.out) | (with_reducible refine Kd.C_alloc ?_ _) | (with_reducible refine Kd.C_drewN ?_ _) | (with_reducible refine Kd.C_drew ?_))); (case side2 => exact HC0.out); (case side3 => repeat (first | exact (Kd.C_below HR660_2.out HB.out) | (with_reducible refine Kd.C_alloc ?_ _) | (with_reducible refine Kd.C_drewN ?_ _) | (with_reducible refine Kd.C_drew ?_))); (case side4 => exact HC660_2.out); (case side5 => repeat (first | exact (Kd.C_below HR660_4.out HB.out) | (with_reducible refine Kd.C_alloc ?_ _) | (with_reducible refine Kd.C_drewN ?_ _) | (with_reducible refine Kd.C_drew ?_))); (case side6 => exact HC660_4.out); rintro e w13 ⟨rfl, hb⟩; refine ⟨_, rfl, ?_⟩; have n0_ := Aside0.mk (below_step (by repeat (first | (with_reducible first | exact HB.out | apply below_alloc | apply pw_below_drewN | apply below_drew1) | exact HB.out)) hb); clear HB; have HB := n0_; clear n0_; (try clear hb); (try clear hb2); (try clear hk); (try clear hi)))
                go_ret
                exact ⟨by first | rfl | (simp [errW_none, errW_some] <;> rfl) | (simp [*, errW_none, errW_some] <;> rfl), by repeat (first | (with_reducible first | exact HB.out | apply below_alloc | apply pw_below_drewN | apply below_drew1) | exact HB.out)⟩
            · rw [if_neg c9] at H
              exact absurd H (by simp)
          · rw [if_neg c8] at H
            have c8b0 : decide (x5_1 < (l1.length : Int)) = false := decide_eq_false c8
            clear c8
            obtain rfl := Option.some.inj H
            go_wp2
            go_ret
            exact ⟨by first | rfl | (simp [errW_none, errW_some] <;> rfl) | (simp [*, errW_none, errW_some] <;> rfl), by repeat (first | (with_reducible first | exact HB.out | apply below_alloc | apply pw_below_drewN | apply below_drew1) | exact HB.out)⟩
  · replace c4 := Bool.eq_false_iff.mpr c4
    subst c4
    have H1 : (some 1) = some r := by rw [if_neg (show ¬ (false = true) by decide)] at H; exact H
    clear H
    have H := H1
    clear H1
    obtain rfl := Option.some.inj H
    go_enter Try.func123, Try.ntmps123
    go_wp2_with (first | ((with_reducible refine gate_callee (f := 159) rfl ?_); refine goesL_ (some 8) rfl rfl Try.func159 (by kernel_rfl) rfl #[.slice A0 l0.length c0] rfl (by (try simp only [List.map_toArray, List.map_cons, List.map_nil]); first | done | rfl | (simp only [List.length_drop, List.length_take]; rfl)) ?_; (with_reducible refine (elenchusref07_Right.calls k _ _ l0 false _ ?side1 ?side2 A3.out).mono ?_); (case side1 => repeat (first | exact HR0.out | (with_reducible refine Kd.C_alloc ?_ _) | (with_reducible refine Kd.C_drewN ?_ _) | (with_reducible refine Kd.C_drew ?_))); (case side2 => exact HC0.out); rintro e w14 ⟨rfl, hb⟩; refine ⟨_, rfl, ?_⟩; have n0_ := Aside0.mk (below_step (by repeat (first | (with_reducible first | exact HB.out | apply below_alloc | apply pw_below_drewN | apply below_drew1) | exact HB.out)) hb); clear HB; have HB := n0_; clear n0_; (try clear hb); (try clear hb2); (try clear hk); (try clear hi)))
    go_ret
    exact ⟨by first | rfl | (simp [errW_none, errW_some] <;> rfl) | (simp [*, errW_none, errW_some] <;> rfl), by repeat (first | (with_reducible first | exact HB.out | apply below_alloc | apply pw_below_drewN | apply below_drew1) | exact HB.out)⟩
end Go.Proofs.Ythplndalbfcbbaa.PA
namespace Go.Proofs.Ythplndalbfcbbaa.PA
open Go.RowKit Go.Proofs.YthplndalbfcbbaaW.PrintWords Go.Proofs.YthplndalbfcbbaaW.PrintLast Go.Proofs.YthplndalbfcbbaaW.PrintMore
attribute [local go_sem] max2_int min2_int max_two min_two max_three min_three max_four min_four   -- for this text's walks alone
set_option linter.unusedVariables false
set_option linter.unusedSimpArgs false
mutual
def elenchusref16_stands.j0 : Nat → Int → Int → Int → List (S25) → Option (Int)
  | 0, _, _, _, _ => none
  | k + 1, x1, x5, x663000, x663001 => elenchusref16_stands.l0 k x1 x5 0 x663000 x663001
def elenchusref16_stands.l0 : Nat → Int → Int → Int → Int → List (S25) → Option (Int)
  | 0, _, _, _, _, _ => none
  | k + 1, x1, x5, x6, x663000, x663001 => if x6 < (x663001.length : Int) then (if 0 ≤ x6 then ((elenchusref16_stands.f k ((rd_T25 x663001 x6).f0) ((rd_T25 x663001 x6).f1) x1).bind fun t664 => (elenchusref16_stands.l0 k x1 (wrap64 (x5 + t664)) (wrap64 (x6 + 1)) x663000 x663001)) else (none)) else (some x5)
def elenchusref16_stands.f : Nat → Int → List (S25) → Int → Option (Int)
  | 0, _, _, _ => none
  | k + 1, a0_0, l0_1, a1 => if a0_0 = a1 then (elenchusref16_stands.j0 k a1 1 a0_0 l0_1) else (elenchusref16_stands.j0 k a1 0 a0_0 l0_1)
end
set_option maxHeartbeats 8000000 in
set_option maxRecDepth 100000 in
theorem elenchusref16_stands.calls (k : Nat) : ∀ (a0_0 : Int) (A0_1 : Option Addr) (c0_1 : Nat) (l0_1 : List (S25)) (a1 : Int) (r : Int) (w : World) (hr0_1 : Kd.C k25 w A0_1 l0_1.length l0_1) (hc0_1 : l0_1.length ≤ c0_1) (h : elenchusref16_stands.f k a0_0 l0_1 a1 = some r),
    Calls Try.prog 124 #[.agg #[.int .i64 a0_0, .slice A0_1 l0_1.length c0_1], .int .i64 a1] w fun e w' => e = .returned (.int .i64 r) ∧ Below w.heap.size w w' := by
  induction k using Nat.strongRecOn with
  | _ k ih =>
  intro a0_0 A0_1 c0_1 l0_1 a1 r w hr0_1 hc0_1 h
  cases k with
  | zero => exact absurd h (by simp [elenchusref16_stands.f])
  | succ k =>
  simp only [elenchusref16_stands.f] at h
  have hu25 := Try.underlying25
  have HR0_1 := Aside0.mk hr0_1
  have HC0_1 := Aside0.mk hc0_1
  clear hr0_1 hc0_1
  have HB := Aside0.mk (Below.refl w.heap.size w)
  have H : (if a0_0 = a1 then (elenchusref16_stands.j0 k a1 1 a0_0 l0_1) else (elenchusref16_stands.j0 k a1 0 a0_0 l0_1)) = some r := h
  clear h
  have HC3 := Aside0.mk H
  clear H
  go_enter Try.func124, Try.ntmps124
  go_upto_if 10 with (first | ((with_reducible refine gate_dst (N := 2) rfl ?_); refine box_event ?hg (N := 2) ?hd (cs := #[.int .i64 a0_0, .slice A0_1 l0_1.length c0_1]) (t := 25) ?hr ?_; (case hd => rfl); (case hg => rfl); (case hr => first | (go_simp; done) | (go_simp; rfl)); intro gb662 hg w4 hbox hb; have n0_ := Aside0.mk (below_step (by repeat (first | (with_reducible first | exact HB.out | apply below_alloc | apply pw_below_drewN | apply below_drew1) | exact HB.out)) hb); have n1_ := Aside0.mk (hbox); have n2_ := Aside0.mk ((by rw [hg]; exact (below_size (by repeat (first | (with_reducible first | exact HB.out | apply below_alloc | apply pw_below_drewN | apply below_drew1) | exact HB.out))) : w.heap.size ≤ gb662)); have n3_ := Aside0.mk ((by rw [hg]; exact (below_size (by repeat (first | (with_reducible first | exact HB.out | apply below_alloc | apply pw_below_drewN | apply below_drew1) | exact HB.out))) : w.heap.size ≤ gb662)); clear HB; have HB := n0_; have BK662 := n1_; have GW662 := n2_; have GE662 := n3_; clear n0_ n1_ n2_ n3_; clear hb hbox hg; have hcz5_0 : w4.cell? ⟨gb662, 0, none⟩ = some (.int .i64 a0_0) := (blk_cell BK662.out 0).trans rfl; have hcz5_1 : w4.cell? ⟨gb662, 1, none⟩ = some (.slice A0_1 l0_1.length c0_1) := (blk_cell BK662.out 1).trans rfl; have hfz5_0 := blk_frozen BK662.out 0; have hfz5_1 := blk_frozen BK662.out 1))
  (try simp only [Act.put, List.setIfInBounds_toArray, List.set_cons_zero, List.set_cons_succ])
  go_cut [5] (fun v5 wc => ∃ (kq : Nat) (x5_2 : Int), v5 = .int .i64 x5_2 ∧ Aside0 (elenchusref16_stands.j0 kq a1 x5_2 a0_0 l0_1 = some r) ∧ Aside0 (kq ≤ k) ∧ Aside0 (wc.heap[gb662]? = some (.cells #[.int .i64 a0_0, (.slice A0_1 l0_1.length c0_1)] 25 (0, 0))) ∧ Aside0 (Below w.heap.size w wc))
  case first =>
    have H := HC3.out
    clear HC3
    by_cases c6 : a0_0 = a1
    · rw [if_pos c6] at H
      have c6b0 : (a0_0 == a1) = true := beq_iff_eq.mpr c6
      have c6b1 : (a0_0 != a1) = false := bne_eq_false_iff_eq.mpr c6
      clear c6
      (first | rw [c6b0] | (simp only [i64_w, i32_w]; rw [c6b0]) | skip)
      have H' := Aside0.mk H
      clear H
      go_wp2
      go_meet
      case rel => exact ⟨_, (1), (by first | rfl | (simp; done) | (simp [*]; done)), H', ⟨by first | omega | exact Nat.le_refl _⟩, ⟨by (with_reducible repeat (first | refine blk_drewN ?_ _ | refine blk_drew ?_ | refine blk_alloc ?_ _)); exact BK662.out⟩, ⟨by repeat (first | (with_reducible first | exact HB.out | apply below_alloc | apply pw_below_drewN | apply below_drew1 | refine below_set ?_ GE662.out) | exact HB.out)⟩⟩
    · rw [if_neg c6] at H
      have c6b0 : (a0_0 == a1) = false := beq_eq_false_iff_ne.mpr c6
      have c6b1 : (a0_0 != a1) = true := bne_iff_ne.mpr c6
      (first | rw [c6b0] | (simp only [i64_w, i32_w]; rw [c6b0]) | skip)
      have H' := Aside0.mk H
      clear H
      go_wp2
      go_meet
      case rel => exact ⟨_, (0), (by first | rfl | (simp; done) | (simp [*]; done)), H', ⟨by first | omega | exact Nat.le_refl _⟩, ⟨by (with_reducible repeat (first | refine blk_drewN ?_ _ | refine blk_drew ?_ | refine blk_alloc ?_ _)); exact BK662.out⟩, ⟨by repeat (first | (with_reducible first | exact HB.out | apply below_alloc | apply pw_below_drewN | apply below_drew1 | refine below_set ?_ GE662.out) | exact HB.out)⟩⟩
  case rest =>
    clear HC3
    try clear c1
    try clear p2
    try clear c6
    try clear c6b0
    try clear c6b1
    try clear hcz5_0
    try clear hcz5_1
    try clear hfz5_0
    try clear hfz5_1
    obtain ⟨kq, x5_2, rfl, HA, HJ2, BK662, HB⟩ := hcut
    cases kq with
    | zero => exact absurd HA.out (by simp [elenchusref16_stands.j0])
    | succ kj2 =>
      have H := HA.out
      clear HA
      simp only [elenchusref16_stands.j0] at H
      have H' := Aside0.mk H
      clear H
      go_wp2
      go_loopg [5, 6] kj2 (fun kq v5 v6 w' => ∃ (x5_2 : Int) (x6_2 : Int), v5 = .int .i64 x5_2 ∧ v6 = .int .i64 x6_2 ∧ Aside0 (elenchusref16_stands.l0 kq a1 x5_2 x6_2 a0_0 l0_1 = some r) ∧ Aside0 (kq ≤ kj2) ∧ Aside0 (w'.heap[gb662]? = some (.cells #[.int .i64 a0_0, (.slice A0_1 l0_1.length c0_1)] 25 (0, 0))) ∧ Aside0 (Below w.heap.size w w'))
      case atStart => exact ⟨(x5_2), (0), (by first | rfl | (simp; done) | (simp [*]; done)), (by first | rfl | (simp; done) | (simp [*]; done)), H', ⟨Nat.le_refl _⟩, ⟨by (with_reducible repeat (first | refine blk_drewN ?_ _ | refine blk_drew ?_ | refine blk_alloc ?_ _)); exact BK662.out⟩, ⟨by repeat (first | (with_reducible first | exact HB.out | apply below_alloc | apply pw_below_drewN | apply below_drew1 | refine below_set ?_ GE662.out) | exact HB.out)⟩⟩
      case round =>
        clear H'
        try clear c1
        try clear p2
        try clear c6
        try clear c6b0
        try clear c6b1
        try clear hcz5_0
        try clear hcz5_1
        try clear hfz5_0
        try clear hfz5_1
        try clear p2
        obtain ⟨x5_2, x6_2, rfl, rfl, HA, HK2, BK662, HB⟩ := hrel
        cases gk with
        | zero => exact absurd HA.out (by simp [elenchusref16_stands.l0])
        | succ k2 =>
          have H := HA.out
          clear HA
          simp only [elenchusref16_stands.l0] at H
          by_cases c7 : x6_2 < (l0_1.length : Int)
          · rw [if_pos c7] at H
            have c7b0 : decide (x6_2 < (l0_1.length : Int)) = true := decide_eq_true c7
            clear c7
            by_cases c8 : 0 ≤ x6_2
            · rw [if_pos c8] at H
              have c8b0 : decide (0 ≤ x6_2) = true := decide_eq_true c8
              clear c8
              replace H := Option.bind_eq_some_iff.mp H
              obtain ⟨t664, A90, H⟩ := H
              replace H : (elenchusref16_stands.l0 k2 a1 (wrap64 (x5_2 + t664)) (wrap64 (x6_2 + 1)) a0_0 l0_1) = some r := H
              have A9 := Aside0.mk A90
              clear A90
              have H' := Aside0.mk H
              clear H
              have hcz10_0 : wr.cell? ⟨gb662, 0, none⟩ = some (.int .i64 a0_0) := (blk_cell BK662.out 0).trans rfl
              have hcz10_1 : wr.cell? ⟨gb662, 1, none⟩ = some (.slice A0_1 l0_1.length c0_1) := (blk_cell BK662.out 1).trans rfl
              have hfz10_0 := blk_frozen BK662.out 0
              have hfz10_1 := blk_frozen BK662.out 1
              have p663 : 0 ≤ (x6_2 : Int) := of_decide_eq_true (by first | (with_reducible assumption) | assumption)
              have q663 : x6_2 < (l0_1.length : Int) := of_decide_eq_true (by first | (with_reducible assumption) | assumption)
              obtain ⟨ad663, A663_1, c663_1, e663, hx663_0, hx663_1, hl663_1, hi663_1⟩ := at_T25 HR0_1.out x6_2 p663 q663
              cases e663
              replace hx663_0 := (HB.out.cell (World.block_lt_of_cell? w _ hx663_0)).trans hx663_0
              replace hx663_1 := (HB.out.cell (World.block_lt_of_cell? w _ hx663_1)).trans hx663_1
              have HR663_1 := Aside0.mk hi663_1
              have HC663_1 := Aside0.mk hl663_1
              clear hi663_1 hl663_1
              replace p663 := eq_true p663
              replace q663 := eq_true q663
              go_wp2_with (first | ((with_reducible refine gate_callee (f := 124) rfl ?_); refine goesL_ (some 25) rfl rfl Try.func124 (by kernel_rfl) rfl #[.agg #[.int .i64 ((rd_T25 l0_1 x6_2).f0), .slice A663_1 ((rd_T25 l0_1 x6_2).f1).length c663_1], .int .i64 a1] rfl (by (try simp only [List.map_toArray, List.map_cons, List.map_nil]); first | done | rfl | (simp only [List.length_drop, List.length_take]; rfl)) ?_; (with_reducible refine (ih k2 (by have := HJ2.out; have := HK2.out; omega) ((rd_T25 l0_1 x6_2).f0) _ _ ((rd_T25 l0_1 x6_2).f1) a1 t664 _ ?side1 ?side2 A9.out).mono ?_); (case side1 => repeat (first | exact (Kd.C_below HR663_1.out HB.out) | (with_reducible refine Kd.C_alloc ?_ _) | (with_reducible refine Kd.C_drewN ?_ _) | (with_reducible refine Kd.C_drew ?_))); (case side2 => exact HC663_1.out); rintro e w11 ⟨rfl, hb⟩; refine ⟨_, rfl, ?_⟩; have n0_ := Aside0.mk (blk_below (g := gb662) (o := .cells #[.int .i64 a0_0, .slice (some ad663) l0_1.length c0_1] 25 (0, 0)) (by (with_reducible repeat (first | refine blk_drewN ?_ _ | refine blk_drew ?_ | refine blk_alloc ?_ _)); exact BK662.out) hb); have n1_ := Aside0.mk (below_step (by repeat (first | (with_reducible first | exact HB.out | apply below_alloc | apply pw_below_drewN | apply below_drew1 | refine below_set ?_ GE662.out) | exact HB.out)) hb); clear BK662; clear HB; have BK662 := n0_; have HB := n1_; clear n0_ n1_; (try clear hb); (try clear hb2); (try clear hk); (try clear hi)))
              go_roundg k2
              case measure => have := HJ2.out; have := HK2.out; omega
              case rel => exact ⟨(wrap64 (x5_2 + t664)), (wrap64 (x6_2 + 1)), (by first | rfl | (simp; done) | (simp [*]; done)), (by first | rfl | (simp; done) | (simp [*]; done)), H', ⟨by have := HJ2.out; have := HK2.out; omega⟩, ⟨by (with_reducible repeat (first | refine blk_drewN ?_ _ | refine blk_drew ?_ | refine blk_alloc ?_ _)); exact BK662.out⟩, ⟨by repeat (first | (with_reducible first | exact HB.out | apply below_alloc | apply pw_below_drewN | apply below_drew1 | refine below_set ?_ GE662.out) | exact HB.out)⟩⟩
            · rw [if_neg c8] at H
              exact absurd H (by simp)
          · rw [if_neg c7] at H
            have c7b0 : decide (x6_2 < (l0_1.length : Int)) = false := decide_eq_false c7
            clear c7
            obtain rfl := Option.some.inj H
            have hcz12_0 : wr.cell? ⟨gb662, 0, none⟩ = some (.int .i64 a0_0) := (blk_cell BK662.out 0).trans rfl
            have hcz12_1 : wr.cell? ⟨gb662, 1, none⟩ = some (.slice A0_1 l0_1.length c0_1) := (blk_cell BK662.out 1).trans rfl
            have hfz12_0 := blk_frozen BK662.out 0
            have hfz12_1 := blk_frozen BK662.out 1
            go_wp2
            go_ret
            exact ⟨by first | rfl | (simp [errW_none, errW_some] <;> rfl) | (simp [*, errW_none, errW_some] <;> rfl), by repeat (first | (with_reducible first | exact HB.out | apply below_alloc | apply pw_below_drewN | apply below_drew1 | refine below_set ?_ GE662.out) | exact HB.out)⟩
end Go.Proofs.Ythplndalbfcbbaa.PA
namespace Go.Proofs.Ythplndalbfcbbaa.PA
open Go.RowKit Go.Proofs.YthplndalbfcbbaaW.PrintWords Go.Proofs.YthplndalbfcbbaaW.PrintLast Go.Proofs.YthplndalbfcbbaaW.PrintMore
attribute [local go_sem] max2_int min2_int max_two min_two max_three min_three max_four min_four   -- for this text's walks alone
set_option linter.unusedVariables false
set_option linter.unusedSimpArgs false
mutual
def elenchusref16_Of.l0 : Nat → List (S148) → List (S142) → List Int → Int → Option (List Int × Int)
  | 0, _, _, _, _ => none
  | k + 1, x0, x1, x7, x8 => if x8 < (x1.length : Int) then (if 0 ≤ x8 then (if (rd_T142 x1 x8).f0 = true then (elenchusref16_Of.j1 k x0 x1 x7 x8 1) else (elenchusref16_Of.j1 k x0 x1 x7 x8 0)) else (none)) else (some (x7, 0))
def elenchusref16_Of.j1 : Nat → List (S148) → List (S142) → List Int → Int → Int → Option (List Int × Int)
  | 0, _, _, _, _, _ => none
  | k + 1, x0, x1, x7, x8, x9 => if 0 ≤ x9 then (if x9 < (x7.length : Int) then (elenchusref16_Of.l1 k x0 x1 (x7.set (x9 : Int).toNat (wrap64 ((rd x7 x9) + 1))) x8 x9 0) else (none)) else (none)
def elenchusref16_Of.l1 : Nat → List (S148) → List (S142) → List Int → Int → Int → Int → Option (List Int × Int)
  | 0, _, _, _, _, _, _ => none
  | k + 1, x0, x1, x7, x8, x9, x10 => if x10 < (x0.length : Int) then (if 0 ≤ (wrap64 ((wrap64 (2 + (wrap64 (2 * x10)))) + x9)) then (if (wrap64 ((wrap64 (2 + (wrap64 (2 * x10)))) + x9)) < (x7.length : Int) then (if 0 ≤ x8 then (if x8 < (x1.length : Int) then ((elenchusref16_stands.f k ((rd_T142 x1 x8).f1.f0) ((rd_T142 x1 x8).f1.f1) x10).bind fun t674 => ((elenchusref16_stands.f k ((rd_T142 x1 x8).f2.f0) ((rd_T142 x1 x8).f2.f1) x10).bind fun t676 => (elenchusref16_Of.l1 k x0 x1 (x7.set ((wrap64 ((wrap64 (2 + (wrap64 (2 * x10)))) + x9)) : Int).toNat (wrap64 ((wrap64 ((rd x7 (wrap64 ((wrap64 (2 + (wrap64 (2 * x10)))) + x9))) + t674)) + t676))) x8 x9 (wrap64 (x10 + 1))))) else (none)) else (none)) else (none)) else (none)) else (elenchusref16_Of.l0 k x0 x1 x7 (wrap64 (x8 + 1)))
end
def elenchusref16_Of.f (k : Nat) (l0 : List (S148)) (l1 : List (S142)) : Option (List Int × Int) := (elenchusref10_Check.f k l0 l1).bind fun t665 => (if t665 = 0 then (if 0 ≤ (wrap64 (2 + (wrap64 (2 * (l0.length : Int))))) then (if (wrap64 (2 + (wrap64 (2 * (l0.length : Int)))) : Int).toNat ≤ 35184372088832 then (elenchusref16_Of.l0 k l0 l1 (List.replicate (wrap64 (2 + (wrap64 (2 * (l0.length : Int)))) : Int).toNat 0) 0) else (none)) else (none)) else (some (([] : List Int), t665)))
def elenchusref16_Of.T15 : Bool × List (List Nat × List Nat) := (true, [([], []), ([], []), ([1], [1]), ([2], [2]), ([], []), ([3, 4], [3, 4]), ([], []), ([], []), ([7], [7]), ([8], [8]), ([], []), ([9, 10], [9, 10]), ([6, 11], [6, 11]), ([12], [12]), ([], []), ([], []), ([14, 15], [14, 15]), ([16], [16]), ([17], [17]), ([], []), ([18, 19], [18, 19]), ([13, 20], [13, 20]), ([], []), ([], []), ([22, 23], [22, 23]), ([24], [24]), ([25], [25]), ([], []), ([26, 27, 20], [26, 27]), ([21, 28], [21, 28]), ([0, 5, 0, 1, 2, 3, 4, 5, 6, 7, 8, 9, 10, 11, 12, 13, 14, 15, 16, 17, 18, 19, 20, 21, 22, 23, 24, 25, 26, 27, 28, 29], [0, 5]), ([30, 29, 28, 0, 1, 2, 3, 4, 5, 6, 7, 8, 9, 10, 11, 12, 13, 14, 15, 16, 17, 18, 19, 20, 21, 22, 23, 24, 25, 26, 27, 28, 29], [29, 30])])
def elenchusref16_Of.B15 : List Nat := [0, 0, 2, 6, 0, 30, 0, 0, 128, 384, 0, 1920, 4032, 8128, 0, 0, 49152, 114688, 245760, 0, 1032192, 2097088, 0, 0, 12582912, 29360128, 62914560, 0, 266321920, 536870848, 1073741823, 2147483647]
theorem elenchusref16_Of.tab15 : rtab .any (opsOf Try.f62 15) = elenchusref16_Of.T15 := by kernel_rfl
theorem elenchusref16_Of.bits15 : waitsOk elenchusref16_Of.T15.2 elenchusref16_Of.B15 = true := by kernel_rfl
set_option maxHeartbeats 8000000 in
set_option maxRecDepth 100000 in
theorem elenchusref16_Of.calls (k : Nat) (A0 : Option Addr) (c0 : Nat) (l0 : List (S148)) (A1 : Option Addr) (c1 : Nat) (l1 : List (S142)) (r1 : List Int) (r2 : Int) (w : World) (hr0 : Kd.C k148 w A0 l0.length l0) (hc0 : l0.length ≤ c0) (hr1 : Kd.C k142 w A1 l1.length l1) (hc1 : l1.length ≤ c1) (h : elenchusref16_Of.f k l0 l1 = some (r1, r2)) :
    Calls Try.prog 62 #[.slice A0 l0.length c0, .slice A1 l1.length c1] w fun e w' => ∃ v0_ : Value, e = .returned (.tuple #[v0_, .int .i64 r2]) ∧ Kd.R (Kd.int .i64) 3 w' w.heap.size (fun _ => True) v0_ r1 ∧ Below w.heap.size w w' := by
  have hu25 := Try.underlying25
  have HR0 := Aside0.mk hr0
  have HC0 := Aside0.mk hc0
  clear hr0 hc0
  have HR1 := Aside0.mk hr1
  have HC1 := Aside0.mk hc1
  clear hr1 hc1
  have HB := Aside0.mk (Below.refl w.heap.size w)
  have H : ((elenchusref10_Check.f k l0 l1).bind fun t665 => (if t665 = 0 then (if 0 ≤ (wrap64 (2 + (wrap64 (2 * (l0.length : Int))))) then (if (wrap64 (2 + (wrap64 (2 * (l0.length : Int)))) : Int).toNat ≤ 35184372088832 then (elenchusref16_Of.l0 k l0 l1 (List.replicate (wrap64 (2 + (wrap64 (2 * (l0.length : Int)))) : Int).toNat 0) 0) else (none)) else (none)) else (some (([] : List Int), t665)))) = some (r1, r2) := h
  clear h
  replace H := Option.bind_eq_some_iff.mp H
  obtain ⟨t665, A30, H⟩ := H
  replace H : (if t665 = 0 then (if 0 ≤ (wrap64 (2 + (wrap64 (2 * (l0.length : Int))))) then (if (wrap64 (2 + (wrap64 (2 * (l0.length : Int)))) : Int).toNat ≤ 35184372088832 then (elenchusref16_Of.l0 k l0 l1 (List.replicate (wrap64 (2 + (wrap64 (2 * (l0.length : Int)))) : Int).toNat 0) 0) else (none)) else (none)) else (some (([] : List Int), t665))) = some (r1, r2) := H
  have A3 := Aside0.mk A30
  clear A30
  by_cases c4 : t665 = 0
  · rw [if_pos c4] at H
    have c4b0 : (t665 == 0) = true := beq_iff_eq.mpr c4
    have c4b1 : (t665 != 0) = false := bne_eq_false_iff_eq.mpr c4
    clear c4
    obtain ⟨ji5, hji5⟩ : ∃ j_ : Int, (wrap64 (2 + (wrap64 (2 * (l0.length : Int))))) = j_ := ⟨_, rfl⟩
    replace H : (if 0 ≤ (ji5) then (if (ji5 : Int).toNat ≤ 35184372088832 then (elenchusref16_Of.l0 k l0 l1 (List.replicate (ji5 : Int).toNat 0) 0) else (none)) else (none)) = some (r1, r2) := by first | (rw [hji5] at H; exact H) | (simp only [hji5] at H ⊢; exact H)
    (try rw [hji5] at A3)
    have hji5w : (IntKind.i64.wrap (2 + (wrap64 (2 * (l0.length : Int))))) = ji5 := (i64_w _).trans hji5
    by_cases c6 : 0 ≤ (ji5)
    · rw [if_pos c6] at H
      have c6b0 := eq_true c6
      have c6b1 : decide (0 ≤ (ji5)) = true := decide_eq_true c6
      clear c6
      by_cases c7 : (ji5 : Int).toNat ≤ 35184372088832
      · rw [if_pos c7] at H
        have c7b0 := eq_true c7
        have c7b1 : decide ((ji5 : Int).toNat ≤ 35184372088832) = true := decide_eq_true c7
        clear c7
        obtain ⟨y666, hy666⟩ : ∃ y_ : List Int, y_ = (List.replicate (ji5 : Int).toNat 0) := ⟨_, rfl⟩
        replace H : (elenchusref16_Of.l0 k l0 l1 y666 0) = some (r1, r2) := by first | (rw [hy666]; with_reducible exact H) | (have H2_ := (Option.bind_some _ _).symm.trans H; rw [hy666]; with_reducible exact H2_) | (have H2_ := (Option.bind_some _ _).symm.trans H; with_reducible exact H2_) | with_reducible exact H | (rw [hy666]; exact H) | exact H
        have Ny666 := Aside0.mk hy666
        clear hy666
        have H' := Aside0.mk H
        clear H
        go_enter Try.func62, Try.ntmps62
        go_wp2_with (first | ((with_reducible refine gate_callee (f := 123) rfl ?_); refine goesL_ (some 13) rfl rfl Try.func123 (by kernel_rfl) rfl #[.slice A0 l0.length c0, .slice A1 l1.length c1] rfl (by (try simp only [List.map_toArray, List.map_cons, List.map_nil]); first | done | rfl | (simp only [List.length_drop, List.length_take]; rfl)) ?_; (with_reducible refine (elenchusref10_Check.calls k _ _ l0 _ _ l1 t665 _ ?side1 ?side2 ?side3 ?side4 A3.out).mono ?_); (case side1 => repeat (first | exact HR0.out | (with_reducible refine Kd.C_alloc ?_ _) | (with_reducible refine Kd.C_drewN ?_ _) | (with_reducible refine Kd.C_drew ?_))); (case side2 => exact HC0.out); (case side3 => repeat (first | exact HR1.out | (with_reducible refine Kd.C_alloc ?_ _) | (with_reducible refine Kd.C_drewN ?_ _) | (with_reducible refine Kd.C_drew ?_))); (case side4 => exact HC1.out); rintro e w8 ⟨rfl, hb⟩; refine ⟨_, rfl, ?_⟩; have n0_ := Aside0.mk (below_step (by repeat (first | (with_reducible first | exact HB.out | apply below_alloc | apply pw_below_drewN | apply below_drew1) | exact HB.out)) hb); clear HB; have HB := n0_; clear n0_; (try clear hb); (try clear hb2); (try clear hk); (try clear hi)) | ((with_reducible refine gate_dst (N := 21) rfl ?_); refine Kd.R_make (Kd.int .i64) _ 3 rfl (N := 21) rfl 37 _ _ rfl ji5 rfl rfl Try.underlying37 (.int .i64 0) 8 info3 rfl (by decide) (by omega) 0 (ok := fun _ => True) (okp := fun _ => True) rfl (fun _ hk => hk) trivial (of_decide_eq_true (by first | (with_reducible assumption) | assumption)) (Nat.le_trans (Nat.mul_le_mul_right _ (of_decide_eq_true (by first | (with_reducible assumption) | assumption) : ji5.toNat ≤ 35184372088832)) (by omega)) (Below.refl _ _) (Nat.le_refl _) ?_; intro v667 w9 ho10 hb hg_ hnew_; clear hg_ hnew_; (first | rw [← Ny666.out] at ho10 | (simp only [Int.reduceToNat] at ho10; rw [← Ny666.out] at ho10)); have n0_ := Aside0.mk (Kd.R_lower ho10 (below_size (by repeat (first | (with_reducible first | exact HB.out | apply below_alloc | apply pw_below_drewN | apply below_drew1) | exact HB.out)))); have n1_ := Aside0.mk (below_step (by repeat (first | (with_reducible first | exact HB.out | apply below_alloc | apply pw_below_drewN | apply below_drew1) | exact HB.out)) hb); clear HB; have HO668 := n0_; have HB := n1_; clear n0_ n1_; clear hb ho10))
        go_loopg [8] k (fun kq v8 w' => ∃ (x7_1 : List Int) (x8_1 : Int), v8 = .int .i64 x8_1 ∧ Aside0 (elenchusref16_Of.l0 kq l0 l1 x7_1 x8_1 = some (r1, r2)) ∧ Aside0 (kq ≤ k) ∧ Aside0 (Kd.R (Kd.int .i64) 3 w' w.heap.size (fun _ => True) v667 x7_1) ∧ Aside0 (Below w.heap.size w w'))
        case atStart => exact ⟨(y666), (0), (by first | rfl | (simp; done) | (simp [*]; done)), H', ⟨Nat.le_refl _⟩, ⟨by (with_reducible repeat (first | apply Kd.R_alloc | apply Kd.R_drewN | apply Kd.R_drew)); exact HO668.out⟩, ⟨by repeat (first | (with_reducible first | exact HB.out | apply below_alloc | apply pw_below_drewN | apply below_drew1) | exact HB.out)⟩⟩
        case round =>
          clear H'
          try clear c1
          try clear p2
          try clear c4
          try clear c4b0
          try clear c4b1
          try clear c6
          try clear c6b0
          try clear c6b1
          try clear p6
          try clear c7
          try clear c7b0
          try clear c7b1
          obtain ⟨x7_1, x8_1, rfl, HA, HK1, HO_7, HB⟩ := hrel
          cases gk with
          | zero => exact absurd HA.out (by simp [elenchusref16_Of.l0])
          | succ k1 =>
            have H := HA.out
            clear HA
            simp only [elenchusref16_Of.l0] at H
            by_cases c11 : x8_1 < (l1.length : Int)
            · rw [if_pos c11] at H
              have c11b0 : decide (x8_1 < (l1.length : Int)) = true := decide_eq_true c11
              clear c11
              by_cases c12 : 0 ≤ x8_1
              · rw [if_pos c12] at H
                have c12b0 : decide (0 ≤ x8_1) = true := decide_eq_true c12
                clear c12
                have HC13 := Aside0.mk H
                clear H
                have p669 : 0 ≤ (x8_1 : Int) := of_decide_eq_true (by first | (with_reducible assumption) | assumption)
                have q669 : x8_1 < (l1.length : Int) := of_decide_eq_true (by first | (with_reducible assumption) | assumption)
                obtain ⟨ad669, A669_2, c669_2, A669_4, c669_4, e669, hx669_0, hx669_1, hx669_2, hx669_3, hx669_4, hl669_2, hi669_2, hl669_4, hi669_4⟩ := at_T142 HR1.out x8_1 p669 q669
                cases e669
                replace hx669_0 := (HB.out.cell (World.block_lt_of_cell? w _ hx669_0)).trans hx669_0
                replace hx669_1 := (HB.out.cell (World.block_lt_of_cell? w _ hx669_1)).trans hx669_1
                replace hx669_2 := (HB.out.cell (World.block_lt_of_cell? w _ hx669_2)).trans hx669_2
                replace hx669_3 := (HB.out.cell (World.block_lt_of_cell? w _ hx669_3)).trans hx669_3
                replace hx669_4 := (HB.out.cell (World.block_lt_of_cell? w _ hx669_4)).trans hx669_4
                have HR669_2 := Aside0.mk hi669_2
                have HC669_2 := Aside0.mk hl669_2
                clear hi669_2 hl669_2
                have HR669_4 := Aside0.mk hi669_4
                have HC669_4 := Aside0.mk hl669_4
                clear hi669_4 hl669_4
                replace p669 := eq_true p669
                replace q669 := eq_true q669
                go_upto_if 32 with (fail)
                go_cut [9] (fun v9 wc => ∃ (kq : Nat) (x9_12 : Int), v9 = .int .i64 x9_12 ∧ Aside0 (elenchusref16_Of.j1 kq l0 l1 x7_1 x8_1 x9_12 = some (r1, r2)) ∧ Aside0 (kq ≤ k1) ∧ Aside0 (Kd.R (Kd.int .i64) 3 wc w.heap.size (fun _ => True) v667 x7_1) ∧ Aside0 (Below w.heap.size w wc))
                case first =>
                  have H := HC13.out
                  clear HC13
                  obtain ⟨bq14, hbq14⟩ : ∃ b_ : Bool, b_ = ((rd_T142 l1 x8_1).f0) := ⟨_, rfl⟩
                  replace H : (if bq14 = true then (elenchusref16_Of.j1 k1 l0 l1 x7_1 x8_1 1) else (elenchusref16_Of.j1 k1 l0 l1 x7_1 x8_1 0)) = some (r1, r2) := by rw [← hbq14] at H; exact H
                  have Nbq14 := Aside0.mk hbq14
                  clear hbq14
                  (try rw [← Nbq14.out])
                  by_cases c15 : bq14 = true
                  · subst c15
                    have H1 : (elenchusref16_Of.j1 k1 l0 l1 x7_1 x8_1 1) = some (r1, r2) := by rw [if_pos rfl] at H; exact H
                    clear H
                    have H := H1
                    clear H1
                    have H' := Aside0.mk H
                    clear H
                    go_wp2
                    go_meet
                    case rel => exact ⟨_, (1), (by first | rfl | (simp; done) | (simp [*]; done)), H', ⟨by have := HK1.out; first | omega | exact Nat.le_refl _⟩, ⟨by (with_reducible repeat (first | apply Kd.R_alloc | apply Kd.R_drewN | apply Kd.R_drew)); exact HO_7.out⟩, ⟨by repeat (first | (with_reducible first | exact HB.out | apply below_alloc | apply pw_below_drewN | apply below_drew1) | exact HB.out)⟩⟩
                  · replace c15 := Bool.eq_false_iff.mpr c15
                    subst c15
                    have H1 : (elenchusref16_Of.j1 k1 l0 l1 x7_1 x8_1 0) = some (r1, r2) := by rw [if_neg (show ¬ (false = true) by decide)] at H; exact H
                    clear H
                    have H := H1
                    clear H1
                    have H' := Aside0.mk H
                    clear H
                    go_wp2
                    go_meet
                    case rel => exact ⟨_, (0), (by first | rfl | (simp; done) | (simp [*]; done)), H', ⟨by have := HK1.out; first | omega | exact Nat.le_refl _⟩, ⟨by (with_reducible repeat (first | apply Kd.R_alloc | apply Kd.R_drewN | apply Kd.R_drew)); exact HO_7.out⟩, ⟨by repeat (first | (with_reducible first | exact HB.out | apply below_alloc | apply pw_below_drewN | apply below_drew1) | exact HB.out)⟩⟩
                case rest =>
                  clear HC13
                  try clear c1
                  try clear q1
                  try clear p2
                  try clear c4
                  try clear c4b0
                  try clear c4b1
                  try clear c6
                  try clear c6b0
                  try clear c6b1
                  try clear p6
                  try clear q6
                  try clear hx6
                  try clear c7
                  try clear c7b0
                  try clear c7b1
                  try clear c11
                  try clear c11b0
                  try clear c12
                  try clear c12b0
                  try clear q14
                  try clear c15
                  try clear hx669_0
                  try clear hx669_1
                  try clear hx669_2
                  try clear hx669_3
                  try clear hx669_4
                  try clear p2
                  try clear p6
                  try clear p669
                  try clear q669
                  obtain ⟨kq, x9_12, rfl, HA, HJ12, HO_7, HB⟩ := hcut
                  cases kq with
                  | zero => exact absurd HA.out (by simp [elenchusref16_Of.j1])
                  | succ kj12 =>
                    have H := HA.out
                    clear HA
                    simp only [elenchusref16_Of.j1] at H
                    by_cases c16 : 0 ≤ x9_12
                    · rw [if_pos c16] at H
                      have c16b0 : decide (0 ≤ x9_12) = true := decide_eq_true c16
                      clear c16
                      by_cases c17 : x9_12 < (x7_1.length : Int)
                      · rw [if_pos c17] at H
                        have c17b0 : decide (x9_12 < (x7_1.length : Int)) = true := decide_eq_true c17
                        clear c17
                        obtain ⟨y671, hy671⟩ : ∃ y_ : List Int, y_ = (x7_1.set (x9_12 : Int).toNat (wrap64 ((rd x7_1 x9_12) + 1))) := ⟨_, rfl⟩
                        replace H : (elenchusref16_Of.l1 kj12 l0 l1 y671 x8_1 x9_12 0) = some (r1, r2) := by first | (rw [hy671]; with_reducible exact H) | (have H2_ := (Option.bind_some _ _).symm.trans H; rw [hy671]; with_reducible exact H2_) | (have H2_ := (Option.bind_some _ _).symm.trans H; with_reducible exact H2_) | with_reducible exact H | (rw [hy671]; exact H) | exact H
                        have Ny671 := Aside0.mk hy671
                        clear hy671
                        have H' := Aside0.mk H
                        clear H
                        obtain ⟨Ao19, co19, eo19⟩ := Kd.R_slice HO_7.out
                        subst eo19
                        have p670 : 0 ≤ (x9_12 : Int) := of_decide_eq_true (by first | (with_reducible assumption) | assumption)
                        have q670 : x9_12 < (x7_1.length : Int) := of_decide_eq_true (by first | (with_reducible assumption) | assumption)
                        obtain ⟨ad670, e670, hx670_0⟩ := Kd.at_int (Kd.R_reads' HO_7.out).2.2 x9_12 p670 q670
                        cases e670
                        replace p670 := eq_true p670
                        replace q670 := eq_true q670
                        have p18 : 0 ≤ (x9_12 : Int) := of_decide_eq_true (by first | (with_reducible assumption) | assumption)
                        have q18 : (x9_12 : Int) < ((x7_1.length : Int) : Int) := of_decide_eq_true (by first | (with_reducible assumption) | assumption)
                        obtain ⟨go18, co18, eo18, gb18, gl18, cl18, HG18⟩ := Kd.R_form HO_7.out (by omega)
                        (first | cases eo18 | (injection eo18 with ea_ en_ ec_; (first | subst ea_ | (injection ea_ with ea_; subst ea_)); subst ec_; clear en_))
                        have GB18 := Aside0.mk gb18
                        have GG18 := Aside0.mk HG18
                        clear gb18 gl18 HG18
                        (first | simp only [add_plain] at hx670_0 | skip)
                        obtain ⟨hx18_0, hf18_0⟩ := Kd.R_celln 0 HO_7.out (x9_12 : Int) p18 q18
                        replace p18 := eq_true p18
                        replace q18 := eq_true q18
                        have HP20 := Kd.R_putg HO_7.out (x9_12 : Int) (wrap64 ((rd x7_1 x9_12) + 1))
                        go_wp2_with (first | ((with_reducible refine gate_store (t := 3) (p := 40) rfl ?_); refine store_event (t := 3) (p := 40) (v := ?vo_w21) (w1 := (wc.setCell ⟨go18, (x9_12 : Int).toNat, none⟩ (.int .i64 (wrap64 ((rd x7_1 x9_12) + 1))))) ?hg ?ho ?hn ?hr ?_; (case ho => rfl); (case hg => rfl); (case hn => rfl); (case hr => first | (go_simp; done) | (go_simp; rfl)); intro w21 hw; have hg : wc.grownBy w21 (some go18) := (by rw [hw]; exact HP20.2); have hp_ : Kd.R (Kd.int .i64) 3 w21 w.heap.size (fun _ => True) (.slice (some ⟨go18, 0, none⟩) x7_1.length co19) y671 := (by rw [hw, Ny671.out]; exact HP20.1); clear HP20; have n0_ := Aside0.mk (hp_); have n1_ := Aside0.mk ((by rw [hw]; exact below_set (HB.out) GB18.out : Below w.heap.size w w21)); clear HO_7; clear HB; have HO_7 := n0_; have HB := n1_; clear n0_ n1_; clear hg hw hp_))
                        go_loopg [10] kj12 (fun kq v10 w' => ∃ (x7_3 : List Int) (x10_3 : Int), v10 = .int .i64 x10_3 ∧ Aside0 (elenchusref16_Of.l1 kq l0 l1 x7_3 x8_1 x9_12 x10_3 = some (r1, r2)) ∧ Aside0 (kq ≤ kj12) ∧ Aside0 (Kd.R (Kd.int .i64) 3 w' w.heap.size (fun _ => True) (.slice (some ⟨go18, 0, none⟩) x7_1.length co19) x7_3) ∧ Aside0 (Below w.heap.size w w'))
                        case atStart => exact ⟨(y671), (0), (by first | rfl | (simp; done) | (simp [*]; done)), H', ⟨Nat.le_refl _⟩, ⟨by (with_reducible repeat (first | apply Kd.R_alloc | apply Kd.R_drewN | apply Kd.R_drew)); exact HO_7.out⟩, ⟨by repeat (first | (with_reducible first | exact HB.out | apply below_alloc | apply pw_below_drewN | apply below_drew1) | exact HB.out)⟩⟩
                        case round =>
                          clear H'
                          try clear c1
                          try clear p1
                          try clear q1
                          try clear hx1
                          try clear p2
                          try clear c4
                          try clear c4b0
                          try clear c4b1
                          try clear c6
                          try clear c6b0
                          try clear c6b1
                          try clear p6
                          try clear q6
                          try clear hx6
                          try clear c7
                          try clear c7b0
                          try clear c7b1
                          try clear c11
                          try clear c11b0
                          try clear c12
                          try clear c12b0
                          try clear q14
                          try clear c15
                          try clear c16
                          try clear c16b0
                          try clear c17
                          try clear c17b0
                          try clear p18
                          try clear q18
                          try clear hx18
                          try clear hf18
                          try clear hx18_0
                          try clear hx669_0
                          try clear hx669_1
                          try clear hx669_2
                          try clear hx669_3
                          try clear hx669_4
                          try clear hx670_0
                          try clear p18
                          try clear p2
                          try clear p6
                          try clear p669
                          try clear p670
                          try clear q1
                          try clear q14
                          try clear q18
                          try clear q6
                          try clear q669
                          try clear q670
                          obtain ⟨x7_3, x10_3, rfl, HA, HK3, HO_7, HB⟩ := hrel
                          have hl7_3 := (Kd.R_reads' HO_7.out).1
                          rw [hl7_3] at HO_7
                          (try simp only [hl7_3])
                          cases gk with
                          | zero => exact absurd HA.out (by simp [elenchusref16_Of.l1])
                          | succ k3 =>
                            have H := HA.out
                            clear HA
                            simp only [elenchusref16_Of.l1] at H
                            by_cases c22 : x10_3 < (l0.length : Int)
                            · rw [if_pos c22] at H
                              have c22b0 : decide (x10_3 < (l0.length : Int)) = true := decide_eq_true c22
                              clear c22
                              obtain ⟨ji23, hji23⟩ : ∃ j_ : Int, (wrap64 ((wrap64 (2 + (wrap64 (2 * x10_3)))) + x9_12)) = j_ := ⟨_, rfl⟩
                              replace H : (if 0 ≤ (ji23) then (if (ji23) < (x7_3.length : Int) then (if 0 ≤ x8_1 then (if x8_1 < (l1.length : Int) then ((elenchusref16_stands.f k3 ((rd_T142 l1 x8_1).f1.f0) ((rd_T142 l1 x8_1).f1.f1) x10_3).bind fun t674 => ((elenchusref16_stands.f k3 ((rd_T142 l1 x8_1).f2.f0) ((rd_T142 l1 x8_1).f2.f1) x10_3).bind fun t676 => (elenchusref16_Of.l1 k3 l0 l1 (x7_3.set ((ji23) : Int).toNat (wrap64 ((wrap64 ((rd x7_3 (ji23)) + t674)) + t676))) x8_1 x9_12 (wrap64 (x10_3 + 1))))) else (none)) else (none)) else (none)) else (none)) = some (r1, r2) := by first | (rw [hji23] at H; exact H) | (simp only [hji23] at H ⊢; exact H)
                              have hji23w : (IntKind.i64.wrap ((wrap64 (2 + (wrap64 (2 * x10_3)))) + x9_12)) = ji23 := (i64_w _).trans hji23
                              by_cases c24 : 0 ≤ (ji23)
                              · rw [if_pos c24] at H
                                have c24b0 : decide (0 ≤ (ji23)) = true := decide_eq_true c24
                                clear c24
                                by_cases c25 : (ji23) < (x7_3.length : Int)
                                · rw [if_pos c25] at H
                                  have c25b0 : decide ((ji23) < (x7_3.length : Int)) = true := decide_eq_true c25
                                  clear c25
                                  by_cases c26 : 0 ≤ x8_1
                                  · rw [if_pos c26] at H
                                    have c26b0 : decide (0 ≤ x8_1) = true := decide_eq_true c26
                                    clear c26
                                    by_cases c27 : x8_1 < (l1.length : Int)
                                    · rw [if_pos c27] at H
                                      have c27b0 : decide (x8_1 < (l1.length : Int)) = true := decide_eq_true c27
                                      clear c27
                                      replace H := Option.bind_eq_some_iff.mp H
                                      obtain ⟨t674, A280, H⟩ := H
                                      replace H : ((elenchusref16_stands.f k3 ((rd_T142 l1 x8_1).f2.f0) ((rd_T142 l1 x8_1).f2.f1) x10_3).bind fun t676 => (elenchusref16_Of.l1 k3 l0 l1 (x7_3.set ((ji23) : Int).toNat (wrap64 ((wrap64 ((rd x7_3 (ji23)) + t674)) + t676))) x8_1 x9_12 (wrap64 (x10_3 + 1)))) = some (r1, r2) := H
                                      have A28 := Aside0.mk A280
                                      clear A280
                                      replace H := Option.bind_eq_some_iff.mp H
                                      obtain ⟨t676, A290, H⟩ := H
                                      replace H : (elenchusref16_Of.l1 k3 l0 l1 (x7_3.set ((ji23) : Int).toNat (wrap64 ((wrap64 ((rd x7_3 (ji23)) + t674)) + t676))) x8_1 x9_12 (wrap64 (x10_3 + 1))) = some (r1, r2) := H
                                      have A29 := Aside0.mk A290
                                      clear A290
                                      obtain ⟨y677, hy677⟩ : ∃ y_ : List Int, y_ = (x7_3.set ((ji23) : Int).toNat (wrap64 ((wrap64 ((rd x7_3 (ji23)) + t674)) + t676))) := ⟨_, rfl⟩
                                      replace H : (elenchusref16_Of.l1 k3 l0 l1 y677 x8_1 x9_12 (wrap64 (x10_3 + 1))) = some (r1, r2) := by first | (rw [hy677]; with_reducible exact H) | (have H2_ := (Option.bind_some _ _).symm.trans H; rw [hy677]; with_reducible exact H2_) | (have H2_ := (Option.bind_some _ _).symm.trans H; with_reducible exact H2_) | with_reducible exact H | (rw [hy677]; exact H) | exact H
                                      have Ny677 := Aside0.mk hy677
                                      clear hy677
                                      have H' := Aside0.mk H
                                      clear H
                                      try go_wp2
                                      have n0_ := Aside0.mk (Kd.R_drew HO_7.out)
                                      have n1_ := Aside0.mk (below_drew1 HB.out)
                                      clear HO_7
                                      clear HB
                                      have HO_7 := n0_
                                      have HB := n1_
                                      clear n0_ n1_
                                      have p672 : 0 ≤ ((ji23) : Int) := of_decide_eq_true (by first | (with_reducible assumption) | assumption)
                                      have q672 : (ji23) < (x7_3.length : Int) := of_decide_eq_true (by first | (with_reducible assumption) | assumption)
                                      obtain ⟨ad672, e672, hx672_0⟩ := Kd.at_int (Kd.R_reads' HO_7.out).2.2 (ji23) p672 q672
                                      obtain rfl : (⟨go18, 0, none⟩ : Addr) = ad672 := (by injection e672)
                                      (first | simp only [add_plain] at hx672_0 | simp only [add_at] at hx672_0 | simp only [Addr.add, Nat.zero_add] at hx672_0 | skip)
                                      replace p672 := eq_true p672
                                      replace q672 := eq_true q672
                                      have p673 : 0 ≤ (x8_1 : Int) := of_decide_eq_true (by first | (with_reducible assumption) | assumption)
                                      have q673 : x8_1 < (l1.length : Int) := of_decide_eq_true (by first | (with_reducible assumption) | assumption)
                                      obtain ⟨ad673, A673_2, c673_2, A673_4, c673_4, e673, hx673_0, hx673_1, hx673_2, hx673_3, hx673_4, hl673_2, hi673_2, hl673_4, hi673_4⟩ := at_T142 HR1.out x8_1 p673 q673
                                      have hw673_4 := hx673_4
                                      have hw673_3 := hx673_3
                                      have hw673_2 := hx673_2
                                      have hw673_1 := hx673_1
                                      have hw673_0 := hx673_0
                                      obtain rfl : ad669 = ad673 := (by injection e673)
                                      replace hx673_0 := (HB.out.cell (World.block_lt_of_cell? w _ hx673_0)).trans hx673_0
                                      replace hx673_1 := (HB.out.cell (World.block_lt_of_cell? w _ hx673_1)).trans hx673_1
                                      replace hx673_2 := (HB.out.cell (World.block_lt_of_cell? w _ hx673_2)).trans hx673_2
                                      replace hx673_3 := (HB.out.cell (World.block_lt_of_cell? w _ hx673_3)).trans hx673_3
                                      replace hx673_4 := (HB.out.cell (World.block_lt_of_cell? w _ hx673_4)).trans hx673_4
                                      have HR673_2 := Aside0.mk hi673_2
                                      have HC673_2 := Aside0.mk hl673_2
                                      clear hi673_2 hl673_2
                                      have HR673_4 := Aside0.mk hi673_4
                                      have HC673_4 := Aside0.mk hl673_4
                                      clear hi673_4 hl673_4
                                      replace p673 := eq_true p673
                                      replace q673 := eq_true q673
                                      have p675 : 0 ≤ (x8_1 : Int) := of_decide_eq_true (by first | (with_reducible assumption) | assumption)
                                      have q675 : x8_1 < (l1.length : Int) := of_decide_eq_true (by first | (with_reducible assumption) | assumption)
                                      obtain ⟨ad675, A675_2, c675_2, A675_4, c675_4, e675, hx675_0, hx675_1, hx675_2, hx675_3, hx675_4, hl675_2, hi675_2, hl675_4, hi675_4⟩ := at_T142 HR1.out x8_1 p675 q675
                                      have hw675_4 := hx675_4
                                      have hw675_3 := hx675_3
                                      have hw675_2 := hx675_2
                                      have hw675_1 := hx675_1
                                      have hw675_0 := hx675_0
                                      obtain rfl : ad669 = ad675 := (by injection e675)
                                      replace hx675_0 := (HB.out.cell (World.block_lt_of_cell? w _ hx675_0)).trans hx675_0
                                      replace hx675_1 := (HB.out.cell (World.block_lt_of_cell? w _ hx675_1)).trans hx675_1
                                      replace hx675_2 := (HB.out.cell (World.block_lt_of_cell? w _ hx675_2)).trans hx675_2
                                      replace hx675_3 := (HB.out.cell (World.block_lt_of_cell? w _ hx675_3)).trans hx675_3
                                      replace hx675_4 := (HB.out.cell (World.block_lt_of_cell? w _ hx675_4)).trans hx675_4
                                      have HR675_2 := Aside0.mk hi675_2
                                      have HC675_2 := Aside0.mk hl675_2
                                      clear hi675_2 hl675_2
                                      have HR675_4 := Aside0.mk hi675_4
                                      have HC675_4 := Aside0.mk hl675_4
                                      clear hi675_4 hl675_4
                                      replace p675 := eq_true p675
                                      replace q675 := eq_true q675
                                      have ea_ := Option.some.inj (hx673_2.symm.trans hx675_2)
                                      injection ea_ with ea_ en_ ec_
                                      subst ea_
                                      subst ec_
                                      clear en_
                                      have ea_ := Option.some.inj (hx673_4.symm.trans hx675_4)
                                      injection ea_ with ea_ en_ ec_
                                      subst ea_
                                      subst ec_
                                      clear en_
                                      refine start_ (n := 32) (S := fun w' => w'.cell? ⟨go18, ((ji23)).toNat, none⟩ = some (.int .i64 (rd x7_3 (ji23))) ∧ w'.cell? (ad669.add ((x8_1).toNat * 5)) = some (.bool ((rd_T142 l1 x8_1).f0)) ∧ w'.cell? ⟨(ad669.add ((x8_1).toNat * 5)).block, (ad669.add ((x8_1).toNat * 5)).off + 1, none⟩ = some (.int .i64 ((rd_T142 l1 x8_1).f1.f0)) ∧ w'.cell? ⟨(ad669.add ((x8_1).toNat * 5)).block, (ad669.add ((x8_1).toNat * 5)).off + 2, none⟩ = some (.slice A673_2 ((rd_T142 l1 x8_1).f1.f1).length c673_2) ∧ w'.cell? ⟨(ad669.add ((x8_1).toNat * 5)).block, (ad669.add ((x8_1).toNat * 5)).off + 3, none⟩ = some (.int .i64 ((rd_T142 l1 x8_1).f2.f0)) ∧ w'.cell? ⟨(ad669.add ((x8_1).toNat * 5)).block, (ad669.add ((x8_1).toNat * 5)).off + 4, none⟩ = some (.slice A673_4 ((rd_T142 l1 x8_1).f2.f1).length c673_4) ∧ w'.cell? (ad669.add ((x8_1).toNat * 5)) = some (.bool ((rd_T142 l1 x8_1).f0)) ∧ w'.cell? ⟨(ad669.add ((x8_1).toNat * 5)).block, (ad669.add ((x8_1).toNat * 5)).off + 1, none⟩ = some (.int .i64 ((rd_T142 l1 x8_1).f1.f0)) ∧ w'.cell? ⟨(ad669.add ((x8_1).toNat * 5)).block, (ad669.add ((x8_1).toNat * 5)).off + 2, none⟩ = some (.slice A673_2 ((rd_T142 l1 x8_1).f1.f1).length c673_2) ∧ w'.cell? ⟨(ad669.add ((x8_1).toNat * 5)).block, (ad669.add ((x8_1).toNat * 5)).off + 3, none⟩ = some (.int .i64 ((rd_T142 l1 x8_1).f2.f0)) ∧ w'.cell? ⟨(ad669.add ((x8_1).toNat * 5)).block, (ad669.add ((x8_1).toNat * 5)).off + 4, none⟩ = some (.slice A673_4 ((rd_T142 l1 x8_1).f2.f1).length c673_4)) (ds := [31]) #[false, false, false, false, false, false, false, false, false, false, false, false, false, false, false, false, false, false, false, false, false, false, false, false, false, false, false, false, false, false, false, false] (by kernel_rfl) rfl rfl ⟨hx672_0, ((HB.out.cell (World.block_lt_of_cell? w _ hw673_0)).trans hw673_0), ((HB.out.cell (World.block_lt_of_cell? w _ hw673_1)).trans hw673_1), ((HB.out.cell (World.block_lt_of_cell? w _ hw673_2)).trans hw673_2), ((HB.out.cell (World.block_lt_of_cell? w _ hw673_3)).trans hw673_3), ((HB.out.cell (World.block_lt_of_cell? w _ hw673_4)).trans hw673_4), ((HB.out.cell (World.block_lt_of_cell? w _ hw675_0)).trans hw675_0), ((HB.out.cell (World.block_lt_of_cell? w _ hw675_1)).trans hw675_1), ((HB.out.cell (World.block_lt_of_cell? w _ hw675_2)).trans hw675_2), ((HB.out.cell (World.block_lt_of_cell? w _ hw675_3)).trans hw675_3), ((HB.out.cell (World.block_lt_of_cell? w _ hw675_4)).trans hw675_4)⟩ (fun hHeld => ?_); refine with_tabW elenchusref16_Of.tab15 elenchusref16_Of.bits15 (fun HT_ HW_ => ?_)
                                      generalize wr.drew = w31 at HO_7 HB HR673_2 HR673_4 HR675_2 HR675_4 hx672_0 hx673_0 hx673_1 hx673_2 hx673_3 hx673_4 hx675_0 hx675_1 hx675_2 hx675_3 hx675_4 hHeld ⊢
                                      refine pure_ (i := 0) (N := some 47) (v := ?_) (a' := ?_) #[true, false, false, false, false, false, false, false, false, false, false, false, false, false, false, false, false, false, false, false, false, false, false, false, false, false, false, false, false, false, false, false] rfl rfl (any_of HT_.out (by kernel_rfl)) (fun _ _ _ h => h) (Or.inl ⟨by rfl, ?_⟩) ?_ ?_
                                      rotate_left
                                      · intro w'
                                        go_simp
                                        with_reducible rfl
                                      rotate_left
                                      · simp only [Act.put, List.setIfInBounds_toArray, List.set_cons_zero, List.set_cons_succ, i64_w, i32_w]
                                        rfl
                                      refine pure_ (i := 1) (N := some 48) (v := ?_) (a' := ?_) #[true, true, false, false, false, false, false, false, false, false, false, false, false, false, false, false, false, false, false, false, false, false, false, false, false, false, false, false, false, false, false, false] rfl rfl (any_of HT_.out (by kernel_rfl)) (fun _ _ _ h => h) (Or.inl ⟨by rfl, ?_⟩) ?_ ?_
                                      rotate_left
                                      · intro w'
                                        go_simp
                                        with_reducible rfl
                                      rotate_left
                                      · simp only [Act.put, List.setIfInBounds_toArray, List.set_cons_zero, List.set_cons_succ, i64_w, i32_w]
                                        rfl
                                      refine pure_ (i := 2) (N := some 49) (v := ?_) (a' := ?_) #[true, true, true, false, false, false, false, false, false, false, false, false, false, false, false, false, false, false, false, false, false, false, false, false, false, false, false, false, false, false, false, false] rfl rfl (any_of HT_.out (by kernel_rfl)) (fun _ _ _ h => h) (Or.inl ⟨by rfl, ?_⟩) ?_ ?_
                                      rotate_left
                                      · intro w'
                                        go_simp
                                        with_reducible rfl
                                      rotate_left
                                      · simp only [Act.put, List.setIfInBounds_toArray, List.set_cons_zero, List.set_cons_succ, i64_w, i32_w]
                                        rfl
                                      refine pure_ (i := 3) (N := some 50) (v := ?_) (a' := ?_) #[true, true, true, true, false, false, false, false, false, false, false, false, false, false, false, false, false, false, false, false, false, false, false, false, false, false, false, false, false, false, false, false] rfl rfl (any_of HT_.out (by kernel_rfl)) (fun _ _ _ h => h) (Or.inl ⟨by rfl, ?_⟩) ?_ ?_
                                      rotate_left
                                      · intro w'
                                        go_simp
                                        with_reducible rfl
                                      rotate_left
                                      · simp only [Act.put, List.setIfInBounds_toArray, List.set_cons_zero, List.set_cons_succ, i64_w, i32_w]
                                        rfl
                                      refine pure_ (i := 4) (N := some 51) (v := ?_) (a' := ?_) #[true, true, true, true, true, false, false, false, false, false, false, false, false, false, false, false, false, false, false, false, false, false, false, false, false, false, false, false, false, false, false, false] rfl rfl (any_of HT_.out (by kernel_rfl)) (fun _ _ _ h => h) (Or.inl ⟨by rfl, ?_⟩) ?_ ?_
                                      rotate_left
                                      · intro w'
                                        go_simp
                                        with_reducible rfl
                                      rotate_left
                                      · simp only [Act.put, List.setIfInBounds_toArray, List.set_cons_zero, List.set_cons_succ, i64_w, i32_w]
                                        rfl
                                      refine pure_ (i := 5) (N := some 52) (v := ?_) (a' := ?_) #[true, true, true, true, true, true, false, false, false, false, false, false, false, false, false, false, false, false, false, false, false, false, false, false, false, false, false, false, false, false, false, false] rfl rfl (any_of HT_.out (by kernel_rfl)) (fun _ _ _ h => h) (Or.inl ⟨by rfl, ?_⟩) ?_ ?_
                                      rotate_left
                                      · intro w'
                                        go_simp
                                        with_reducible rfl
                                      rotate_left
                                      · simp only [Act.put, List.setIfInBounds_toArray, List.set_cons_zero, List.set_cons_succ, i64_w, i32_w]
                                        rfl
                                      refine pure_ (i := 6) (N := some 53) (v := ?_) (a' := ?_) #[true, true, true, true, true, true, true, false, false, false, false, false, false, false, false, false, false, false, false, false, false, false, false, false, false, false, false, false, false, false, false, false] rfl rfl (any_of HT_.out (by kernel_rfl)) (fun _ _ _ h => h) (Or.inl ⟨by rfl, ?_⟩) ?_ ?_
                                      rotate_left
                                      · intro w'
                                        go_simp
                                        with_reducible rfl
                                      rotate_left
                                      · simp only [Act.put, List.setIfInBounds_toArray, List.set_cons_zero, List.set_cons_succ, i64_w, i32_w]
                                        rfl
                                      refine pure_ (i := 7) (N := some 54) (v := ?_) (a' := ?_) #[true, true, true, true, true, true, true, true, false, false, false, false, false, false, false, false, false, false, false, false, false, false, false, false, false, false, false, false, false, false, false, false] rfl rfl (any_of HT_.out (by kernel_rfl)) (fun _ _ _ h => h) (Or.inl ⟨by rfl, ?_⟩) ?_ ?_
                                      rotate_left
                                      · intro w'
                                        go_simp
                                        with_reducible rfl
                                      rotate_left
                                      · simp only [Act.put, List.setIfInBounds_toArray, List.set_cons_zero, List.set_cons_succ, i64_w, i32_w]
                                        rfl
                                      refine pure_ (i := 8) (N := some 55) (v := ?_) (a' := ?_) #[true, true, true, true, true, true, true, true, true, false, false, false, false, false, false, false, false, false, false, false, false, false, false, false, false, false, false, false, false, false, false, false] rfl rfl (any_of HT_.out (by kernel_rfl)) (fun _ _ _ h => h) (Or.inl ⟨by rfl, ?_⟩) ?_ ?_
                                      rotate_left
                                      · intro w'
                                        go_simp
                                        with_reducible rfl
                                      rotate_left
                                      · simp only [Act.put, List.setIfInBounds_toArray, List.set_cons_zero, List.set_cons_succ, i64_w, i32_w]
                                        rfl
                                      refine pure_ (i := 9) (N := some 56) (v := ?_) (a' := ?_) #[true, true, true, true, true, true, true, true, true, true, false, false, false, false, false, false, false, false, false, false, false, false, false, false, false, false, false, false, false, false, false, false] rfl rfl (any_of HT_.out (by kernel_rfl)) (fun _ _ _ h => h) (Or.inl ⟨by rfl, ?_⟩) ?_ ?_
                                      rotate_left
                                      · intro w'
                                        go_simp
                                        with_reducible rfl
                                      rotate_left
                                      · simp only [Act.put, List.setIfInBounds_toArray, List.set_cons_zero, List.set_cons_succ, i64_w, i32_w]
                                        rfl
                                      refine pure_ (i := 10) (N := some 57) (v := ?_) (a' := ?_) #[true, true, true, true, true, true, true, true, true, true, true, false, false, false, false, false, false, false, false, false, false, false, false, false, false, false, false, false, false, false, false, false] rfl rfl (any_of HT_.out (by kernel_rfl)) (fun _ _ _ h => h) (Or.inl ⟨by rfl, ?_⟩) ?_ ?_
                                      rotate_left
                                      · intro w'
                                        go_simp
                                        with_reducible rfl
                                      rotate_left
                                      · simp only [Act.put, List.setIfInBounds_toArray, List.set_cons_zero, List.set_cons_succ, i64_w, i32_w]
                                        rfl
                                      refine pure_ (i := 11) (N := some 58) (v := ?_) (a' := ?_) #[true, true, true, true, true, true, true, true, true, true, true, true, false, false, false, false, false, false, false, false, false, false, false, false, false, false, false, false, false, false, false, false] rfl rfl (any_of HT_.out (by kernel_rfl)) (fun _ _ _ h => h) (Or.inl ⟨by rfl, ?_⟩) ?_ ?_
                                      rotate_left
                                      · intro w'
                                        go_simp
                                        with_reducible rfl
                                      rotate_left
                                      · simp only [Act.put, List.setIfInBounds_toArray, List.set_cons_zero, List.set_cons_succ, i64_w, i32_w]
                                        rfl
                                      refine pure_ (i := 12) (N := some 59) (v := ?_) (a' := ?_) #[true, true, true, true, true, true, true, true, true, true, true, true, true, false, false, false, false, false, false, false, false, false, false, false, false, false, false, false, false, false, false, false] rfl rfl (any_of HT_.out (by kernel_rfl)) (fun _ _ _ h => h) (Or.inl ⟨by rfl, ?_⟩) ?_ ?_
                                      rotate_left
                                      · intro w'
                                        go_simp
                                        with_reducible rfl
                                      rotate_left
                                      · simp only [Act.put, List.setIfInBounds_toArray, List.set_cons_zero, List.set_cons_succ, i64_w, i32_w]
                                        rfl
                                      refine pure_ (i := 14) (N := some 61) (v := ?_) (a' := ?_) #[true, true, true, true, true, true, true, true, true, true, true, true, true, false, true, false, false, false, false, false, false, false, false, false, false, false, false, false, false, false, false, false] rfl rfl (any_of HT_.out (by kernel_rfl)) (fun _ _ _ h => h) (Or.inl ⟨by rfl, ?_⟩) ?_ ?_
                                      rotate_left
                                      · intro w'
                                        go_simp
                                        with_reducible rfl
                                      rotate_left
                                      · simp only [Act.put, List.setIfInBounds_toArray, List.set_cons_zero, List.set_cons_succ, i64_w, i32_w]
                                        rfl
                                      refine pure_ (i := 15) (N := some 62) (v := ?_) (a' := ?_) #[true, true, true, true, true, true, true, true, true, true, true, true, true, false, true, true, false, false, false, false, false, false, false, false, false, false, false, false, false, false, false, false] rfl rfl (any_of HT_.out (by kernel_rfl)) (fun _ _ _ h => h) (Or.inl ⟨by rfl, ?_⟩) ?_ ?_
                                      rotate_left
                                      · intro w'
                                        go_simp
                                        with_reducible rfl
                                      rotate_left
                                      · simp only [Act.put, List.setIfInBounds_toArray, List.set_cons_zero, List.set_cons_succ, i64_w, i32_w]
                                        rfl
                                      refine pure_ (i := 16) (N := some 63) (v := ?_) (a' := ?_) #[true, true, true, true, true, true, true, true, true, true, true, true, true, false, true, true, true, false, false, false, false, false, false, false, false, false, false, false, false, false, false, false] rfl rfl (any_of HT_.out (by kernel_rfl)) (fun _ _ _ h => h) (Or.inl ⟨by rfl, ?_⟩) ?_ ?_
                                      rotate_left
                                      · intro w'
                                        go_simp
                                        with_reducible rfl
                                      rotate_left
                                      · simp only [Act.put, List.setIfInBounds_toArray, List.set_cons_zero, List.set_cons_succ, i64_w, i32_w]
                                        rfl
                                      refine pure_ (i := 17) (N := some 64) (v := ?_) (a' := ?_) #[true, true, true, true, true, true, true, true, true, true, true, true, true, false, true, true, true, true, false, false, false, false, false, false, false, false, false, false, false, false, false, false] rfl rfl (any_of HT_.out (by kernel_rfl)) (fun _ _ _ h => h) (Or.inl ⟨by rfl, ?_⟩) ?_ ?_
                                      rotate_left
                                      · intro w'
                                        go_simp
                                        with_reducible rfl
                                      rotate_left
                                      · simp only [Act.put, List.setIfInBounds_toArray, List.set_cons_zero, List.set_cons_succ, i64_w, i32_w]
                                        rfl
                                      refine pure_ (i := 19) (N := some 66) (v := ?_) (a' := ?_) #[true, true, true, true, true, true, true, true, true, true, true, true, true, false, true, true, true, true, false, true, false, false, false, false, false, false, false, false, false, false, false, false] rfl rfl (any_of HT_.out (by kernel_rfl)) (fun _ _ _ h => h) (Or.inl ⟨by rfl, ?_⟩) ?_ ?_
                                      rotate_left
                                      · intro w'
                                        go_simp
                                        with_reducible rfl
                                      rotate_left
                                      · simp only [Act.put, List.setIfInBounds_toArray, List.set_cons_zero, List.set_cons_succ, i64_w, i32_w]
                                        rfl
                                      refine pure_ (i := 22) (N := some 69) (v := ?_) (a' := ?_) #[true, true, true, true, true, true, true, true, true, true, true, true, true, false, true, true, true, true, false, true, false, false, true, false, false, false, false, false, false, false, false, false] rfl rfl (any_of HT_.out (by kernel_rfl)) (fun _ _ _ h => h) (Or.inl ⟨by rfl, ?_⟩) ?_ ?_
                                      rotate_left
                                      · intro w'
                                        go_simp
                                        with_reducible rfl
                                      rotate_left
                                      · simp only [Act.put, List.setIfInBounds_toArray, List.set_cons_zero, List.set_cons_succ, i64_w, i32_w]
                                        rfl
                                      refine pure_ (i := 23) (N := some 70) (v := ?_) (a' := ?_) #[true, true, true, true, true, true, true, true, true, true, true, true, true, false, true, true, true, true, false, true, false, false, true, true, false, false, false, false, false, false, false, false] rfl rfl (any_of HT_.out (by kernel_rfl)) (fun _ _ _ h => h) (Or.inl ⟨by rfl, ?_⟩) ?_ ?_
                                      rotate_left
                                      · intro w'
                                        go_simp
                                        with_reducible rfl
                                      rotate_left
                                      · simp only [Act.put, List.setIfInBounds_toArray, List.set_cons_zero, List.set_cons_succ, i64_w, i32_w]
                                        rfl
                                      refine pure_ (i := 24) (N := some 71) (v := ?_) (a' := ?_) #[true, true, true, true, true, true, true, true, true, true, true, true, true, false, true, true, true, true, false, true, false, false, true, true, true, false, false, false, false, false, false, false] rfl rfl (any_of HT_.out (by kernel_rfl)) (fun _ _ _ h => h) (Or.inl ⟨by rfl, ?_⟩) ?_ ?_
                                      rotate_left
                                      · intro w'
                                        go_simp
                                        with_reducible rfl
                                      rotate_left
                                      · simp only [Act.put, List.setIfInBounds_toArray, List.set_cons_zero, List.set_cons_succ, i64_w, i32_w]
                                        rfl
                                      refine pure_ (i := 25) (N := some 72) (v := ?_) (a' := ?_) #[true, true, true, true, true, true, true, true, true, true, true, true, true, false, true, true, true, true, false, true, false, false, true, true, true, true, false, false, false, false, false, false] rfl rfl (any_of HT_.out (by kernel_rfl)) (fun _ _ _ h => h) (Or.inl ⟨by rfl, ?_⟩) ?_ ?_
                                      rotate_left
                                      · intro w'
                                        go_simp
                                        with_reducible rfl
                                      rotate_left
                                      · simp only [Act.put, List.setIfInBounds_toArray, List.set_cons_zero, List.set_cons_succ, i64_w, i32_w]
                                        rfl
                                      refine pure_ (i := 27) (N := some 74) (v := ?_) (a' := ?_) #[true, true, true, true, true, true, true, true, true, true, true, true, true, false, true, true, true, true, false, true, false, false, true, true, true, true, false, true, false, false, false, false] rfl rfl (any_of HT_.out (by kernel_rfl)) (fun _ _ _ h => h) (Or.inl ⟨by rfl, ?_⟩) ?_ ?_
                                      rotate_left
                                      · intro w'
                                        go_simp
                                        with_reducible rfl
                                      rotate_left
                                      · simp only [Act.put, List.setIfInBounds_toArray, List.set_cons_zero, List.set_cons_succ, i64_w, i32_w]
                                        rfl
                                      refine take_ (i := 13) (N := some 60) (v := ?_) (a' := ?_) #[true, true, true, true, true, true, true, true, true, true, true, true, true, true, true, true, true, true, false, true, false, false, true, true, true, true, false, true, false, false, false, false] rfl rfl (take_ofW HT_.out HW_.out (by kernel_rfl)) (fun _ _ _ h => h) (Or.inl ⟨by rfl, ?_⟩) hHeld ?_ ?_
                                      rotate_left
                                      · rintro w' ⟨s0, s1, s2, s3, s4, s5, s6, s7, s8, s9, s10⟩
                                        go_simp
                                        with_reducible rfl
                                      rotate_left
                                      · simp only [Act.put, List.setIfInBounds_toArray, List.set_cons_zero, List.set_cons_succ, i64_w, i32_w]
                                        rfl
                                      refine take_ (i := 18) (N := some 65) (v := ?_) (a' := ?_) #[true, true, true, true, true, true, true, true, true, true, true, true, true, true, true, true, true, true, true, true, false, false, true, true, true, true, false, true, false, false, false, false] rfl rfl (take_ofW HT_.out HW_.out (by kernel_rfl)) (fun _ _ _ h => h) (Or.inl ⟨by rfl, ?_⟩) hHeld ?_ ?_
                                      rotate_left
                                      · rintro w' ⟨s0, s1, s2, s3, s4, s5, s6, s7, s8, s9, s10⟩
                                        go_simp
                                        with_reducible rfl
                                      rotate_left
                                      · simp only [Act.put, List.setIfInBounds_toArray, List.set_cons_zero, List.set_cons_succ, i64_w, i32_w]
                                        rfl
                                      refine take_ (i := 26) (N := some 73) (v := ?_) (a' := ?_) #[true, true, true, true, true, true, true, true, true, true, true, true, true, true, true, true, true, true, true, true, false, false, true, true, true, true, true, true, false, false, false, false] rfl rfl (take_ofW HT_.out HW_.out (by kernel_rfl)) (fun _ _ _ h => h) (Or.inl ⟨by rfl, ?_⟩) hHeld ?_ ?_
                                      rotate_left
                                      · rintro w' ⟨s0, s1, s2, s3, s4, s5, s6, s7, s8, s9, s10⟩
                                        go_simp
                                        with_reducible rfl
                                      rotate_left
                                      · simp only [Act.put, List.setIfInBounds_toArray, List.set_cons_zero, List.set_cons_succ, i64_w, i32_w]
                                        rfl
                                      refine one_ (i := 20) (N := some 67) #[true, true, true, true, true, true, true, true, true, true, true, true, true, true, true, true, true, true, true, true, true, false, true, true, true, true, true, true, false, false, false, false] rfl rfl (one_of HT_.out (by kernel_rfl)) (by decide) (fun K hK => ?_)
                                      refine goes_ Try.func124 (by kernel_rfl) rfl #[.agg #[.int .i64 ((rd_T142 l1 x8_1).f1.f0), .slice A673_2 ((rd_T142 l1 x8_1).f1.f1).length c673_2], .int .i64 x10_3] (by rfl) rfl rfl (by (try simp only [List.map_toArray, List.map_cons, List.map_nil]); first | done | rfl | (simp only [List.length_drop, List.length_take]; rfl)) ?_
                                      with_reducible refine (elenchusref16_stands.calls k3 ((rd_T142 l1 x8_1).f1.f0) _ _ ((rd_T142 l1 x8_1).f1.f1) x10_3 t674 _ ?side1 ?side2 A28.out).mono ?_
                                      (case side1 => repeat (first | exact (Kd.C_below HR673_2.out HB.out) | (with_reducible refine Kd.C_alloc ?_ _) | (with_reducible refine Kd.C_drewN ?_ _) | (with_reducible refine Kd.C_drew ?_)))
                                      (case side2 => exact HC673_2.out)
                                      rintro e w32 ⟨rfl, hb⟩
                                      have HS0_ := (hb.cell (World.block_lt_of_cell? _ _ (hHeld.1))).trans (hHeld.1)
                                      refine ⟨_, rfl, ?_⟩
                                      have n0_ := Aside0.mk (Kd.R_below (by (with_reducible repeat (first | apply Kd.R_alloc | apply Kd.R_drewN | apply Kd.R_drew)); exact HO_7.out) hb)
                                      have n1_ := Aside0.mk (below_step (by repeat (first | (with_reducible first | exact HB.out | apply below_alloc | apply pw_below_drewN | apply below_drew1) | exact HB.out)) hb)
                                      clear HO_7
                                      clear HB
                                      have HO_7 := n0_
                                      have HB := n1_
                                      clear n0_ n1_
                                      (try clear hb)
                                      (try clear hb2)
                                      (try clear hk)
                                      (try clear hi)
                                      refine hK.out _ _ ⟨HS0_, ((HB.out.cell (World.block_lt_of_cell? w _ hw673_0)).trans hw673_0), ((HB.out.cell (World.block_lt_of_cell? w _ hw673_1)).trans hw673_1), ((HB.out.cell (World.block_lt_of_cell? w _ hw673_2)).trans hw673_2), ((HB.out.cell (World.block_lt_of_cell? w _ hw673_3)).trans hw673_3), ((HB.out.cell (World.block_lt_of_cell? w _ hw673_4)).trans hw673_4), ((HB.out.cell (World.block_lt_of_cell? w _ hw675_0)).trans hw675_0), ((HB.out.cell (World.block_lt_of_cell? w _ hw675_1)).trans hw675_1), ((HB.out.cell (World.block_lt_of_cell? w _ hw675_2)).trans hw675_2), ((HB.out.cell (World.block_lt_of_cell? w _ hw675_3)).trans hw675_3), ((HB.out.cell (World.block_lt_of_cell? w _ hw675_4)).trans hw675_4)⟩ (fun hHeld => ?_)
                                      clear hK K
                                      refine norm_ (a' := ?_) ?_ ?_
                                      rotate_left
                                      · show Act.put _ (some 67) _ = _
                                        simp only [Act.put, List.setIfInBounds_toArray, List.set_cons_zero, List.set_cons_succ, i64_w, i32_w]
                                        rfl
                                      refine pure_ (i := 21) (N := some 68) (v := ?_) (a' := ?_) #[true, true, true, true, true, true, true, true, true, true, true, true, true, true, true, true, true, true, true, true, true, true, true, true, true, true, true, true, false, false, false, false] rfl rfl (any_of HT_.out (by kernel_rfl)) (fun _ _ _ h => h) (Or.inl ⟨by rfl, ?_⟩) ?_ ?_
                                      rotate_left
                                      · intro w'
                                        go_simp
                                        with_reducible rfl
                                      rotate_left
                                      · simp only [Act.put, List.setIfInBounds_toArray, List.set_cons_zero, List.set_cons_succ, i64_w, i32_w]
                                        rfl
                                      refine one_ (i := 28) (N := some 75) #[true, true, true, true, true, true, true, true, true, true, true, true, true, true, true, true, true, true, true, true, true, true, true, true, true, true, true, true, true, false, false, false] rfl rfl (one_of HT_.out (by kernel_rfl)) (by decide) (fun K hK => ?_)
                                      refine goes_ Try.func124 (by kernel_rfl) rfl #[.agg #[.int .i64 ((rd_T142 l1 x8_1).f2.f0), .slice A673_4 ((rd_T142 l1 x8_1).f2.f1).length c673_4], .int .i64 x10_3] (by rfl) rfl rfl (by (try simp only [List.map_toArray, List.map_cons, List.map_nil]); first | done | rfl | (simp only [List.length_drop, List.length_take]; rfl)) ?_
                                      with_reducible refine (elenchusref16_stands.calls k3 ((rd_T142 l1 x8_1).f2.f0) _ _ ((rd_T142 l1 x8_1).f2.f1) x10_3 t676 _ ?side1 ?side2 A29.out).mono ?_
                                      (case side1 => repeat (first | exact (Kd.C_below HR675_4.out HB.out) | (with_reducible refine Kd.C_alloc ?_ _) | (with_reducible refine Kd.C_drewN ?_ _) | (with_reducible refine Kd.C_drew ?_)))
                                      (case side2 => exact HC675_4.out)
                                      rintro e w33 ⟨rfl, hb⟩
                                      have HS0_ := (hb.cell (World.block_lt_of_cell? _ _ (hHeld.1))).trans (hHeld.1)
                                      refine ⟨_, rfl, ?_⟩
                                      have n0_ := Aside0.mk (Kd.R_below (by (with_reducible repeat (first | apply Kd.R_alloc | apply Kd.R_drewN | apply Kd.R_drew)); exact HO_7.out) hb)
                                      have n1_ := Aside0.mk (below_step (by repeat (first | (with_reducible first | exact HB.out | apply below_alloc | apply pw_below_drewN | apply below_drew1) | exact HB.out)) hb)
                                      clear HO_7
                                      clear HB
                                      have HO_7 := n0_
                                      have HB := n1_
                                      clear n0_ n1_
                                      (try clear hb)
                                      (try clear hb2)
                                      (try clear hk)
                                      (try clear hi)
                                      have p30 : 0 ≤ ((ji23) : Int) := of_decide_eq_true (by first | (with_reducible assumption) | assumption)
                                      have q30 : ((ji23) : Int) < ((x7_3.length : Int) : Int) := of_decide_eq_true (by first | (with_reducible assumption) | assumption)
                                      obtain ⟨hx30_0, hf30_0⟩ := Kd.R_celln 0 HO_7.out ((ji23) : Int) p30 q30
                                      replace p30 := eq_true p30
                                      replace q30 := eq_true q30
                                      have HP34 := Kd.R_putn HO_7.out ((ji23) : Int) (wrap64 ((wrap64 ((rd x7_3 (ji23)) + t674)) + t676))
                                      rw [← Ny677.out] at HP34
                                      have HQ34 := Aside0.mk HP34
                                      clear HP34
                                      refine hK.out _ _ ⟨HS0_, ((HB.out.cell (World.block_lt_of_cell? w _ hw673_0)).trans hw673_0), ((HB.out.cell (World.block_lt_of_cell? w _ hw673_1)).trans hw673_1), ((HB.out.cell (World.block_lt_of_cell? w _ hw673_2)).trans hw673_2), ((HB.out.cell (World.block_lt_of_cell? w _ hw673_3)).trans hw673_3), ((HB.out.cell (World.block_lt_of_cell? w _ hw673_4)).trans hw673_4), ((HB.out.cell (World.block_lt_of_cell? w _ hw675_0)).trans hw675_0), ((HB.out.cell (World.block_lt_of_cell? w _ hw675_1)).trans hw675_1), ((HB.out.cell (World.block_lt_of_cell? w _ hw675_2)).trans hw675_2), ((HB.out.cell (World.block_lt_of_cell? w _ hw675_3)).trans hw675_3), ((HB.out.cell (World.block_lt_of_cell? w _ hw675_4)).trans hw675_4)⟩ (fun hHeld => ?_)
                                      clear hK K
                                      refine norm_ (a' := ?_) ?_ ?_
                                      rotate_left
                                      · show Act.put _ (some 75) _ = _
                                        simp only [Act.put, List.setIfInBounds_toArray, List.set_cons_zero, List.set_cons_succ, i64_w, i32_w]
                                        rfl
                                      refine pure_ (i := 29) (N := some 76) (v := ?_) (a' := ?_) #[true, true, true, true, true, true, true, true, true, true, true, true, true, true, true, true, true, true, true, true, true, true, true, true, true, true, true, true, true, true, false, false] rfl rfl (any_of HT_.out (by kernel_rfl)) (fun _ _ _ h => h) (Or.inl ⟨by rfl, ?_⟩) ?_ ?_
                                      rotate_left
                                      · intro w'
                                        go_simp
                                        with_reducible rfl
                                      rotate_left
                                      · simp only [Act.put, List.setIfInBounds_toArray, List.set_cons_zero, List.set_cons_succ, i64_w, i32_w]
                                        rfl
                                      refine pure_ (i := 30) (N := some 77) (v := ?_) (a' := ?_) #[true, true, true, true, true, true, true, true, true, true, true, true, true, true, true, true, true, true, true, true, true, true, true, true, true, true, true, true, true, true, true, false] rfl rfl (any_of HT_.out (by kernel_rfl)) (fun _ _ _ h => h) (Or.inl ⟨by rfl, ?_⟩) ?_ ?_
                                      rotate_left
                                      · intro w'
                                        go_simp
                                        with_reducible rfl
                                      rotate_left
                                      · simp only [Act.put, List.setIfInBounds_toArray, List.set_cons_zero, List.set_cons_succ, i64_w, i32_w]
                                        rfl
                                      refine last_ (i := 31) (N := none) #[true, true, true, true, true, true, true, true, true, true, true, true, true, true, true, true, true, true, true, true, true, true, true, true, true, true, true, true, true, true, true, true] rfl rfl (one_of HT_.out (by kernel_rfl)) (by decide) (fun K hK => ?_)
                                      refine skip_ (w1 := ?_) (by rfl) rfl ?_ ?_
                                      rotate_left
                                      · go_simp
                                        rfl
                                      refine hK.out _ _ ?_
                                      clear hK K
                                      refine done_ (done_of HT_.out (by kernel_rfl)) ?_
                                      try go_wp2
                                      (try simp only [← hl7_3])
                                      go_roundg k3
                                      case measure => have := HK1.out; have := HJ12.out; have := HK3.out; omega
                                      case rel => exact ⟨(y677), (wrap64 (x10_3 + 1)), (by first | rfl | (simp; done) | (simp [*]; done)), H', ⟨by have := HK1.out; have := HJ12.out; have := HK3.out; omega⟩, ⟨by (try simp only [hl7_3]); (with_reducible repeat (first | apply Kd.R_alloc | apply Kd.R_drewN | apply Kd.R_drew)); exact HQ34.out⟩, ⟨by repeat (first | (with_reducible first | exact HB.out | apply below_alloc | apply pw_below_drewN | apply below_drew1 | refine below_set ?_ GB18.out) | exact HB.out)⟩⟩
                                    · rw [if_neg c27] at H
                                      exact absurd H (by simp)
                                  · rw [if_neg c26] at H
                                    exact absurd H (by simp)
                                · rw [if_neg c25] at H
                                  exact absurd H (by simp)
                              · rw [if_neg c24] at H
                                exact absurd H (by simp)
                            · rw [if_neg c22] at H
                              have c22b0 : decide (x10_3 < (l0.length : Int)) = false := decide_eq_false c22
                              clear c22
                              have H' := Aside0.mk H
                              clear H
                              go_wp2
                              (try simp only [← hl7_3])
                              go_roundg k3
                              case measure => have := HK1.out; have := HJ12.out; have := HK3.out; omega
                              case rel => exact ⟨(x7_3), (wrap64 (x8_1 + 1)), (by first | rfl | (simp; done) | (simp [*]; done)), H', ⟨by have := HK1.out; have := HJ12.out; have := HK3.out; omega⟩, ⟨by (try simp only [hl7_3]); (with_reducible repeat (first | apply Kd.R_alloc | apply Kd.R_drewN | apply Kd.R_drew)); exact HO_7.out⟩, ⟨by repeat (first | (with_reducible first | exact HB.out | apply below_alloc | apply pw_below_drewN | apply below_drew1) | exact HB.out)⟩⟩
                      · rw [if_neg c17] at H
                        exact absurd H (by simp)
                    · rw [if_neg c16] at H
                      exact absurd H (by simp)
              · rw [if_neg c12] at H
                exact absurd H (by simp)
            · rw [if_neg c11] at H
              have c11b0 : decide (x8_1 < (l1.length : Int)) = false := decide_eq_false c11
              clear c11
              simp only [Option.some.injEq, Prod.mk.injEq] at H
              obtain ⟨rfl, rfl⟩ := H
              go_wp2
              go_ret2
              exact ⟨_, by first | rfl | (simp [errW_none, errW_some] <;> rfl) | (simp only [← hji5]; first | rfl | (simp [errW_none, errW_some] <;> rfl)) | (simp [*, errW_none, errW_some] <;> rfl), by (with_reducible repeat (first | apply Kd.R_alloc | apply Kd.R_drewN | apply Kd.R_drew)); exact HO_7.out, by repeat (first | (with_reducible first | exact HB.out | apply below_alloc | apply pw_below_drewN | apply below_drew1) | exact HB.out)⟩
      · rw [if_neg c7] at H
        exact absurd H (by simp)
    · rw [if_neg c6] at H
      exact absurd H (by simp)
  · rw [if_neg c4] at H
    have c4b0 : (t665 == 0) = false := beq_eq_false_iff_ne.mpr c4
    have c4b1 : (t665 != 0) = true := bne_iff_ne.mpr c4
    simp only [Option.some.injEq, Prod.mk.injEq] at H
    obtain ⟨rfl, rfl⟩ := H
    go_enter Try.func62, Try.ntmps62
    go_wp2_with (first | ((with_reducible refine gate_callee (f := 123) rfl ?_); refine goesL_ (some 13) rfl rfl Try.func123 (by kernel_rfl) rfl #[.slice A0 l0.length c0, .slice A1 l1.length c1] rfl (by (try simp only [List.map_toArray, List.map_cons, List.map_nil]); first | done | rfl | (simp only [List.length_drop, List.length_take]; rfl)) ?_; (with_reducible refine (elenchusref10_Check.calls k _ _ l0 _ _ l1 t665 _ ?side1 ?side2 ?side3 ?side4 A3.out).mono ?_); (case side1 => repeat (first | exact HR0.out | (with_reducible refine Kd.C_alloc ?_ _) | (with_reducible refine Kd.C_drewN ?_ _) | (with_reducible refine Kd.C_drew ?_))); (case side2 => exact HC0.out); (case side3 => repeat (first | exact HR1.out | (with_reducible refine Kd.C_alloc ?_ _) | (with_reducible refine Kd.C_drewN ?_ _) | (with_reducible refine Kd.C_drew ?_))); (case side4 => exact HC1.out); rintro e w35 ⟨rfl, hb⟩; refine ⟨_, rfl, ?_⟩; have n0_ := Aside0.mk (below_step (by repeat (first | (with_reducible first | exact HB.out | apply below_alloc | apply pw_below_drewN | apply below_drew1) | exact HB.out)) hb); clear HB; have HB := n0_; clear n0_; (try clear hb); (try clear hb2); (try clear hk); (try clear hi)))
    go_ret2
    exact ⟨_, by first | rfl | (simp [errW_none, errW_some] <;> rfl) | (simp [*, errW_none, errW_some] <;> rfl), by first | exact Kd.R_nil _ _ _ _ _ | exact Kd.N_nil _ _ _ _ _ | exact Kd.V_nil _ _ _ _ _ | exact Kd.Q_nil _ _ _ _ _ | exact Kd.S_nil _ _ _ _ _, by repeat (first | (with_reducible first | exact HB.out | apply below_alloc | apply pw_below_drewN | apply below_drew1) | exact HB.out)⟩
end Go.Proofs.Ythplndalbfcbbaa.PA
namespace Go.Proofs.Ythplndalbfcbbaa.PA
open Go.RowKit Go.Proofs.YthplndalbfcbbaaW.PrintWords Go.Proofs.YthplndalbfcbbaaW.PrintLast Go.Proofs.YthplndalbfcbbaaW.PrintMore
attribute [local go_sem] max2_int min2_int max_two min_two max_three min_three max_four min_four   -- for this text's walks alone
set_option linter.unusedVariables false
set_option linter.unusedSimpArgs false
mutual
def elenchusref16_Under.l0 : Nat → List Int → List Int → Int → Option (Bool)
  | 0, _, _, _ => none
  | k + 1, x0, x1, x5 => if x5 < (x0.length : Int) then (elenchusref16_Under.j1 k x0 x1 x5 ((x0.length : Int) == (x1.length : Int))) else (elenchusref16_Under.j1 k x0 x1 x5 false)
def elenchusref16_Under.j1 : Nat → List Int → List Int → Int → Bool → Option (Bool)
  | 0, _, _, _, _ => none
  | k + 1, x0, x1, x5, x16 => if x16 = true then (if 0 ≤ x5 then (if x5 < (x0.length : Int) then (if x5 < (x1.length : Int) then (if (rd x0 x5) > (rd x1 x5) then (some false) else (elenchusref16_Under.l0 k x0 x1 (wrap64 (x5 + 1)))) else (none)) else (none)) else (none)) else (some ((x0.length : Int) == (x1.length : Int)))
end
def elenchusref16_Under.f (k : Nat) (l0 : List Int) (l1 : List Int) : Option (Bool) := elenchusref16_Under.l0 k l0 l1 0
set_option maxHeartbeats 8000000 in
set_option maxRecDepth 100000 in
theorem elenchusref16_Under.calls (k : Nat) (A0 : Option Addr) (c0 : Nat) (l0 : List Int) (A1 : Option Addr) (c1 : Nat) (l1 : List Int) (r : Bool) (w : World) (hr0 : Kd.C (Kd.int .i64) w A0 l0.length l0) (hc0 : l0.length ≤ c0) (hr1 : Kd.C (Kd.int .i64) w A1 l1.length l1) (hc1 : l1.length ≤ c1) (h : elenchusref16_Under.f k l0 l1 = some r) :
    Calls Try.prog 66 #[.slice A0 l0.length c0, .slice A1 l1.length c1] w fun e w' => e = .returned (.bool r) ∧ Drawn0 w w' := by
  have HR0 := Aside0.mk hr0
  have HC0 := Aside0.mk hc0
  clear hr0 hc0
  have HR1 := Aside0.mk hr1
  have HC1 := Aside0.mk hc1
  clear hr1 hc1
  have H : (elenchusref16_Under.l0 k l0 l1 0) = some r := h
  clear h
  have H' := Aside0.mk H
  clear H
  go_enter Try.func66, Try.ntmps66
  go_wp2
  repeat (go_quiet (fail); try go_wp2)
  go_loopg [5] k (fun kq v5 w' => ∃ (x5_1 : Int), v5 = .int .i64 x5_1 ∧ Aside0 (elenchusref16_Under.l0 kq l0 l1 x5_1 = some r) ∧ Aside0 (kq ≤ k) ∧ Drawn0 w w')
  case atStart => exact ⟨(0), (by first | rfl | (simp; done) | (simp [*]; done)), H', ⟨Nat.le_refl _⟩, by repeat (first | exact Drawn0.refl _ | apply Drawn0.step)⟩
  case round =>
    clear H'
    try clear c1
    try clear p2
    obtain ⟨x5_1, rfl, HA, HK1, ⟨m1, rfl⟩⟩ := hrel
    cases gk with
    | zero => exact absurd HA.out (by simp [elenchusref16_Under.l0])
    | succ k1 =>
      have H := HA.out
      clear HA
      simp only [elenchusref16_Under.l0] at H
      have HC3 := Aside0.mk H
      clear H
      go_upto_region 2 with (fail)
      repeat (go_quiet (fail); go_upto_region 2 with (fail))
      go_cut [16] (fun v16 wc => ∃ (kq : Nat) (x16_2 : Bool), v16 = .bool x16_2 ∧ Aside0 (elenchusref16_Under.j1 kq l0 l1 x5_1 x16_2 = some r) ∧ Aside0 (kq ≤ k1) ∧ Drawn0 w wc)
      case first =>
        have H := HC3.out
        clear HC3
        by_cases c4 : x5_1 < (l0.length : Int)
        · rw [if_pos c4] at H
          have c4b0 : decide (x5_1 < (l0.length : Int)) = true := decide_eq_true c4
          clear c4
          (first | rw [c4b0] | (simp only [i64_w, i32_w]; rw [c4b0]) | skip)
          have H' := Aside0.mk H
          clear H
          go_wp2
          repeat (go_quiet (fail); try go_wp2)
          go_meet
          case rel => exact ⟨_, (((l0.length : Int) == (l1.length : Int))), (by first | rfl | (simp; done) | (simp [*]; done)), H', ⟨by have := HK1.out; first | omega | exact Nat.le_refl _⟩, by repeat (first | exact Drawn0.refl _ | apply Drawn0.step)⟩
        · rw [if_neg c4] at H
          have c4b0 : decide (x5_1 < (l0.length : Int)) = false := decide_eq_false c4
          clear c4
          (first | rw [c4b0] | (simp only [i64_w, i32_w]; rw [c4b0]) | skip)
          have H' := Aside0.mk H
          clear H
          go_wp2
          repeat (go_quiet (fail); try go_wp2)
          go_meet
          case rel => exact ⟨_, (false), (by first | rfl | (simp; done) | (simp [*]; done)), H', ⟨by have := HK1.out; first | omega | exact Nat.le_refl _⟩, by repeat (first | exact Drawn0.refl _ | apply Drawn0.step)⟩
      case rest =>
        clear HC3
        try clear c1
        try clear p2
        try clear c4
        try clear c4b0
        try clear p2
        obtain ⟨kq, x16_2, rfl, HA, HJ2, ⟨mc2, rfl⟩⟩ := hcut
        cases kq with
        | zero => exact absurd HA.out (by simp [elenchusref16_Under.j1])
        | succ kj2 =>
          have H := HA.out
          clear HA
          simp only [elenchusref16_Under.j1] at H
          by_cases c5 : x16_2 = true
          · subst c5
            have H1 : (if 0 ≤ x5_1 then (if x5_1 < (l0.length : Int) then (if x5_1 < (l1.length : Int) then (if (rd l0 x5_1) > (rd l1 x5_1) then (some false) else (elenchusref16_Under.l0 kj2 l0 l1 (wrap64 (x5_1 + 1)))) else (none)) else (none)) else (none)) = some r := by rw [if_pos rfl] at H; exact H
            clear H
            have H := H1
            clear H1
            by_cases c6 : 0 ≤ x5_1
            · rw [if_pos c6] at H
              have c6b0 : decide (0 ≤ x5_1) = true := decide_eq_true c6
              clear c6
              by_cases c7 : x5_1 < (l0.length : Int)
              · rw [if_pos c7] at H
                have c7b0 : decide (x5_1 < (l0.length : Int)) = true := decide_eq_true c7
                clear c7
                by_cases c8 : x5_1 < (l1.length : Int)
                · rw [if_pos c8] at H
                  have c8b0 : decide (x5_1 < (l1.length : Int)) = true := decide_eq_true c8
                  clear c8
                  by_cases c9 : (rd l0 x5_1) > (rd l1 x5_1)
                  · rw [if_pos c9] at H
                    have c9b0 : decide ((rd l1 x5_1) < (rd l0 x5_1)) = true := decide_eq_true c9
                    clear c9
                    obtain rfl := Option.some.inj H
                    have p678 : 0 ≤ (x5_1 : Int) := of_decide_eq_true (by first | (with_reducible assumption) | assumption)
                    have q678 : x5_1 < (l0.length : Int) := of_decide_eq_true (by first | (with_reducible assumption) | assumption)
                    obtain ⟨ad678, e678, hx678_0⟩ := Kd.at_int HR0.out x5_1 p678 q678
                    cases e678
                    replace p678 := eq_true p678
                    replace q678 := eq_true q678
                    have p679 : 0 ≤ (x5_1 : Int) := of_decide_eq_true (by first | (with_reducible assumption) | assumption)
                    have q679 : x5_1 < (l1.length : Int) := of_decide_eq_true (by first | (with_reducible assumption) | assumption)
                    obtain ⟨ad679, e679, hx679_0⟩ := Kd.at_int HR1.out x5_1 p679 q679
                    cases e679
                    replace p679 := eq_true p679
                    replace q679 := eq_true q679
                    go_wp2
                    repeat (go_quiet (fail); try go_wp2)
                    go_ret
                    exact ⟨by first | rfl | (simp; done) | (simp [*]; done), by repeat (first | exact Drawn0.refl _ | apply Drawn0.step)⟩
                  · rw [if_neg c9] at H
                    have c9b0 : decide ((rd l1 x5_1) < (rd l0 x5_1)) = false := decide_eq_false c9
                    clear c9
                    have H' := Aside0.mk H
                    clear H
                    have p678 : 0 ≤ (x5_1 : Int) := of_decide_eq_true (by first | (with_reducible assumption) | assumption)
                    have q678 : x5_1 < (l0.length : Int) := of_decide_eq_true (by first | (with_reducible assumption) | assumption)
                    obtain ⟨ad678, e678, hx678_0⟩ := Kd.at_int HR0.out x5_1 p678 q678
                    cases e678
                    replace p678 := eq_true p678
                    replace q678 := eq_true q678
                    have p679 : 0 ≤ (x5_1 : Int) := of_decide_eq_true (by first | (with_reducible assumption) | assumption)
                    have q679 : x5_1 < (l1.length : Int) := of_decide_eq_true (by first | (with_reducible assumption) | assumption)
                    obtain ⟨ad679, e679, hx679_0⟩ := Kd.at_int HR1.out x5_1 p679 q679
                    cases e679
                    replace p679 := eq_true p679
                    replace q679 := eq_true q679
                    go_wp2
                    repeat (go_quiet (fail); try go_wp2)
                    go_roundg kj2
                    case measure => have := HK1.out; have := HJ2.out; omega
                    case rel => exact ⟨(wrap64 (x5_1 + 1)), (by first | rfl | (simp; done) | (simp [*]; done)), H', ⟨by have := HK1.out; have := HJ2.out; omega⟩, by repeat (first | exact Drawn0.refl _ | apply Drawn0.step)⟩
                · rw [if_neg c8] at H
                  exact absurd H (by simp)
              · rw [if_neg c7] at H
                exact absurd H (by simp)
            · rw [if_neg c6] at H
              exact absurd H (by simp)
          · replace c5 := Bool.eq_false_iff.mpr c5
            subst c5
            have H1 : (some ((l0.length : Int) == (l1.length : Int))) = some r := by rw [if_neg (show ¬ (false = true) by decide)] at H; exact H
            clear H
            have H := H1
            clear H1
            obtain rfl := Option.some.inj H
            go_wp2
            repeat (go_quiet (fail); try go_wp2)
            go_ret
            exact ⟨by first | rfl | (simp; done) | (simp [*]; done), by repeat (first | exact Drawn0.refl _ | apply Drawn0.step)⟩
end Go.Proofs.Ythplndalbfcbbaa.PA
namespace Go.Proofs.Ythplndalbfcbbaa.PA
open Go.RowKit Go.Proofs.YthplndalbfcbbaaW.PrintWords Go.Proofs.YthplndalbfcbbaaW.PrintLast Go.Proofs.YthplndalbfcbbaaW.PrintMore
attribute [local go_sem] max2_int min2_int max_two min_two max_three min_three max_four min_four   -- for this text's walks alone
set_option linter.unusedVariables false
set_option linter.unusedSimpArgs false
def elenchuslaw16_FeatureCounts.j0 : Nat → List (S148) → List (S142) → List Int → List Int → Bool → Option (Bool)
  | 0, _, _, _, _, _ => none
  | k + 1, x0, x1, x2, x3, x24 => if x24 = true then (some true) else ((feature_Of.f x0 x1).bind fun bt681 => ((elenchusref16_Of.f k x0 x1).bind fun bt685 => ((elenchuslaw16_awake.f).bind fun t689 => (if t689 = true then ((elenchusref01_Ints.f bt681.1 bt685.1).bind fun t690 => (if t690 = true then (if bt681.2 = bt685.2 then ((feature_Under.f x2 x3).bind fun t691 => ((elenchusref16_Under.f k x2 x3).bind fun t692 => (some (t691 == t692)))) else (some false)) else (some false))) else (some false)))))
def elenchuslaw16_FeatureCounts.f (k : Nat) (l0 : List (S148)) (l1 : List (S142)) (l2 : List Int) (l3 : List Int) : Option (Bool) := (elenchusref16_Few.f k l0 l1).bind fun t680 => (if t680 = true then (elenchuslaw16_FeatureCounts.j0 k l0 l1 l2 l3 (decide ((wrap64 ((l2.length : Int) + (l3.length : Int))) > 500))) else (elenchuslaw16_FeatureCounts.j0 k l0 l1 l2 l3 true))
set_option maxHeartbeats 8000000 in
set_option maxRecDepth 100000 in
theorem elenchuslaw16_FeatureCounts.calls (k : Nat) (A0 : Option Addr) (c0 : Nat) (l0 : List (S148)) (A1 : Option Addr) (c1 : Nat) (l1 : List (S142)) (A2 : Option Addr) (c2 : Nat) (l2 : List Int) (A3 : Option Addr) (c3 : Nat) (l3 : List Int) (r : Bool) (w : World) (hr0 : Kd.C k148 w A0 l0.length l0) (hc0 : l0.length ≤ c0) (hr1 : Kd.C k142 w A1 l1.length l1) (hc1 : l1.length ≤ c1) (hr2 : Kd.C (Kd.int .i64) w A2 l2.length l2) (hc2 : l2.length ≤ c2) (hr3 : Kd.C (Kd.int .i64) w A3 l3.length l3) (hc3 : l3.length ≤ c3) (h : elenchuslaw16_FeatureCounts.f k l0 l1 l2 l3 = some r) :
    Calls Try.prog 15 #[.slice A0 l0.length c0, .slice A1 l1.length c1, .slice A2 l2.length c2, .slice A3 l3.length c3] w fun e w' => e = .returned (.bool r) ∧ Below w.heap.size w w' := by
  have HR0 := Aside0.mk hr0
  have HC0 := Aside0.mk hc0
  clear hr0 hc0
  have HR1 := Aside0.mk hr1
  have HC1 := Aside0.mk hc1
  clear hr1 hc1
  have HR2 := Aside0.mk hr2
  have HC2 := Aside0.mk hc2
  clear hr2 hc2
  have HR3 := Aside0.mk hr3
  have HC3 := Aside0.mk hc3
  clear hr3 hc3
  have HB := Aside0.mk (Below.refl w.heap.size w)
  have H : ((elenchusref16_Few.f k l0 l1).bind fun t680 => (if t680 = true then (elenchuslaw16_FeatureCounts.j0 k l0 l1 l2 l3 (decide ((wrap64 ((l2.length : Int) + (l3.length : Int))) > 500))) else (elenchuslaw16_FeatureCounts.j0 k l0 l1 l2 l3 true))) = some r := h
  clear h
  have HC5 := Aside0.mk H
  clear H
  go_enter Try.func15, Try.ntmps15
  go_upto_region 1 with (fail)
  go_cut [24] (fun v24 wc => ∃ (kq : Nat) (x24_4 : Bool), v24 = .bool x24_4 ∧ Aside0 (elenchuslaw16_FeatureCounts.j0 kq l0 l1 l2 l3 x24_4 = some r) ∧ Aside0 (kq ≤ k) ∧ Aside0 (Below w.heap.size w wc))
  case first =>
    have H := HC5.out
    clear HC5
    replace H := Option.bind_eq_some_iff.mp H
    obtain ⟨t680, A60, H⟩ := H
    replace H : (if t680 = true then (elenchuslaw16_FeatureCounts.j0 k l0 l1 l2 l3 (decide ((wrap64 ((l2.length : Int) + (l3.length : Int))) > 500))) else (elenchuslaw16_FeatureCounts.j0 k l0 l1 l2 l3 true)) = some r := H
    have A6 := Aside0.mk A60
    clear A60
    by_cases c7 : t680 = true
    · subst c7
      have H1 : (elenchuslaw16_FeatureCounts.j0 k l0 l1 l2 l3 (decide ((wrap64 ((l2.length : Int) + (l3.length : Int))) > 500))) = some r := by rw [if_pos rfl] at H; exact H
      clear H
      have H := H1
      clear H1
      have H' := Aside0.mk H
      clear H
      go_wp2_with (first | ((with_reducible refine gate_callee (f := 60) rfl ?_); refine goesL_ (some 15) rfl rfl Try.func60 (by kernel_rfl) rfl #[.slice A0 l0.length c0, .slice A1 l1.length c1] rfl (by (try simp only [List.map_toArray, List.map_cons, List.map_nil]); first | done | rfl | (simp only [List.length_drop, List.length_take]; rfl)) ?_; (with_reducible refine (elenchusref16_Few.calls k _ _ l0 _ _ l1 true _ ?side1 ?side2 ?side3 ?side4 A6.out).mono ?_); (case side1 => repeat (first | exact (Kd.C_below HR0.out HB.out) | (with_reducible refine Kd.C_alloc ?_ _) | (with_reducible refine Kd.C_drewN ?_ _) | (with_reducible refine Kd.C_drew ?_))); (case side2 => exact HC0.out); (case side3 => repeat (first | exact (Kd.C_below HR1.out HB.out) | (with_reducible refine Kd.C_alloc ?_ _) | (with_reducible refine Kd.C_drewN ?_ _) | (with_reducible refine Kd.C_drew ?_))); (case side4 => exact HC1.out); rintro e w8 ⟨rfl, hb⟩; refine ⟨_, rfl, ?_⟩; have n0_ := Aside0.mk (below_step (by repeat (first | (with_reducible first | exact HB.out | apply below_alloc | apply pw_below_drewN | apply below_drew1) | exact HB.out)) hb); clear HB; have HB := n0_; clear n0_; (try clear hb); (try clear hb2); (try clear hk); (try clear hi)))
      go_meet
      case rel => exact ⟨_, (decide ((wrap64 ((l2.length : Int) + (l3.length : Int))) > 500)), (by first | rfl | (simp; done) | (simp [*]; done)), H', ⟨by first | omega | exact Nat.le_refl _⟩, ⟨by repeat (first | (with_reducible first | exact HB.out | apply below_alloc | apply pw_below_drewN | apply below_drew1) | exact HB.out)⟩⟩
    · replace c7 := Bool.eq_false_iff.mpr c7
      subst c7
      have H1 : (elenchuslaw16_FeatureCounts.j0 k l0 l1 l2 l3 true) = some r := by rw [if_neg (show ¬ (false = true) by decide)] at H; exact H
      clear H
      have H := H1
      clear H1
      have H' := Aside0.mk H
      clear H
      go_wp2_with (first | ((with_reducible refine gate_callee (f := 60) rfl ?_); refine goesL_ (some 15) rfl rfl Try.func60 (by kernel_rfl) rfl #[.slice A0 l0.length c0, .slice A1 l1.length c1] rfl (by (try simp only [List.map_toArray, List.map_cons, List.map_nil]); first | done | rfl | (simp only [List.length_drop, List.length_take]; rfl)) ?_; (with_reducible refine (elenchusref16_Few.calls k _ _ l0 _ _ l1 false _ ?side1 ?side2 ?side3 ?side4 A6.out).mono ?_); (case side1 => repeat (first | exact (Kd.C_below HR0.out HB.out) | (with_reducible refine Kd.C_alloc ?_ _) | (with_reducible refine Kd.C_drewN ?_ _) | (with_reducible refine Kd.C_drew ?_))); (case side2 => exact HC0.out); (case side3 => repeat (first | exact (Kd.C_below HR1.out HB.out) | (with_reducible refine Kd.C_alloc ?_ _) | (with_reducible refine Kd.C_drewN ?_ _) | (with_reducible refine Kd.C_drew ?_))); (case side4 => exact HC1.out); rintro e w9 ⟨rfl, hb⟩; refine ⟨_, rfl, ?_⟩; have n0_ := Aside0.mk (below_step (by repeat (first | (with_reducible first | exact HB.out | apply below_alloc | apply pw_below_drewN | apply below_drew1) | exact HB.out)) hb); clear HB; have HB := n0_; clear n0_; (try clear hb); (try clear hb2); (try clear hk); (try clear hi)))
      go_meet
      case rel => exact ⟨_, (true), (by first | rfl | (simp; done) | (simp [*]; done)), H', ⟨by first | omega | exact Nat.le_refl _⟩, ⟨by repeat (first | (with_reducible first | exact HB.out | apply below_alloc | apply pw_below_drewN | apply below_drew1) | exact HB.out)⟩⟩
  case rest =>
    clear HC5
    try clear c1
    try clear c2
    try clear p2
    try clear c3
    try clear c6
    try clear p6
    try clear c7
    obtain ⟨kq, x24_4, rfl, HA, HJ4, HB⟩ := hcut
    cases kq with
    | zero => exact absurd HA.out (by simp [elenchuslaw16_FeatureCounts.j0])
    | succ kj4 =>
      have H := HA.out
      clear HA
      simp only [elenchuslaw16_FeatureCounts.j0] at H
      by_cases c10 : x24_4 = true
      · subst c10
        have H1 : (some true) = some r := by rw [if_pos rfl] at H; exact H
        clear H
        have H := H1
        clear H1
        obtain rfl := Option.some.inj H
        go_wp2
        go_ret
        exact ⟨by first | rfl | (simp [errW_none, errW_some] <;> rfl) | (simp [*, errW_none, errW_some] <;> rfl), by repeat (first | (with_reducible first | exact HB.out | apply below_alloc | apply pw_below_drewN | apply below_drew1) | exact HB.out)⟩
      · replace c10 := Bool.eq_false_iff.mpr c10
        subst c10
        have H1 : ((feature_Of.f l0 l1).bind fun bt681 => ((elenchusref16_Of.f kj4 l0 l1).bind fun bt685 => ((elenchuslaw16_awake.f).bind fun t689 => (if t689 = true then ((elenchusref01_Ints.f bt681.1 bt685.1).bind fun t690 => (if t690 = true then (if bt681.2 = bt685.2 then ((feature_Under.f l2 l3).bind fun t691 => ((elenchusref16_Under.f kj4 l2 l3).bind fun t692 => (some (t691 == t692)))) else (some false)) else (some false))) else (some false))))) = some r := by rw [if_neg (show ¬ (false = true) by decide)] at H; exact H
        clear H
        have H := H1
        clear H1
        replace H := Option.bind_eq_some_iff.mp H
        obtain ⟨⟨t681, t684⟩, A110, H⟩ := H
        replace H : ((elenchusref16_Of.f kj4 l0 l1).bind fun bt685 => ((elenchuslaw16_awake.f).bind fun t689 => (if t689 = true then ((elenchusref01_Ints.f t681 bt685.1).bind fun t690 => (if t690 = true then (if t684 = bt685.2 then ((feature_Under.f l2 l3).bind fun t691 => ((elenchusref16_Under.f kj4 l2 l3).bind fun t692 => (some (t691 == t692)))) else (some false)) else (some false))) else (some false)))) = some r := H
        have A11 := Aside0.mk A110
        clear A110
        replace H := Option.bind_eq_some_iff.mp H
        obtain ⟨⟨t685, t686⟩, A120, H⟩ := H
        replace H : ((elenchuslaw16_awake.f).bind fun t689 => (if t689 = true then ((elenchusref01_Ints.f t681 t685).bind fun t690 => (if t690 = true then (if t684 = t686 then ((feature_Under.f l2 l3).bind fun t691 => ((elenchusref16_Under.f kj4 l2 l3).bind fun t692 => (some (t691 == t692)))) else (some false)) else (some false))) else (some false))) = some r := H
        have A12 := Aside0.mk A120
        clear A120
        replace H := Option.bind_eq_some_iff.mp H
        obtain ⟨t689, A130, H⟩ := H
        replace H : (if t689 = true then ((elenchusref01_Ints.f t681 t685).bind fun t690 => (if t690 = true then (if t684 = t686 then ((feature_Under.f l2 l3).bind fun t691 => ((elenchusref16_Under.f kj4 l2 l3).bind fun t692 => (some (t691 == t692)))) else (some false)) else (some false))) else (some false)) = some r := H
        have A13 := Aside0.mk A130
        clear A130
        by_cases c14 : t689 = true
        · subst c14
          have H1 : ((elenchusref01_Ints.f t681 t685).bind fun t690 => (if t690 = true then (if t684 = t686 then ((feature_Under.f l2 l3).bind fun t691 => ((elenchusref16_Under.f kj4 l2 l3).bind fun t692 => (some (t691 == t692)))) else (some false)) else (some false))) = some r := by rw [if_pos rfl] at H; exact H
          clear H
          have H := H1
          clear H1
          replace H := Option.bind_eq_some_iff.mp H
          obtain ⟨t690, A150, H⟩ := H
          replace H : (if t690 = true then (if t684 = t686 then ((feature_Under.f l2 l3).bind fun t691 => ((elenchusref16_Under.f kj4 l2 l3).bind fun t692 => (some (t691 == t692)))) else (some false)) else (some false)) = some r := H
          have A15 := Aside0.mk A150
          clear A150
          by_cases c16 : t690 = true
          · subst c16
            have H1 : (if t684 = t686 then ((feature_Under.f l2 l3).bind fun t691 => ((elenchusref16_Under.f kj4 l2 l3).bind fun t692 => (some (t691 == t692)))) else (some false)) = some r := by rw [if_pos rfl] at H; exact H
            clear H
            have H := H1
            clear H1
            by_cases c17 : t684 = t686
            · rw [if_pos c17] at H
              have c17b0 : (t684 == t686) = true := beq_iff_eq.mpr c17
              have c17b1 : (t684 != t686) = false := bne_eq_false_iff_eq.mpr c17
              clear c17
              replace H := Option.bind_eq_some_iff.mp H
              obtain ⟨t691, A180, H⟩ := H
              replace H : ((elenchusref16_Under.f kj4 l2 l3).bind fun t692 => (some (t691 == t692))) = some r := H
              have A18 := Aside0.mk A180
              clear A180
              replace H := Option.bind_eq_some_iff.mp H
              obtain ⟨t692, A190, H⟩ := H
              replace H : (some (t691 == t692)) = some r := H
              have A19 := Aside0.mk A190
              clear A190
              obtain rfl := Option.some.inj H
              go_wp2_with (first | ((with_reducible refine gate_callee (f := 61) rfl ?_); refine goesL_ (some 28) rfl rfl Try.func61 (by kernel_rfl) rfl #[.slice A0 l0.length c0, .slice A1 l1.length c1] rfl (by (try simp only [List.map_toArray, List.map_cons, List.map_nil]); first | done | rfl | (simp only [List.length_drop, List.length_take]; rfl)) ?_; (with_reducible refine (feature_Of.calls _ _ l0 _ _ l1 t681 t684 _ ?side1 ?side2 ?side3 ?side4 A11.out).mono ?_); (case side1 => repeat (first | exact (Kd.C_below HR0.out HB.out) | (with_reducible refine Kd.C_alloc ?_ _) | (with_reducible refine Kd.C_drewN ?_ _) | (with_reducible refine Kd.C_drew ?_))); (case side2 => exact HC0.out); (case side3 => repeat (first | exact (Kd.C_below HR1.out HB.out) | (with_reducible refine Kd.C_alloc ?_ _) | (with_reducible refine Kd.C_drewN ?_ _) | (with_reducible refine Kd.C_drew ?_))); (case side4 => exact HC1.out); rintro e w20 ⟨v682, rfl, ho0, hb⟩; refine ⟨_, rfl, ?_⟩; have n0_ := Aside0.mk (Kd.V_lower (Kd.V_mono (ok' := fun k_ => True) ho0 (fun k_ hk_ => trivial)) (below_size (by repeat (first | (with_reducible first | exact HB.out | apply below_alloc | apply pw_below_drewN | apply below_drew1) | exact HB.out)))); have n1_ := Aside0.mk (below_step (by repeat (first | (with_reducible first | exact HB.out | apply below_alloc | apply pw_below_drewN | apply below_drew1) | exact HB.out)) hb); clear HB; have HO683 := n0_; have HB := n1_; clear n0_ n1_; (try clear hb); (try clear hb2); (try clear hk); (try clear hi); (try clear ho0)) | ((with_reducible refine gate_callee (f := 62) rfl ?_); refine goesL_ (some 34) rfl rfl Try.func62 (by kernel_rfl) rfl #[.slice A0 l0.length c0, .slice A1 l1.length c1] rfl (by (try simp only [List.map_toArray, List.map_cons, List.map_nil]); first | done | rfl | (simp only [List.length_drop, List.length_take]; rfl)) ?_; (with_reducible refine (elenchusref16_Of.calls kj4 _ _ l0 _ _ l1 t685 t686 _ ?side1 ?side2 ?side3 ?side4 A12.out).mono ?_); (case side1 => repeat (first | exact (Kd.C_below HR0.out HB.out) | (with_reducible refine Kd.C_alloc ?_ _) | (with_reducible refine Kd.C_drewN ?_ _) | (with_reducible refine Kd.C_drew ?_))); (case side2 => exact HC0.out); (case side3 => repeat (first | exact (Kd.C_below HR1.out HB.out) | (with_reducible refine Kd.C_alloc ?_ _) | (with_reducible refine Kd.C_drewN ?_ _) | (with_reducible refine Kd.C_drew ?_))); (case side4 => exact HC1.out); rintro e w21 ⟨v687, rfl, ho0, hb⟩; refine ⟨_, rfl, ?_⟩; have n0_ := Aside0.mk (Kd.V_elder' (by (with_reducible repeat (first | apply Kd.V_alloc | apply Kd.V_drewN | apply Kd.V_drew)); exact HO683.out) (Kd.R_base ho0) hb); have n1_ := Aside0.mk (Kd.R_lower ho0 (below_size (by repeat (first | (with_reducible first | exact HB.out | apply below_alloc | apply pw_below_drewN | apply below_drew1) | exact HB.out)))); have n2_ := Aside0.mk (below_step (by repeat (first | (with_reducible first | exact HB.out | apply below_alloc | apply pw_below_drewN | apply below_drew1) | exact HB.out)) hb); clear HO683; clear HB; have HO683 := n0_; have HO688 := n1_; have HB := n2_; clear n0_ n1_ n2_; (try clear hb); (try clear hb2); (try clear hk); (try clear hi); (try clear ho0)) | ((with_reducible refine gate_callee (f := 63) rfl ?_); refine goesL_ (some 37) rfl rfl Try.func63 (by kernel_rfl) rfl #[] rfl (by (try simp only [List.map_toArray, List.map_cons, List.map_nil]); first | done | rfl | (simp only [List.length_drop, List.length_take]; rfl)) ?_; (with_reducible refine (elenchuslaw16_awake.calls  true _ A13.out).mono ?_); rintro e w22 ⟨rfl, hb⟩; refine ⟨_, rfl, ?_⟩; have n0_ := Aside0.mk (Kd.V_below (by (with_reducible repeat (first | apply Kd.V_alloc | apply Kd.V_drewN | apply Kd.V_drew)); exact HO683.out) hb); have n1_ := Aside0.mk (Kd.R_below (by (with_reducible repeat (first | apply Kd.R_alloc | apply Kd.R_drewN | apply Kd.R_drew)); exact HO688.out) hb); have n2_ := Aside0.mk (below_step (by repeat (first | (with_reducible first | exact HB.out | apply below_alloc | apply pw_below_drewN | apply below_drew1) | exact HB.out)) hb); clear HO683; clear HO688; clear HB; have HO683 := n0_; have HO688 := n1_; have HB := n2_; clear n0_ n1_ n2_; (try clear hb); (try clear hb2); (try clear hk); (try clear hi); obtain ⟨Ao23, co23, eo23⟩ := Kd.V_slice HO683.out; subst eo23; obtain ⟨Ao24, co24, eo24⟩ := Kd.R_slice HO688.out; subst eo24) | (go_at_call 64; (with_reducible refine (elenchusref01_Ints.calls _ _ t681 _ _ t685 true _ ?side1 ?side2 ?side3 ?side4 A15.out).mono ?_); (case side1 => repeat (first | exact (Kd.V_reads' HO683.out).2.2 | (with_reducible refine Kd.C_alloc ?_ _) | (with_reducible refine Kd.C_drewN ?_ _) | (with_reducible refine Kd.C_drew ?_))); (case side2 => exact (Kd.V_reads' HO683.out).2.1); (case side3 => repeat (first | exact (Kd.R_reads' HO688.out).2.2 | (with_reducible refine Kd.C_alloc ?_ _) | (with_reducible refine Kd.C_drewN ?_ _) | (with_reducible refine Kd.C_drew ?_))); (case side4 => exact (Kd.R_reads' HO688.out).2.1); rintro e w25 ⟨rfl, hb⟩; have n0_ := Aside0.mk (Kd.V_below (by (with_reducible repeat (first | apply Kd.V_alloc | apply Kd.V_drewN | apply Kd.V_drew)); exact HO683.out) hb); have n1_ := Aside0.mk (Kd.R_below (by (with_reducible repeat (first | apply Kd.R_alloc | apply Kd.R_drewN | apply Kd.R_drew)); exact HO688.out) hb); have n2_ := Aside0.mk (below_step (by repeat (first | (with_reducible first | exact HB.out | apply below_alloc | apply pw_below_drewN | apply below_drew1) | exact HB.out)) hb); clear HO683; clear HO688; clear HB; have HO683 := n0_; have HO688 := n1_; have HB := n2_; clear n0_ n1_ n2_; (try clear hb); (try clear hb2); (try clear hk); (try clear hi)) | (go_at_call 65; (with_reducible refine (feature_Under.calls _ _ l2 _ _ l3 t691 _ ?side1 ?side2 ?side3 ?side4 A18.out).mono ?_); (case side1 => repeat (first | exact (Kd.C_below HR2.out HB.out) | (with_reducible refine Kd.C_alloc ?_ _) | (with_reducible refine Kd.C_drewN ?_ _) | (with_reducible refine Kd.C_drew ?_))); (case side2 => exact HC2.out); (case side3 => repeat (first | exact (Kd.C_below HR3.out HB.out) | (with_reducible refine Kd.C_alloc ?_ _) | (with_reducible refine Kd.C_drewN ?_ _) | (with_reducible refine Kd.C_drew ?_))); (case side4 => exact HC3.out); rintro e w26 ⟨rfl, hb⟩; have n0_ := Aside0.mk (Kd.V_below (by (with_reducible repeat (first | apply Kd.V_alloc | apply Kd.V_drewN | apply Kd.V_drew)); exact HO683.out) hb); have n1_ := Aside0.mk (Kd.R_below (by (with_reducible repeat (first | apply Kd.R_alloc | apply Kd.R_drewN | apply Kd.R_drew)); exact HO688.out) hb); have n2_ := Aside0.mk (below_step (by repeat (first | (with_reducible first | exact HB.out | apply below_alloc | apply pw_below_drewN | apply below_drew1) | exact HB.out)) hb); clear HO683; clear HO688; clear HB; have HO683 := n0_; have HO688 := n1_; have HB := n2_; clear n0_ n1_ n2_; (try clear hb); (try clear hb2); (try clear hk); (try clear hi)) | (go_at_call 66; (with_reducible refine (elenchusref16_Under.calls kj4 _ _ l2 _ _ l3 t692 _ ?side1 ?side2 ?side3 ?side4 A19.out).mono ?_); (case side1 => repeat (first | exact (Kd.C_below HR2.out HB.out) | (with_reducible refine Kd.C_alloc ?_ _) | (with_reducible refine Kd.C_drewN ?_ _) | (with_reducible refine Kd.C_drew ?_))); (case side2 => exact HC2.out); (case side3 => repeat (first | exact (Kd.C_below HR3.out HB.out) | (with_reducible refine Kd.C_alloc ?_ _) | (with_reducible refine Kd.C_drewN ?_ _) | (with_reducible refine Kd.C_drew ?_))); (case side4 => exact HC3.out); rintro e w' ⟨rfl, ⟨nd, rfl⟩⟩))
              go_ret
              exact ⟨by first | rfl | (simp [errW_none, errW_some] <;> rfl) | (simp [*, errW_none, errW_some] <;> rfl), by repeat (first | (with_reducible first | exact HB.out | apply below_alloc | apply pw_below_drewN | apply below_drew1) | exact HB.out)⟩
            · rw [if_neg c17] at H
              have c17b0 : (t684 == t686) = false := beq_eq_false_iff_ne.mpr c17
              have c17b1 : (t684 != t686) = true := bne_iff_ne.mpr c17
              obtain rfl := Option.some.inj H
              go_wp2_with (first | ((with_reducible refine gate_callee (f := 61) rfl ?_); refine goesL_ (some 28) rfl rfl Try.func61 (by kernel_rfl) rfl #[.slice A0 l0.length c0, .slice A1 l1.length c1] rfl (by (try simp only [List.map_toArray, List.map_cons, List.map_nil]); first | done | rfl | (simp only [List.length_drop, List.length_take]; rfl)) ?_; (with_reducible refine (feature_Of.calls _ _ l0 _ _ l1 t681 t684 _ ?side1 ?side2 ?side3 ?side4 A11.out).mono ?_); (case side1 => repeat (first | exact (Kd.C_below HR0.out HB.out) | (with_reducible refine Kd.C_alloc ?_ _) | (with_reducible refine Kd.C_drewN ?_ _) | (with_reducible refine Kd.C_drew ?_))); (case side2 => exact HC0.out); (case side3 => repeat (first | exact (Kd.C_below HR1.out HB.out) | (with_reducible refine Kd.C_alloc ?_ _) | (with_reducible refine Kd.C_drewN ?_ _) | (with_reducible refine Kd.C_drew ?_))); (case side4 => exact HC1.out); rintro e w27 ⟨v682, rfl, ho0, hb⟩; refine ⟨_, rfl, ?_⟩; have n0_ := Aside0.mk (Kd.V_lower (Kd.V_mono (ok' := fun k_ => True) ho0 (fun k_ hk_ => trivial)) (below_size (by repeat (first | (with_reducible first | exact HB.out | apply below_alloc | apply pw_below_drewN | apply below_drew1) | exact HB.out)))); have n1_ := Aside0.mk (below_step (by repeat (first | (with_reducible first | exact HB.out | apply below_alloc | apply pw_below_drewN | apply below_drew1) | exact HB.out)) hb); clear HB; have HO683 := n0_; have HB := n1_; clear n0_ n1_; (try clear hb); (try clear hb2); (try clear hk); (try clear hi); (try clear ho0)) | ((with_reducible refine gate_callee (f := 62) rfl ?_); refine goesL_ (some 34) rfl rfl Try.func62 (by kernel_rfl) rfl #[.slice A0 l0.length c0, .slice A1 l1.length c1] rfl (by (try simp only [List.map_toArray, List.map_cons, List.map_nil]); first | done | rfl | (simp only [List.length_drop, List.length_take]; rfl)) ?_; (with_reducible refine (elenchusref16_Of.calls kj4 _ _ l0 _ _ l1 t685 t686 _ ?side1 ?side2 ?side3 ?side4 A12.out).mono ?_); (case side1 => repeat (first | exact (Kd.C_below HR0.out HB.out) | (with_reducible refine Kd.C_alloc ?_ _) | (with_reducible refine Kd.C_drewN ?_ _) | (with_reducible refine Kd.C_drew ?_))); (case side2 => exact HC0.out); (case side3 => repeat (first | exact (Kd.C_below HR1.out HB.out) | (with_reducible refine Kd.C_alloc ?_ _) | (with_reducible refine Kd.C_drewN ?_ _) | (with_reducible refine Kd.C_drew ?_))); (case side4 => exact HC1.out); rintro e w28 ⟨v687, rfl, ho0, hb⟩; refine ⟨_, rfl, ?_⟩; have n0_ := Aside0.mk (Kd.V_elder' (by (with_reducible repeat (first | apply Kd.V_alloc | apply Kd.V_drewN | apply Kd.V_drew)); exact HO683.out) (Kd.R_base ho0) hb); have n1_ := Aside0.mk (Kd.R_lower ho0 (below_size (by repeat (first | (with_reducible first | exact HB.out | apply below_alloc | apply pw_below_drewN | apply below_drew1) | exact HB.out)))); have n2_ := Aside0.mk (below_step (by repeat (first | (with_reducible first | exact HB.out | apply below_alloc | apply pw_below_drewN | apply below_drew1) | exact HB.out)) hb); clear HO683; clear HB; have HO683 := n0_; have HO688 := n1_; have HB := n2_; clear n0_ n1_ n2_; (try clear hb); (try clear hb2); (try clear hk); (try clear hi); (try clear ho0)) | ((with_reducible refine gate_callee (f := 63) rfl ?_); refine goesL_ (some 37) rfl rfl Try.func63 (by kernel_rfl) rfl #[] rfl (by (try simp only [List.map_toArray, List.map_cons, List.map_nil]); first | done | rfl | (simp only [List.length_drop, List.length_take]; rfl)) ?_; (with_reducible refine (elenchuslaw16_awake.calls  true _ A13.out).mono ?_); rintro e w29 ⟨rfl, hb⟩; refine ⟨_, rfl, ?_⟩; have n0_ := Aside0.mk (Kd.V_below (by (with_reducible repeat (first | apply Kd.V_alloc | apply Kd.V_drewN | apply Kd.V_drew)); exact HO683.out) hb); have n1_ := Aside0.mk (Kd.R_below (by (with_reducible repeat (first | apply Kd.R_alloc | apply Kd.R_drewN | apply Kd.R_drew)); exact HO688.out) hb); have n2_ := Aside0.mk (below_step (by repeat (first | (with_reducible first | exact HB.out | apply below_alloc | apply pw_below_drewN | apply below_drew1) | exact HB.out)) hb); clear HO683; clear HO688; clear HB; have HO683 := n0_; have HO688 := n1_; have HB := n2_; clear n0_ n1_ n2_; (try clear hb); (try clear hb2); (try clear hk); (try clear hi); obtain ⟨Ao30, co30, eo30⟩ := Kd.V_slice HO683.out; subst eo30; obtain ⟨Ao31, co31, eo31⟩ := Kd.R_slice HO688.out; subst eo31) | (go_at_call 64; (with_reducible refine (elenchusref01_Ints.calls _ _ t681 _ _ t685 true _ ?side1 ?side2 ?side3 ?side4 A15.out).mono ?_); (case side1 => repeat (first | exact (Kd.V_reads' HO683.out).2.2 | (with_reducible refine Kd.C_alloc ?_ _) | (with_reducible refine Kd.C_drewN ?_ _) | (with_reducible refine Kd.C_drew ?_))); (case side2 => exact (Kd.V_reads' HO683.out).2.1); (case side3 => repeat (first | exact (Kd.R_reads' HO688.out).2.2 | (with_reducible refine Kd.C_alloc ?_ _) | (with_reducible refine Kd.C_drewN ?_ _) | (with_reducible refine Kd.C_drew ?_))); (case side4 => exact (Kd.R_reads' HO688.out).2.1); rintro e w32 ⟨rfl, hb⟩; have n0_ := Aside0.mk (Kd.V_below (by (with_reducible repeat (first | apply Kd.V_alloc | apply Kd.V_drewN | apply Kd.V_drew)); exact HO683.out) hb); have n1_ := Aside0.mk (Kd.R_below (by (with_reducible repeat (first | apply Kd.R_alloc | apply Kd.R_drewN | apply Kd.R_drew)); exact HO688.out) hb); have n2_ := Aside0.mk (below_step (by repeat (first | (with_reducible first | exact HB.out | apply below_alloc | apply pw_below_drewN | apply below_drew1) | exact HB.out)) hb); clear HO683; clear HO688; clear HB; have HO683 := n0_; have HO688 := n1_; have HB := n2_; clear n0_ n1_ n2_; (try clear hb); (try clear hb2); (try clear hk); (try clear hi)))
              go_ret
              exact ⟨by first | rfl | (simp [errW_none, errW_some] <;> rfl) | (simp [*, errW_none, errW_some] <;> rfl), by repeat (first | (with_reducible first | exact HB.out | apply below_alloc | apply pw_below_drewN | apply below_drew1) | exact HB.out)⟩
          · replace c16 := Bool.eq_false_iff.mpr c16
            subst c16
            have H1 : (some false) = some r := by rw [if_neg (show ¬ (false = true) by decide)] at H; exact H
            clear H
            have H := H1
            clear H1
            obtain rfl := Option.some.inj H
            go_wp2_with (first | ((with_reducible refine gate_callee (f := 61) rfl ?_); refine goesL_ (some 28) rfl rfl Try.func61 (by kernel_rfl) rfl #[.slice A0 l0.length c0, .slice A1 l1.length c1] rfl (by (try simp only [List.map_toArray, List.map_cons, List.map_nil]); first | done | rfl | (simp only [List.length_drop, List.length_take]; rfl)) ?_; (with_reducible refine (feature_Of.calls _ _ l0 _ _ l1 t681 t684 _ ?side1 ?side2 ?side3 ?side4 A11.out).mono ?_); (case side1 => repeat (first | exact (Kd.C_below HR0.out HB.out) | (with_reducible refine Kd.C_alloc ?_ _) | (with_reducible refine Kd.C_drewN ?_ _) | (with_reducible refine Kd.C_drew ?_))); (case side2 => exact HC0.out); (case side3 => repeat (first | exact (Kd.C_below HR1.out HB.out) | (with_reducible refine Kd.C_alloc ?_ _) | (with_reducible refine Kd.C_drewN ?_ _) | (with_reducible refine Kd.C_drew ?_))); (case side4 => exact HC1.out); rintro e w33 ⟨v682, rfl, ho0, hb⟩; refine ⟨_, rfl, ?_⟩; have n0_ := Aside0.mk (Kd.V_lower (Kd.V_mono (ok' := fun k_ => True) ho0 (fun k_ hk_ => trivial)) (below_size (by repeat (first | (with_reducible first | exact HB.out | apply below_alloc | apply pw_below_drewN | apply below_drew1) | exact HB.out)))); have n1_ := Aside0.mk (below_step (by repeat (first | (with_reducible first | exact HB.out | apply below_alloc | apply pw_below_drewN | apply below_drew1) | exact HB.out)) hb); clear HB; have HO683 := n0_; have HB := n1_; clear n0_ n1_; (try clear hb); (try clear hb2); (try clear hk); (try clear hi); (try clear ho0)) | ((with_reducible refine gate_callee (f := 62) rfl ?_); refine goesL_ (some 34) rfl rfl Try.func62 (by kernel_rfl) rfl #[.slice A0 l0.length c0, .slice A1 l1.length c1] rfl (by (try simp only [List.map_toArray, List.map_cons, List.map_nil]); first | done | rfl | (simp only [List.length_drop, List.length_take]; rfl)) ?_; (with_reducible refine (elenchusref16_Of.calls kj4 _ _ l0 _ _ l1 t685 t686 _ ?side1 ?side2 ?side3 ?side4 A12.out).mono ?_); (case side1 => repeat (first | exact (Kd.C_below HR0.out HB.out) | (with_reducible refine Kd.C_alloc ?_ _) | (with_reducible refine Kd.C_drewN ?_ _) | (with_reducible refine Kd.C_drew ?_))); (case side2 => exact HC0.out); (case side3 => repeat (first | exact (Kd.C_below HR1.out HB.out) | (with_reducible refine Kd.C_alloc ?_ _) | (with_reducible refine Kd.C_drewN ?_ _) | (with_reducible refine Kd.C_drew ?_))); (case side4 => exact HC1.out); rintro e w34 ⟨v687, rfl, ho0, hb⟩; refine ⟨_, rfl, ?_⟩; have n0_ := Aside0.mk (Kd.V_elder' (by (with_reducible repeat (first | apply Kd.V_alloc | apply Kd.V_drewN | apply Kd.V_drew)); exact HO683.out) (Kd.R_base ho0) hb); have n1_ := Aside0.mk (Kd.R_lower ho0 (below_size (by repeat (first | (with_reducible first | exact HB.out | apply below_alloc | apply pw_below_drewN | apply below_drew1) | exact HB.out)))); have n2_ := Aside0.mk (below_step (by repeat (first | (with_reducible first | exact HB.out | apply below_alloc | apply pw_below_drewN | apply below_drew1) | exact HB.out)) hb); clear HO683; clear HB; have HO683 := n0_; have HO688 := n1_; have HB := n2_; clear n0_ n1_ n2_; (try clear hb); (try clear hb2); (try clear hk); (try clear hi); (try clear ho0)) | ((with_reducible refine gate_callee (f := 63) rfl ?_); refine goesL_ (some 37) rfl rfl Try.func63 (by kernel_rfl) rfl #[] rfl (by (try simp only [List.map_toArray, List.map_cons, List.map_nil]); first | done | rfl | (simp only [List.length_drop, List.length_take]; rfl)) ?_; (with_reducible refine (elenchuslaw16_awake.calls  true _ A13.out).mono ?_); rintro e w35 ⟨rfl, hb⟩; refine ⟨_, rfl, ?_⟩; have n0_ := Aside0.mk (Kd.V_below (by (with_reducible repeat (first | apply Kd.V_alloc | apply Kd.V_drewN | apply Kd.V_drew)); exact HO683.out) hb); have n1_ := Aside0.mk (Kd.R_below (by (with_reducible repeat (first | apply Kd.R_alloc | apply Kd.R_drewN | apply Kd.R_drew)); exact HO688.out) hb); have n2_ := Aside0.mk (below_step (by repeat (first | (with_reducible first | exact HB.out | apply below_alloc | apply pw_below_drewN | apply below_drew1) | exact HB.out)) hb); clear HO683; clear HO688; clear HB; have HO683 := n0_; have HO688 := n1_; have HB := n2_; clear n0_ n1_ n2_; (try clear hb); (try clear hb2); (try clear hk); (try clear hi); obtain ⟨Ao36, co36, eo36⟩ := Kd.V_slice HO683.out; subst eo36; obtain ⟨Ao37, co37, eo37⟩ := Kd.R_slice HO688.out; subst eo37) | (go_at_call 64; (with_reducible refine (elenchusref01_Ints.calls _ _ t681 _ _ t685 false _ ?side1 ?side2 ?side3 ?side4 A15.out).mono ?_); (case side1 => repeat (first | exact (Kd.V_reads' HO683.out).2.2 | (with_reducible refine Kd.C_alloc ?_ _) | (with_reducible refine Kd.C_drewN ?_ _) | (with_reducible refine Kd.C_drew ?_))); (case side2 => exact (Kd.V_reads' HO683.out).2.1); (case side3 => repeat (first | exact (Kd.R_reads' HO688.out).2.2 | (with_reducible refine Kd.C_alloc ?_ _) | (with_reducible refine Kd.C_drewN ?_ _) | (with_reducible refine Kd.C_drew ?_))); (case side4 => exact (Kd.R_reads' HO688.out).2.1); rintro e w38 ⟨rfl, hb⟩; have n0_ := Aside0.mk (Kd.V_below (by (with_reducible repeat (first | apply Kd.V_alloc | apply Kd.V_drewN | apply Kd.V_drew)); exact HO683.out) hb); have n1_ := Aside0.mk (Kd.R_below (by (with_reducible repeat (first | apply Kd.R_alloc | apply Kd.R_drewN | apply Kd.R_drew)); exact HO688.out) hb); have n2_ := Aside0.mk (below_step (by repeat (first | (with_reducible first | exact HB.out | apply below_alloc | apply pw_below_drewN | apply below_drew1) | exact HB.out)) hb); clear HO683; clear HO688; clear HB; have HO683 := n0_; have HO688 := n1_; have HB := n2_; clear n0_ n1_ n2_; (try clear hb); (try clear hb2); (try clear hk); (try clear hi)))
            go_ret
            exact ⟨by first | rfl | (simp [errW_none, errW_some] <;> rfl) | (simp [*, errW_none, errW_some] <;> rfl), by repeat (first | (with_reducible first | exact HB.out | apply below_alloc | apply pw_below_drewN | apply below_drew1) | exact HB.out)⟩
        · replace c14 := Bool.eq_false_iff.mpr c14
          subst c14
          have H1 : (some false) = some r := by rw [if_neg (show ¬ (false = true) by decide)] at H; exact H
          clear H
          have H := H1
          clear H1
          obtain rfl := Option.some.inj H
          go_wp2_with (first | ((with_reducible refine gate_callee (f := 61) rfl ?_); refine goesL_ (some 28) rfl rfl Try.func61 (by kernel_rfl) rfl #[.slice A0 l0.length c0, .slice A1 l1.length c1] rfl (by (try simp only [List.map_toArray, List.map_cons, List.map_nil]); first | done | rfl | (simp only [List.length_drop, List.length_take]; rfl)) ?_; (with_reducible refine (feature_Of.calls _ _ l0 _ _ l1 t681 t684 _ ?side1 ?side2 ?side3 ?side4 A11.out).mono ?_); (case side1 => repeat (first | exact (Kd.C_below HR0.out HB.out) | (with_reducible refine Kd.C_alloc ?_ _) | (with_reducible refine Kd.C_drewN ?_ _) | (with_reducible refine Kd.C_drew ?_))); (case side2 => exact HC0.out); (case side3 => repeat (first | exact (Kd.C_below HR1.out HB.out) | (with_reducible refine Kd.C_alloc ?_ _) | (with_reducible refine Kd.C_drewN ?_ _) | (with_reducible refine Kd.C_drew ?_))); (case side4 => exact HC1.out); rintro e w39 ⟨v682, rfl, ho0, hb⟩; refine ⟨_, rfl, ?_⟩; have n0_ := Aside0.mk (Kd.V_lower (Kd.V_mono (ok' := fun k_ => True) ho0 (fun k_ hk_ => trivial)) (below_size (by repeat (first | (with_reducible first | exact HB.out | apply below_alloc | apply pw_below_drewN | apply below_drew1) | exact HB.out)))); have n1_ := Aside0.mk (below_step (by repeat (first | (with_reducible first | exact HB.out | apply below_alloc | apply pw_below_drewN | apply below_drew1) | exact HB.out)) hb); clear HB; have HO683 := n0_; have HB := n1_; clear n0_ n1_; (try clear hb); (try clear hb2); (try clear hk); (try clear hi); (try clear ho0)) | ((with_reducible refine gate_callee (f := 62) rfl ?_); refine goesL_ (some 34) rfl rfl Try.func62 (by kernel_rfl) rfl #[.slice A0 l0.length c0, .slice A1 l1.length c1] rfl (by (try simp only [List.map_toArray, List.map_cons, List.map_nil]); first | done | rfl | (simp only [List.length_drop, List.length_take]; rfl)) ?_; (with_reducible refine (elenchusref16_Of.calls kj4 _ _ l0 _ _ l1 t685 t686 _ ?side1 ?side2 ?side3 ?side4 A12.out).mono ?_); (case side1 => repeat (first | exact (Kd.C_below HR0.out HB.out) | (with_reducible refine Kd.C_alloc ?_ _) | (with_reducible refine Kd.C_drewN ?_ _) | (with_reducible refine Kd.C_drew ?_))); (case side2 => exact HC0.out); (case side3 => repeat (first | exact (Kd.C_below HR1.out HB.out) | (with_reducible refine Kd.C_alloc ?_ _) | (with_reducible refine Kd.C_drewN ?_ _) | (with_reducible refine Kd.C_drew ?_))); (case side4 => exact HC1.out); rintro e w40 ⟨v687, rfl, ho0, hb⟩; refine ⟨_, rfl, ?_⟩; have n0_ := Aside0.mk (Kd.V_elder' (by (with_reducible repeat (first | apply Kd.V_alloc | apply Kd.V_drewN | apply Kd.V_drew)); exact HO683.out) (Kd.R_base ho0) hb); have n1_ := Aside0.mk (Kd.R_lower ho0 (below_size (by repeat (first | (with_reducible first | exact HB.out | apply below_alloc | apply pw_below_drewN | apply below_drew1) | exact HB.out)))); have n2_ := Aside0.mk (below_step (by repeat (first | (with_reducible first | exact HB.out | apply below_alloc | apply pw_below_drewN | apply below_drew1) | exact HB.out)) hb); clear HO683; clear HB; have HO683 := n0_; have HO688 := n1_; have HB := n2_; clear n0_ n1_ n2_; (try clear hb); (try clear hb2); (try clear hk); (try clear hi); (try clear ho0)) | ((with_reducible refine gate_callee (f := 63) rfl ?_); refine goesL_ (some 37) rfl rfl Try.func63 (by kernel_rfl) rfl #[] rfl (by (try simp only [List.map_toArray, List.map_cons, List.map_nil]); first | done | rfl | (simp only [List.length_drop, List.length_take]; rfl)) ?_; (with_reducible refine (elenchuslaw16_awake.calls  false _ A13.out).mono ?_); rintro e w41 ⟨rfl, hb⟩; refine ⟨_, rfl, ?_⟩; have n0_ := Aside0.mk (Kd.V_below (by (with_reducible repeat (first | apply Kd.V_alloc | apply Kd.V_drewN | apply Kd.V_drew)); exact HO683.out) hb); have n1_ := Aside0.mk (Kd.R_below (by (with_reducible repeat (first | apply Kd.R_alloc | apply Kd.R_drewN | apply Kd.R_drew)); exact HO688.out) hb); have n2_ := Aside0.mk (below_step (by repeat (first | (with_reducible first | exact HB.out | apply below_alloc | apply pw_below_drewN | apply below_drew1) | exact HB.out)) hb); clear HO683; clear HO688; clear HB; have HO683 := n0_; have HO688 := n1_; have HB := n2_; clear n0_ n1_ n2_; (try clear hb); (try clear hb2); (try clear hk); (try clear hi)))
          go_ret
          exact ⟨by first | rfl | (simp [errW_none, errW_some] <;> rfl) | (simp [*, errW_none, errW_some] <;> rfl), by repeat (first | (with_reducible first | exact HB.out | apply below_alloc | apply pw_below_drewN | apply below_drew1) | exact HB.out)⟩
end Go.Proofs.Ythplndalbfcbbaa.PA
namespace Go.Proofs.Ythplndalbfcbbaa.PA
open Go.RowKit Go.Proofs.YthplndalbfcbbaaW.PrintWords Go.Proofs.YthplndalbfcbbaaW.PrintLast Go.Proofs.YthplndalbfcbbaaW.PrintMore
attribute [local go_sem] max2_int min2_int max_two min_two max_three min_three max_four min_four   -- for this text's walks alone
set_option linter.unusedVariables false
set_option linter.unusedSimpArgs false
mutual
def elenchusref01_Vars.j0 : Nat → List Int → Int → List (S25) → Option (List Int)
  | 0, _, _, _ => none
  | k + 1, x3, x173000, x173001 => elenchusref01_Vars.l0 k x3 0 x173000 x173001
def elenchusref01_Vars.l0 : Nat → List Int → Int → Int → List (S25) → Option (List Int)
  | 0, _, _, _, _ => none
  | k + 1, x3, x4, x173000, x173001 => if x4 < (x173001.length : Int) then (if 0 ≤ x4 then ((elenchusref01_Vars.f k ((rd_T25 x173001 x4).f0) ((rd_T25 x173001 x4).f1)).bind fun t177 => (elenchusref01_Vars.l1 k x3 x4 t177 0 x173000 x173001)) else (none)) else (some x3)
def elenchusref01_Vars.l1 : Nat → List Int → Int → List Int → Int → Int → List (S25) → Option (List Int)
  | 0, _, _, _, _, _, _ => none
  | k + 1, x3, x4, x5, x6, x173000, x173001 => if x6 < (x5.length : Int) then (if 0 ≤ x6 then ((elenchusref01_In.f (rd x5 x6) x3).bind fun t181 => (if t181 = true then (elenchusref01_Vars.l1 k x3 x4 x5 (wrap64 (x6 + 1)) x173000 x173001) else (if x3.length < 17592186044416 then (elenchusref01_Vars.l1 k (x3 ++ [rd x5 x6]) x4 x5 (wrap64 (x6 + 1)) x173000 x173001) else (none)))) else (none)) else (elenchusref01_Vars.l0 k x3 (wrap64 (x4 + 1)) x173000 x173001)
def elenchusref01_Vars.f : Nat → Int → List (S25) → Option (List Int)
  | 0, _, _ => none
  | k + 1, a0_0, l0_1 => if a0_0 < 0 then (if ([] : List Int).length < 17592186044416 then (elenchusref01_Vars.j0 k (([] : List Int) ++ [wrap64 ((-1) - a0_0)]) a0_0 l0_1) else (none)) else (elenchusref01_Vars.j0 k ([] : List Int) a0_0 l0_1)
end
end Go.Proofs.Ythplndalbfcbbaa.PA
namespace Go.Proofs.Ythplndalbfcbbaa.PA
open Go.RowKit Go.Proofs.YthplndalbfcbbaaW.PrintWords Go.Proofs.YthplndalbfcbbaaW.PrintLast Go.Proofs.YthplndalbfcbbaaW.PrintMore
attribute [local go_sem] max2_int min2_int max_two min_two max_three min_three max_four min_four   -- for this text's walks alone
set_option linter.unusedVariables false
set_option linter.unusedSimpArgs false
end Go.Proofs.Ythplndalbfcbbaa.PA
namespace Go.Proofs.Ythplndalbfcbbaa.PA
open Go.RowKit Go.Proofs.YthplndalbfcbbaaW.PrintWords Go.Proofs.YthplndalbfcbbaaW.PrintLast Go.Proofs.YthplndalbfcbbaaW.PrintMore
attribute [local go_sem] max2_int min2_int max_two min_two max_three min_three max_four min_four   -- for this text's walks alone
set_option linter.unusedVariables false
set_option linter.unusedSimpArgs false
end Go.Proofs.Ythplndalbfcbbaa.PA
namespace Go.Proofs.Ythplndalbfcbbaa.PA
open Go.RowKit Go.Proofs.YthplndalbfcbbaaW.PrintWords Go.Proofs.YthplndalbfcbbaaW.PrintLast Go.Proofs.YthplndalbfcbbaaW.PrintMore
attribute [local go_sem] max2_int min2_int max_two min_two max_three min_three max_four min_four   -- for this text's walks alone
set_option linter.unusedVariables false
set_option linter.unusedSimpArgs false
end Go.Proofs.Ythplndalbfcbbaa.PA
namespace Go.Proofs.Ythplndalbfcbbaa.PA
open Go.RowKit Go.Proofs.YthplndalbfcbbaaW.PrintWords Go.Proofs.YthplndalbfcbbaaW.PrintLast Go.Proofs.YthplndalbfcbbaaW.PrintMore
attribute [local go_sem] max2_int min2_int max_two min_two max_three min_three max_four min_four   -- for this text's walks alone
set_option linter.unusedVariables false
set_option linter.unusedSimpArgs false
end Go.Proofs.Ythplndalbfcbbaa.PA
namespace Go.Proofs.Ythplndalbfcbbaa.PA
open Go.RowKit Go.Proofs.YthplndalbfcbbaaW.PrintWords Go.Proofs.YthplndalbfcbbaaW.PrintLast Go.Proofs.YthplndalbfcbbaaW.PrintMore
attribute [local go_sem] max2_int min2_int max_two min_two max_three min_three max_four min_four   -- for this text's walks alone
set_option linter.unusedVariables false
set_option linter.unusedSimpArgs false
end Go.Proofs.Ythplndalbfcbbaa.PA
namespace Go.Proofs.Ythplndalbfcbbaa.PA
open Go.RowKit Go.Proofs.YthplndalbfcbbaaW.PrintWords Go.Proofs.YthplndalbfcbbaaW.PrintLast Go.Proofs.YthplndalbfcbbaaW.PrintMore
attribute [local go_sem] max2_int min2_int max_two min_two max_three min_three max_four min_four   -- for this text's walks alone
set_option linter.unusedVariables false
set_option linter.unusedSimpArgs false
end Go.Proofs.Ythplndalbfcbbaa.PA
namespace Go.Proofs.Ythplndalbfcbbaa.PA
open Go.RowKit Go.Proofs.YthplndalbfcbbaaW.PrintWords Go.Proofs.YthplndalbfcbbaaW.PrintLast Go.Proofs.YthplndalbfcbbaaW.PrintMore
attribute [local go_sem] max2_int min2_int max_two min_two max_three min_three max_four min_four   -- for this text's walks alone
set_option linter.unusedVariables false
set_option linter.unusedSimpArgs false
end Go.Proofs.Ythplndalbfcbbaa.PA
namespace Go.Proofs.Ythplndalbfcbbaa.PA
open Go.RowKit Go.Proofs.YthplndalbfcbbaaW.PrintWords Go.Proofs.YthplndalbfcbbaaW.PrintLast Go.Proofs.YthplndalbfcbbaaW.PrintMore
attribute [local go_sem] max2_int min2_int max_two min_two max_three min_three max_four min_four   -- for this text's walks alone
set_option linter.unusedVariables false
set_option linter.unusedSimpArgs false
end Go.Proofs.Ythplndalbfcbbaa.PA
namespace Go.Proofs.Ythplndalbfcbbaa.PA
open Go.RowKit Go.Proofs.YthplndalbfcbbaaW.PrintWords Go.Proofs.YthplndalbfcbbaaW.PrintLast Go.Proofs.YthplndalbfcbbaaW.PrintMore
attribute [local go_sem] max2_int min2_int max_two min_two max_three min_three max_four min_four   -- for this text's walks alone
set_option linter.unusedVariables false
set_option linter.unusedSimpArgs false
end Go.Proofs.Ythplndalbfcbbaa.PA
namespace Go.Proofs.Ythplndalbfcbbaa.PA
open Go.RowKit Go.Proofs.YthplndalbfcbbaaW.PrintWords Go.Proofs.YthplndalbfcbbaaW.PrintLast Go.Proofs.YthplndalbfcbbaaW.PrintMore
attribute [local go_sem] max2_int min2_int max_two min_two max_three min_three max_four min_four   -- for this text's walks alone
set_option linter.unusedVariables false
set_option linter.unusedSimpArgs false
end Go.Proofs.Ythplndalbfcbbaa.PA
namespace Go.Proofs.Ythplndalbfcbbaa.PA
open Go.RowKit Go.Proofs.YthplndalbfcbbaaW.PrintWords Go.Proofs.YthplndalbfcbbaaW.PrintLast Go.Proofs.YthplndalbfcbbaaW.PrintMore
attribute [local go_sem] max2_int min2_int max_two min_two max_three min_three max_four min_four   -- for this text's walks alone
set_option linter.unusedVariables false
set_option linter.unusedSimpArgs false
end Go.Proofs.Ythplndalbfcbbaa.PA
namespace Go.Proofs.Ythplndalbfcbbaa.PA
open Go.RowKit Go.Proofs.YthplndalbfcbbaaW.PrintWords Go.Proofs.YthplndalbfcbbaaW.PrintLast Go.Proofs.YthplndalbfcbbaaW.PrintMore
attribute [local go_sem] max2_int min2_int max_two min_two max_three min_three max_four min_four   -- for this text's walks alone
set_option linter.unusedVariables false
set_option linter.unusedSimpArgs false
end Go.Proofs.Ythplndalbfcbbaa.PA
set_option linter.unusedSimpArgs false
set_option linter.unusedVariables false
namespace Go.Proofs.Ythplndalbfcbbaa
open Go.RowKit Go.Proofs.YthplndalbfcbbaaW.PrintWords
theorem wrap_next {i : Int} (h0 : 0 ≤ i) (h1 : i ≤ 9223372036854775806) : wrap64 (i + 1) = i + 1 := by unfold wrap64; omega
theorem rd_nat (l : List Int) (i : Nat) (h : i < l.length) : rd l (i : Int) = l[i] := by simp [rd, h]
theorem rdT_nat (l : List Tm) (i : Nat) (h : i < l.length) : PA.rd_T25 (toSL l) (i : Int) = toS l[i] := by simp [PA.rd_T25, toSL_map, h]
end Go.Proofs.Ythplndalbfcbbaa
set_option linter.unusedSimpArgs false
set_option linter.unusedVariables false
namespace Go.Proofs.Ythplndalbfcbbaa
open Go.RowKit Go.Proofs.YthplndalbfcbbaaW.PrintWords
def Ev {α : Type} (f : Nat → Option α) (r : α) : Prop := ∃ k0, ∀ k, k0 ≤ k → f k = some r
theorem Ev.step {α : Type} {f g : Nat → Option α} {r : α} (h : Ev f r) (e : ∀ k, g (k + 1) = f k) : Ev g r := by
  obtain ⟨k0, h⟩ := h
  refine ⟨k0 + 1, fun k hk => ?_⟩
  obtain ⟨k, rfl⟩ : ∃ m, k = m + 1 := ⟨k - 1, by omega⟩
  rw [e, h k (by omega)]
theorem Ev.const {α : Type} {r : α} : Ev (fun _ => some r) r := ⟨0, fun _ _ => rfl⟩
theorem Ev.bind {α β : Type} {f : Nat → Option α} {g : Nat → α → Option β} {a : α} {r : β} (h : Ev f a) (k : Ev (fun n => g n a) r) : Ev (fun n => (f n).bind (g n)) r := by
  obtain ⟨k1, h⟩ := h
  obtain ⟨k2, k⟩ := k
  exact ⟨max k1 k2, fun n hn => by simp only [h n (by omega), Option.bind_some, k n (by omega)]⟩
theorem Ev.congr {α : Type} {f g : Nat → Option α} {r : α} (h : Ev f r) (e : ∀ k, g k = f k) : Ev g r := by
  obtain ⟨k0, h⟩ := h
  exact ⟨k0, fun k hk => by rw [e, h k hk]⟩
theorem step_fold (v : Int) : ∀ (L acc : List Int), v ∈ L → v ∈ L.foldl numStep acc
  | [], _, h => by simp at h
  | x :: L, acc, h => by
    rw [List.foldl_cons]
    have hm : ∀ (L acc : List Int), v ∈ acc → v ∈ L.foldl numStep acc := by
      intro L
      induction L with
      | nil => intro acc h; exact h
      | cons y L ih => intro acc h; exact ih _ (mem_numStep.2 (.inl h))
    rcases List.mem_cons.1 h with rfl | h
    · exact hm L _ (mem_step _ _)
    · exact step_fold v L _ h
theorem fold_vstep : ∀ (hs L acc : List Int), (hs.foldl vstep L).foldl numStep acc = hs.foldl vstep (L.foldl numStep acc)
  | [], _, _ => rfl
  | h :: hs, L, acc => by
    rw [List.foldl_cons, List.foldl_cons, fold_vstep hs]
    congr 1
    unfold vstep
    by_cases hc : h < 0
    · by_cases hm : (-1 - h) ∈ L
      · rw [if_neg (fun e => e.2 hm), if_neg (fun e => e.2 (step_fold _ _ _ hm))]
      · rw [if_pos ⟨hc, hm⟩, List.foldl_append]
        simp only [List.foldl_cons, List.foldl_nil, numStep]
        by_cases h2 : (-1 - h) ∈ L.foldl numStep acc
        · rw [if_pos h2, if_neg (fun e => e.2 h2)]
        · rw [if_neg h2, if_pos ⟨hc, h2⟩]
    · rw [if_neg (fun e => hc e.1), if_neg (fun e => hc e.1)]
theorem fold_num {t : Tm} (hg : t.good = true) (acc : List Int) : (numT [] t).foldl numStep acc = numT acc t := by
  rw [num_heads t [] hg, num_heads t acc hg, fold_vstep]; rfl
theorem foldl_drop (vs : List Int) (j : Nat) (h : j < vs.length) (acc : List Int) : (vs.drop j).foldl numStep acc = (vs.drop (j + 1)).foldl numStep (numStep acc vs[j]) := by
  rw [List.drop_eq_getElem_cons h, List.foldl_cons]
theorem numL_drop (l : List Tm) (i : Nat) (h : i < l.length) (acc : List Int) : numL acc (l.drop i) = numL (numT acc l[i]) (l.drop (i + 1)) := by
  rw [List.drop_eq_getElem_cons h, numL]
end Go.Proofs.Ythplndalbfcbbaa
set_option linter.unusedSimpArgs false
set_option linter.unusedVariables false
namespace Go.Proofs.Ythplndalbfcbbaa
open Go.RowKit Go.Proofs.YthplndalbfcbbaaW.PrintWords
def OkN (l : List Int) : Prop := l.Nodup ∧ ∀ x, x ∈ l → 0 ≤ x ∧ x < (256 : Nat)
theorem OkN.len {l : List Int} (h : OkN l) : l.length ≤ 256 := pigeon 256 l h.1 h.2
theorem OkN.nil : OkN [] := ⟨List.nodup_nil, by simp⟩
theorem OkN.step {l : List Int} (h : OkN l) {v : Int} (h0 : 0 ≤ v) (h1 : v < (256 : Nat)) : OkN (numStep l v) := by
  unfold numStep
  split
  · exact h
  · rename_i hm
    refine ⟨List.nodup_append.2 ⟨h.1, by simp, fun a ha b hb => ?_⟩, fun x hx => ?_⟩
    · simp only [List.mem_singleton] at hb
      subst hb
      exact fun e => hm (e ▸ ha)
    · rcases List.mem_append.1 hx with hx | hx
      · exact h.2 x hx
      · simp only [List.mem_singleton] at hx
        subst hx; exact ⟨h0, h1⟩
theorem OkN.heads : ∀ (hs : List Int) {l : List Int}, OkN l → (∀ h, h ∈ hs → -256 ≤ h) → OkN (hs.foldl vstep l)
  | [], _, h, _ => h
  | x :: hs, l, h, hr => by
    rw [List.foldl_cons]
    refine OkN.heads hs ?_ fun y hy => hr y (by simp [hy])
    have hx := hr x (by simp)
    unfold vstep
    split
    · rename_i hc
      have := h.step (v := -1 - x) (by omega) (by omega)
      unfold numStep at this
      rwa [if_neg hc.2] at this
    · exact h
theorem OkN.num {l : List Int} (h : OkN l) {t : Tm} (hg : t.good = true) : OkN (numT l t) := by
  rw [num_heads t l hg]
  exact h.heads _ fun x hx => (good_heads t hg x hx).1
theorem varsG_l1 {h : Int} {l : List Tm} {i : Nat} {vs : List Int} (hvs : OkN vs) (hi : i ≤ 1000000000) {r : List Int} :
    ∀ (d j : Nat) (acc : List Int), j + d = vs.length → OkN acc → Ev (fun k => PA.elenchusref01_Vars.l0 k ((vs.drop j).foldl numStep acc) ((i + 1 : Nat) : Int) h (toSL l)) r → Ev (fun k => PA.elenchusref01_Vars.l1 k acc (i : Int) vs (j : Int) h (toSL l)) r
  | 0, j, acc, hj, ha, hr => by
    have hvl := hvs.len
    rw [List.drop_eq_nil_of_le (by omega), List.foldl_nil] at hr
    refine hr.step fun k => ?_
    simp only [PA.elenchusref01_Vars.l1]
    rw [if_neg (by omega), wrap_next (by omega) (by omega)]; rfl
  | d + 1, j, acc, hj, ha, hr => by
    have hvl := hvs.len
    have hal := ha.len
    have hlt : j < vs.length := by omega
    have hv := hvs.2 _ (List.getElem_mem hlt)
    rw [foldl_drop vs j hlt] at hr
    refine (varsG_l1 hvs hi d (j + 1) (numStep acc vs[j]) (by omega) (ha.step hv.1 hv.2) hr).step fun k => ?_
    rw [PA.elenchusref01_Vars.l1, if_pos (by omega), if_pos (by omega), rd_nat vs j hlt, wrap_next (by omega) (by omega)]
    simp only [PA.elenchusref01_In.f, Option.bind_some]
    by_cases hm : vs[j] ∈ acc
    · rw [if_pos (hasB_iff.2 hm), show numStep acc vs[j] = acc by simp [numStep, hm]]; rfl
    · rw [if_neg (fun e => hm (hasB_iff.1 e)), if_pos (by omega), show numStep acc vs[j] = acc ++ [vs[j]] by simp [numStep, hm]]; rfl
theorem varsG_l0 (n0 : Nat) (ih : ∀ t : Tm, t.size ≤ n0 → t.good = true → Ev (fun k => PA.elenchusref01_Vars.f k t.h (toSL t.args)) (numT [] t)) {h : Int} {l : List Tm} (hl : l.length ≤ 1000000000) (hk : ∀ t, t ∈ l → t.size ≤ n0 ∧ t.good = true) :
    ∀ (d i : Nat) (acc : List Int), i + d = l.length → OkN acc → Ev (fun k => PA.elenchusref01_Vars.l0 k acc (i : Int) h (toSL l)) (numL acc (l.drop i))
  | 0, i, acc, hi, ha => by
    rw [List.drop_eq_nil_of_le (by omega), numL]
    refine Ev.const.step fun k => ?_
    simp only [PA.elenchusref01_Vars.l0]
    rw [if_neg (by rw [toSL_length]; omega)]
  | d + 1, i, acc, hi, ha => by
    have hlt : i < l.length := by omega
    obtain ⟨g1, g3⟩ := hk l[i] (List.getElem_mem hlt)
    have hrec := varsG_l0 n0 ih (h := h) hl hk d (i + 1) (numT acc l[i]) (by omega) (ha.num g3)
    rw [← numL_drop l i hlt, ← fold_num g3] at hrec
    have hl1 := varsG_l1 (h := h) (l := l) (i := i) (vs := numT [] l[i]) (OkN.nil.num g3) (by omega) (numT [] l[i]).length 0 acc (by omega) ha (by rw [List.drop_zero]; exact hrec)
    refine ((ih l[i] g1 g3).bind (g := fun k v => PA.elenchusref01_Vars.l1 k acc (i : Int) v ((0 : Nat) : Int) h (toSL l)) hl1).step fun k => ?_
    rw [PA.elenchusref01_Vars.l0, if_pos (by rw [toSL_length]; omega), if_pos (by omega), rdT_nat l i hlt, toS_f0, toS_f1]; rfl
theorem varsG_f (n0 : Nat) : ∀ (t : Tm), t.size ≤ n0 → t.good = true → Ev (fun k => PA.elenchusref01_Vars.f k t.h (toSL t.args)) (numT [] t) := by
  induction n0 with
  | zero => intro t ht; have := t.size_eq; omega
  | succ n0 ih =>
    intro t ht hg
    obtain ⟨hh, hl8, hkids⟩ := good_args hg
    have hsz := t.size_eq
    have h0 := varsG_l0 n0 ih (h := t.h) (l := t.args) (by omega) (fun u hu => by
      obtain ⟨i, hi, rfl⟩ := List.getElem_of_mem hu
      have := Tm.size_get t.args i hi
      exact ⟨by omega, hkids i hi⟩)
    have hj : ∀ acc : List Int, OkN acc → Ev (fun k => PA.elenchusref01_Vars.j0 k acc t.h (toSL t.args)) (numL acc t.args) := fun acc ha => by
      have := h0 t.args.length 0 acc (by omega) ha
      rw [List.drop_zero] at this
      exact this.step fun k => by rw [PA.elenchusref01_Vars.j0]; rfl
    by_cases hneg : t.h < 0
    · have ha : t.args = [] := by cases t; exact good_var hg hneg
      have hr : numT [] t = numL [-1 - t.h] t.args := by rw [(renT_neg [] t hneg).2, ha]; simp [numStep, numL]
      rw [hr]
      have hok : OkN [-1 - t.h] := by
        have := OkN.nil.step (v := -1 - t.h) (by omega) (by omega)
        simpa [numStep] using this
      refine (hj [-1 - t.h] hok).step fun k => ?_
      rw [PA.elenchusref01_Vars.f, if_pos hneg, if_pos (by simp)]
      have : wrap64 (-1 - t.h) = -1 - t.h := by unfold wrap64; omega
      rw [this]; rfl
    · rw [(renT_pos [] t hneg).2]
      refine (hj [] OkN.nil).step fun k => ?_
      rw [PA.elenchusref01_Vars.f, if_neg hneg]
theorem size_l0 (n0 : Nat) (ih : ∀ t : Tm, t.size ≤ n0 → t.size ≤ 9000000000000000000 → Ev (fun k => PA.elenchusref01_Size.f k t.h (toSL t.args)) (t.size : Int)) {h : Int} {l : List Tm} (hl : 1 + Tm.sizes l ≤ 9000000000000000000) (hk : Tm.sizes l ≤ n0) :
    ∀ (d i : Nat), i + d = l.length → Ev (fun k => PA.elenchusref01_Size.l0 k ((1 + Tm.sizes (l.take i) : Nat) : Int) (i : Int) h (toSL l)) ((1 + Tm.sizes l : Nat) : Int)
  | 0, i, hi => by
    have hll := Tm.sizes_length l
    rw [List.take_of_length_le (by omega)]
    refine Ev.const.step fun k => ?_
    rw [PA.elenchusref01_Size.l0, if_neg (by rw [toSL_length]; omega)]
  | d + 1, i, hi => by
    have hlt : i < l.length := by omega
    have hll := Tm.sizes_length l
    have h1 := Tm.size_get l i hlt
    have h2 := Tm.sizes_take l i hlt
    have h3 := Tm.sizes_take_le l (i + 1)
    have hrec := size_l0 n0 ih (h := h) hl hk d (i + 1) (by omega)
    have e : wrap64 (((1 + Tm.sizes (l.take i) : Nat) : Int) + (l[i].size : Int)) = ((1 + Tm.sizes (l.take (i + 1)) : Nat) : Int) := by
      rw [h2]; unfold wrap64; push_cast; omega
    refine ((ih l[i] (by omega) (by omega)).bind (g := fun k v => PA.elenchusref01_Size.l0 k (wrap64 (((1 + Tm.sizes (l.take i) : Nat) : Int) + v)) ((i + 1 : Nat) : Int) h (toSL l)) (by rw [e]; exact hrec)).step fun k => ?_
    rw [PA.elenchusref01_Size.l0, if_pos (by rw [toSL_length]; omega), if_pos (by omega), rdT_nat l i hlt, toS_f0, toS_f1, wrap_next (by omega) (by omega)]; rfl
theorem size_f (n0 : Nat) : ∀ (t : Tm), t.size ≤ n0 → t.size ≤ 9000000000000000000 → Ev (fun k => PA.elenchusref01_Size.f k t.h (toSL t.args)) (t.size : Int) := by
  induction n0 with
  | zero => intro t ht; have := t.size_eq; omega
  | succ n0 ih =>
    intro t ht hn
    have hsz := t.size_eq
    have h0 := size_l0 n0 ih (h := t.h) (l := t.args) (by omega) (by omega) t.args.length 0 (by omega)
    rw [← hsz] at h0
    simp only [List.take_zero, Tm.sizes] at h0
    exact h0.step fun k => by rw [PA.elenchusref01_Size.f]; rfl
theorem depth_l0 (n0 : Nat) (ih : ∀ t : Tm, t.size ≤ n0 → t.size ≤ 1000000000 → Ev (fun k => PA.elenchusref01_Depth.f k t.h (toSL t.args)) (t.depth : Int)) {h : Int} {l : List Tm} (hl : 1 + Tm.sizes l ≤ 1000000000) (hk : Tm.sizes l ≤ n0) :
    ∀ (d i : Nat), i + d = l.length → Ev (fun k => PA.elenchusref01_Depth.l0 k (Tm.depths (l.take i) : Int) (i : Int) h (toSL l)) ((Tm.depths l + 1 : Nat) : Int)
  | 0, i, hi => by
    have hll := Tm.sizes_length l
    have hd := Tm.depths_le l
    rw [List.take_of_length_le (by omega)]
    refine Ev.const.step fun k => ?_
    rw [PA.elenchusref01_Depth.l0, if_neg (by rw [toSL_length]; omega), wrap_next (by omega) (by omega)]
    push_cast; rfl
  | d + 1, i, hi => by
    have hlt : i < l.length := by omega
    have hll := Tm.sizes_length l
    have h1 := Tm.size_get l i hlt
    have h2 := Tm.depths_take l i hlt
    have hrec := depth_l0 n0 ih (h := h) hl hk d (i + 1) (by omega)
    have e : mx (Tm.depths (l.take i) : Int) (l[i].depth : Int) = (Tm.depths (l.take (i + 1)) : Int) := by
      rw [h2]; unfold mx; omega
    refine ((ih l[i] (by omega) (by omega)).bind (g := fun k v => PA.elenchusref01_Depth.l0 k (mx (Tm.depths (l.take i) : Int) v) ((i + 1 : Nat) : Int) h (toSL l)) (by rw [e]; exact hrec)).step fun k => ?_
    rw [PA.elenchusref01_Depth.l0, if_pos (by rw [toSL_length]; omega), if_pos (by omega), rdT_nat l i hlt, toS_f0, toS_f1, wrap_next (by omega) (by omega)]; rfl
theorem depth_f (n0 : Nat) : ∀ (t : Tm), t.size ≤ n0 → t.size ≤ 1000000000 → Ev (fun k => PA.elenchusref01_Depth.f k t.h (toSL t.args)) (t.depth : Int) := by
  induction n0 with
  | zero => intro t ht; have := t.size_eq; omega
  | succ n0 ih =>
    intro t ht hn
    have hsz := t.size_eq
    have h0 := depth_l0 n0 ih (h := t.h) (l := t.args) (by omega) (by omega) t.args.length 0 (by omega)
    have e : (Tm.depths t.args + 1 : Nat) = t.depth := by rw [Tm.depth_eq]; omega
    rw [e] at h0
    simp only [List.take_zero, Tm.depths] at h0
    exact h0.step fun k => by rw [PA.elenchusref01_Depth.f]; rfl
end Go.Proofs.Ythplndalbfcbbaa
set_option linter.unusedSimpArgs false
set_option linter.unusedVariables false
namespace Go.Proofs.Ythplndalbfcbbaa
mutual
/-- In how many parts a symbol stands. -/
def stT (h : Int) : Tm → Int
  | .node g ts => (if g = h then 1 else 0) + stL h ts
def stL (h : Int) : List Tm → Int
  | [] => 0
  | t :: ts => stT h t + stL h ts
end
theorem stT_eq (h : Int) (t : Tm) : stT h t = (if t.h = h then 1 else 0) + stL h t.args := by cases t; rw [stT, Tm.h, Tm.args]
mutual
theorem stT_bounds (h : Int) : ∀ t : Tm, 0 ≤ stT h t ∧ stT h t ≤ t.size
  | .node g ts => by
    have h1 := stL_bounds h ts
    have hs := (Tm.node g ts).size_eq
    simp only [Tm.args] at hs
    rw [stT]
    split <;> omega
theorem stL_bounds (h : Int) : ∀ ts : List Tm, 0 ≤ stL h ts ∧ stL h ts ≤ Tm.sizes ts
  | [] => by simp [stL, Tm.sizes]
  | t :: ts => by
    have h1 := stT_bounds h t
    have h2 := stL_bounds h ts
    simp only [stL, Tm.sizes]
    omega
end
theorem stL_take (h : Int) (l : List Tm) (k : Nat) (hk : k < l.length) : stL h (l.take (k + 1)) = stL h (l.take k) + stT h l[k] := by
  rw [List.take_succ_eq_append_getElem hk]
  generalize l.take k = m
  induction m with
  | nil => simp [stL]
  | cons x m ih => simp only [List.cons_append, stL, ih]; omega
theorem stL_take_le (h : Int) (l : List Tm) (k : Nat) : 0 ≤ stL h (l.take k) ∧ stL h (l.take k) ≤ Tm.sizes l := by
  have h1 := stL_bounds h (l.take k)
  have h2 := Tm.sizes_take_le l k
  omega
theorem bump_getD (l : List Int) (j i : Nat) (hi : i < l.length) : (bump l j).getD i 0 = l.getD i 0 + if i = j then 1 else 0 := by
  simp only [bump, List.getD_eq_getElem?_getD, List.getElem?_set]
  by_cases h : j = i
  · subst h
    simp [hi]
  · have h' : ¬ i = j := fun e => h e.symm
    simp [h, h']
def atS (k i : Nat) : Bool := decide (2 + k ≤ i) && decide ((i - 2 - k) % 2 = 0)
mutual
theorem addT_getD (k i : Nat) : ∀ (t : Tm) (l : List Int), i < l.length → (addT k t l).getD i 0 = l.getD i 0 + if atS k i = true then stT (((i - 2 - k) / 2 : Nat) : Int) t else 0
  | .node h ts, l, hi => by
    rw [addT, addL_getD k i ts _ (by split <;> simp [bump_length, hi]), stT]
    by_cases hh : h < 0
    · rw [if_pos hh]
      split
      · rw [if_neg (by omega)]; omega
      · rfl
    · rw [if_neg hh, bump_getD l _ i hi]
      by_cases ha : atS k i = true
      · rw [if_pos ha, if_pos ha]
        simp only [atS, Bool.and_eq_true, decide_eq_true_eq] at ha
        by_cases he : i = 2 + 2 * h.toNat + k
        · rw [if_pos he, if_pos (by omega)]; omega
        · rw [if_neg he, if_neg (by omega)]; omega
      · rw [if_neg ha, if_neg ha, if_neg (by
          intro he
          refine ha ?_
          simp only [atS, Bool.and_eq_true, decide_eq_true_eq]
          omega)]
        omega
theorem addL_getD (k i : Nat) : ∀ (ts : List Tm) (l : List Int), i < l.length → (addL k ts l).getD i 0 = l.getD i 0 + if atS k i = true then stL (((i - 2 - k) / 2 : Nat) : Int) ts else 0
  | [], l, hi => by simp [addL, stL]
  | t :: ts, l, hi => by
    rw [addL, addL_getD k i ts _ (by rw [addT_length]; exact hi), addT_getD k i t l hi, stL]
    split <;> omega
end
def inner (k : Nat) (L R : Tm) : Nat → List Int → List Int
  | 0, l => l
  | j + 1, l => (inner k L R j l).set (2 + 2 * j + k) ((inner k L R j l).getD (2 + 2 * j + k) 0 + stT (j : Int) L + stT (j : Int) R)
theorem inner_length (k : Nat) (L R : Tm) : ∀ (j : Nat) (l : List Int), (inner k L R j l).length = l.length
  | 0, _ => rfl
  | j + 1, l => by rw [inner, List.length_set, inner_length k L R j l]
theorem inner_getD (k : Nat) (L R : Tm) (i : Nat) : ∀ (j : Nat) (l : List Int), i < l.length → (inner k L R j l).getD i 0 = l.getD i 0 + if atS k i = true ∧ (i - 2 - k) / 2 < j then stT (((i - 2 - k) / 2 : Nat) : Int) L + stT (((i - 2 - k) / 2 : Nat) : Int) R else 0
  | 0, l, hi => by rw [inner, if_neg (by omega)]; omega
  | j + 1, l, hi => by
    have ih := inner_getD k L R i j l hi
    rw [inner, List.getD_eq_getElem?_getD, List.getElem?_set]
    by_cases he : 2 + 2 * j + k = i
    · subst he
      rw [if_pos rfl, if_pos (by rw [inner_length]; exact hi), Option.getD_some, ih]
      rw [if_neg (by omega), if_pos ⟨by simp only [atS, Bool.and_eq_true, decide_eq_true_eq]; omega, by omega⟩]
      have : (2 + 2 * j + k - 2 - k) / 2 = j := by omega
      rw [this]; omega
    · rw [if_neg he, ← List.getD_eq_getElem?_getD, ih]
      congr 1
      by_cases h1 : atS k i = true
      · have h2 := h1
        simp only [atS, Bool.and_eq_true, decide_eq_true_eq] at h2
        by_cases h3 : (i - 2 - k) / 2 < j
        · rw [if_pos ⟨h1, h3⟩, if_pos ⟨h1, by omega⟩]
        · rw [if_neg (fun h => h3 h.2), if_neg (by rintro ⟨-, h4⟩; omega)]
      · rw [if_neg (fun h => h1 h.1), if_neg (fun h => h1 h.1)]
theorem ext_getD {a b : List Int} (hl : a.length = b.length) (h : ∀ i, i < a.length → a.getD i 0 = b.getD i 0) : a = b := by
  refine List.ext_getElem hl fun i h1 h2 => ?_
  have := h i h1
  simpa [List.getD_eq_getElem?_getD, h1, h2] using this
theorem inner_addT (k n : Nat) (hk : k < 2) (L R : Tm) (l : List Int) (hl : l.length = 2 + 2 * n) : inner k L R n l = addT k R (addT k L l) := by
  refine ext_getD (by rw [inner_length, addT_length, addT_length]) fun i hi => ?_
  rw [inner_length] at hi
  rw [inner_getD k L R i n l hi, addT_getD k i R _ (by rw [addT_length]; exact hi), addT_getD k i L l hi]
  by_cases ha : atS k i = true
  · have h2 := ha
    simp only [atS, Bool.and_eq_true, decide_eq_true_eq] at h2
    rw [if_pos ⟨ha, by omega⟩, if_pos ha, if_pos ha]; omega
  · rw [if_neg (fun h => ha h.1), if_neg ha, if_neg ha]; omega
end Go.Proofs.Ythplndalbfcbbaa
set_option linter.unusedSimpArgs false
set_option linter.unusedVariables false
namespace Go.Proofs.Ythplndalbfcbbaa
open Go.RowKit Go.Proofs.YthplndalbfcbbaaW.PrintWords
theorem rdG_nat (l : List Sy) (i : Nat) (h : i < l.length) : PA.rd_T148 (toGL l) (i : Int) = toG l[i] := by simp [PA.rd_T148, toGL, h]
theorem rdL_nat (l : List Lt) (i : Nat) (h : i < l.length) : PA.rd_T142 (toLL l) (i : Int) = toLt l[i] := by simp [PA.rd_T142, toLL, h]
theorem toLt_f0 (x : Lt) : (toLt x).f0 = x.neg := rfl
theorem toLt_f1 (x : Lt) : (toLt x).f1 = toS x.l := rfl
theorem toLt_f2 (x : Lt) : (toLt x).f2 = toS x.r := rfl
theorem goods_dropG (l : List Tm) (i : Nat) (h : i < l.length) : Tm.goods (l.drop i) = (l[i].good && Tm.goods (l.drop (i + 1))) := by
  rw [List.drop_eq_getElem_cons h, Tm.goods]
theorem goodG_l0 (n0 : Nat) (ih : ∀ t : Tm, t.size ≤ n0 → t.size ≤ 1000000000 → Ev (fun k => PA.elenchusref01_good.f k t.h (toSL t.args)) t.good) {h : Int} {l : List Tm} (hl : 1 + Tm.sizes l ≤ 1000000000) (hk : Tm.sizes l ≤ n0) :
    ∀ (d i : Nat), i + d = l.length → Ev (fun k => PA.elenchusref01_good.l0 k (i : Int) h (toSL l)) (Tm.goods (l.drop i))
  | 0, i, hi => by
    rw [List.drop_eq_nil_of_le (by omega), Tm.goods]
    refine Ev.const.step fun k => ?_
    rw [PA.elenchusref01_good.l0, if_neg (by rw [toSL_length]; omega)]
  | d + 1, i, hi => by
    have hlt : i < l.length := by omega
    have hll := Tm.sizes_length l
    have h1 := Tm.size_get l i hlt
    have hrec := goodG_l0 n0 ih (h := h) hl hk d (i + 1) (by omega)
    rw [goods_dropG l i hlt]
    refine ((ih l[i] (by omega) (by omega)).bind (g := fun k v => if v = true then PA.elenchusref01_good.l0 k ((i + 1 : Nat) : Int) h (toSL l) else some false) (r := l[i].good && Tm.goods (l.drop (i + 1))) ?_).step fun k => ?_
    · cases hg : l[i].good
      · exact Ev.const.congr fun k => by simp
      · simpa using hrec
    rw [PA.elenchusref01_good.l0, if_pos (by rw [toSL_length]; omega), if_pos (by omega), rdT_nat l i hlt, toS_f0, toS_f1, wrap_next (by omega) (by omega)]; rfl
theorem goodG_f (n0 : Nat) : ∀ (t : Tm), t.size ≤ n0 → t.size ≤ 1000000000 → Ev (fun k => PA.elenchusref01_good.f k t.h (toSL t.args)) t.good := by
  induction n0 with
  | zero => intro t ht; have := t.size_eq; omega
  | succ n0 ih =>
    intro t ht h9
    have hsz := t.size_eq
    have hll := Tm.sizes_length t.args
    have h0 := goodG_l0 n0 ih (h := t.h) (l := t.args) (by omega) (by omega) t.args.length 0 (by omega)
    rw [List.drop_zero] at h0
    have hgd : t.good = (okP t && Tm.goods t.args) := by cases t; rfl
    have hj : ∀ b : Bool, Ev (fun k => PA.elenchusref01_good.j0 k b t.h (toSL t.args)) (!b && Tm.goods t.args) := fun b => by
      cases b
      · refine h0.step fun k => ?_
        rw [PA.elenchusref01_good.j0]; rfl
      · refine Ev.const.step fun k => ?_
        rw [PA.elenchusref01_good.j0]; rfl
    rw [hgd]
    have hL : ((toSL t.args).length : Int) = (t.args.length : Int) := by rw [toSL_length]
    refine (hj (!okP t)).step (fun k => ?_) |> fun h => by simpa using h
    have key : (!okP t) = ((decide (t.h < 0) && decide (0 < t.args.length)) || decide (t.h < -256) || decide (1023 < t.h) || decide (8 < t.args.length)) := by simp only [okP, Bool.not_not]
    have kt : ∀ p : ((t.h < 0 ∧ 0 < t.args.length) ∨ t.h < -256 ∨ 1023 < t.h), (!okP t) = true := fun p => by
      rw [key]; simp only [Bool.or_eq_true, Bool.and_eq_true, decide_eq_true_eq]; omega
    have kf : ∀ p : (¬ (t.h < 0 ∧ 0 < t.args.length) ∧ ¬ t.h < -256 ∧ ¬ 1023 < t.h), (!okP t) = decide ((t.args.length : Int) > 8) := fun p => by
      rw [key]
      by_cases c : 8 < t.args.length
      · rw [decide_eq_true c, decide_eq_true (p := (t.args.length : Int) > 8) (by omega), Bool.or_true]
      · rw [decide_eq_false c, decide_eq_false (p := (t.args.length : Int) > 8) (by omega), decide_eq_false p.2.1, decide_eq_false p.2.2]
        simp only [Bool.or_false, Bool.and_eq_false_imp, decide_eq_true_eq, decide_eq_false_iff_not]
        intro h1 h2; exact p.1 ⟨h1, h2⟩
    rw [PA.elenchusref01_good.f, hL]
    by_cases c3 : t.h < -256
    · rw [kt (by omega)]
      simp only [c3, if_true]
      split
      · split <;> rfl
      · rfl
    by_cases c4 : t.h > 1023
    · rw [kt (by omega)]
      simp only [c3, c4, if_true, if_false]
      split
      · split <;> rfl
      · rfl
    simp only [c3, c4, if_false]
    by_cases c1 : t.h < 0
    · rw [if_pos c1]
      by_cases c2 : (t.args.length : Int) > 0
      · rw [if_pos c2, kt (by omega)]
      · rw [if_neg c2, kf (by omega)]
    · rw [if_neg c1, kf (by omega)]
theorem refcheckG {t : Tm} (hs : t.size ≤ 1000000000) : Ev (fun k => PA.elenchusref01_Check.f k t.h (toSL t.args)) (chk t) := by
  unfold PA.elenchusref01_Check.f
  refine (size_f _ t (Nat.le_refl _) (by omega)).bind (g := fun k v => if v > 400 then some 2 else (PA.elenchusref01_Depth.f k t.h (toSL t.args)).bind fun t336 => if t336 > 40 then some 7 else (PA.elenchusref01_good.f k t.h (toSL t.args)).bind fun t337 => if t337 = true then some 0 else some 1) ?_
  unfold chk
  by_cases h1 : 400 < t.size
  · rw [if_pos h1]
    exact Ev.const.congr fun k => by rw [if_pos (by omega)]
  · rw [if_neg h1]
    refine Ev.congr (f := fun k => (PA.elenchusref01_Depth.f k t.h (toSL t.args)).bind fun t336 => if t336 > 40 then some 7 else (PA.elenchusref01_good.f k t.h (toSL t.args)).bind fun t337 => if t337 = true then some 0 else some 1) ?_ fun k => by rw [if_neg (by omega)]
    refine (depth_f _ t (Nat.le_refl _) (by omega)).bind (g := fun k v => if v > 40 then some 7 else (PA.elenchusref01_good.f k t.h (toSL t.args)).bind fun t337 => if t337 = true then some 0 else some 1) ?_
    by_cases h2 : 40 < t.depth
    · rw [if_pos h2]
      exact Ev.const.congr fun k => by rw [if_pos (by omega)]
    · rw [if_neg h2]
      refine Ev.congr (f := fun k => (PA.elenchusref01_good.f k t.h (toSL t.args)).bind fun t337 => if t337 = true then some 0 else some 1) ?_ fun k => by rw [if_neg (by omega)]
      refine (goodG_f _ t (Nat.le_refl _) (by omega)).bind (g := fun k v => if v = true then some 0 else some 1) (r := if t.good = true then 0 else 1) (Ev.const.congr fun k => ?_)
      split <;> rfl
def sidesOf (ls : List Lt) : List Tm := (ls.map fun x => [x.l, x.r]).flatten
theorem sidesOf_take (ls : List Lt) (i : Nat) (h : i < ls.length) : sidesOf (ls.take (i + 1)) = sidesOf (ls.take i) ++ [ls[i].l, ls[i].r] := by
  rw [List.take_succ_eq_append_getElem h]
  simp only [sidesOf, List.map_append, List.flatten_append, List.map_cons, List.map_nil, List.flatten_cons, List.flatten_nil, List.append_nil]
theorem sidesOf_length (ls : List Lt) : (sidesOf ls).length = 2 * ls.length := by
  induction ls with
  | nil => rfl
  | cons x ls ih => simp only [sidesOf, List.map_cons, List.flatten_cons, List.length_append, List.length_cons, List.length_nil] at ih ⊢; omega
theorem sidesOf_mem {ls : List Lt} {x : Lt} (h : x ∈ ls) : x.l ∈ sidesOf ls ∧ x.r ∈ sidesOf ls := by
  simp only [sidesOf, List.mem_flatten, List.mem_map]
  exact ⟨⟨_, ⟨x, h, rfl⟩, by simp⟩, ⟨_, ⟨x, h, rfl⟩, by simp⟩⟩
theorem toS_eta (t : Tm) : (⟨(toS t).f0, (toS t).f1⟩ : TS) = toS t := by cases toS t; rfl
theorem terms10_l0 (ls : List Lt) (hl : ls.length ≤ 1000000000) : ∀ (d i : Nat), i + d = ls.length → Ev (fun k => PA.elenchusref10_Terms.l0 k (toLL ls) (toSL (sidesOf (ls.take i))) (i : Int)) (toSL (sidesOf ls))
  | 0, i, hi => by
    rw [List.take_of_length_le (by omega)]
    refine Ev.const.step fun k => ?_
    rw [PA.elenchusref10_Terms.l0, if_neg (by rw [toLL_length]; omega)]
  | d + 1, i, hi => by
    have hlt : i < ls.length := by omega
    have hrec := terms10_l0 ls hl d (i + 1) (by omega)
    refine hrec.step fun k => ?_
    rw [PA.elenchusref10_Terms.l0, if_pos (by rw [toLL_length]; omega), if_pos (by omega), rdL_nat ls i hlt, toLt_f1, toLt_f2, toS_eta, toS_eta, Option.bind_some, if_pos (by rw [toSL_length, sidesOf_length, List.length_take]; simp; omega), wrap_next (by omega) (by omega), sidesOf_take ls i hlt]
    congr 1
    simp [toSL_map]
theorem terms10 (ls : List Lt) (hl : ls.length ≤ 1000000000) : Ev (fun k => PA.elenchusref10_Terms.f k (toLL ls)) (toSL (sidesOf ls)) := by
  have := terms10_l0 ls hl ls.length 0 (by omega)
  simpa [sidesOf, toSL, PA.elenchusref10_Terms.f] using this
def few7B (gs : List Sy) : Bool := decide (gs.length ≤ 300) && gs.all fun x => decide (x.name.size ≤ 100)
theorem few7_l0 (gs : List Sy) (hl : gs.length ≤ 300) : ∀ (d i : Nat), i + d = gs.length → Ev (fun k => PA.elenchusref07_Few.l0 k (toGL gs) (i : Int)) ((gs.drop i).all fun x => decide (x.name.size ≤ 100))
  | 0, i, hi => by
    rw [List.drop_eq_nil_of_le (by omega), List.all_nil]
    refine (Ev.const.step (g := fun k => PA.elenchusref07_Few.j1 k (toGL gs) (i : Int) false) fun k => ?_).step fun k => ?_
    · rw [PA.elenchusref07_Few.j1, if_neg (by simp), toGL_length]; simp; omega
    · rw [PA.elenchusref07_Few.l0, if_neg (by rw [toGL_length]; omega)]
  | d + 1, i, hi => by
    have hlt : i < gs.length := by omega
    have hrec := few7_l0 gs hl d (i + 1) (by omega)
    rw [List.drop_eq_getElem_cons hlt, List.all_cons]
    refine Ev.step (f := fun k => PA.elenchusref07_Few.j1 k (toGL gs) (i : Int) true) ?_ fun k => by rw [PA.elenchusref07_Few.l0, if_pos (by rw [toGL_length]; omega), toGL_length, decide_eq_true (by omega)]
    have e : ((toG gs[i]).f0).size = gs[i].name.size := rfl
    by_cases hc : gs[i].name.size ≤ 100
    · rw [decide_eq_true hc, Bool.true_and]
      refine hrec.step fun k => ?_
      rw [PA.elenchusref07_Few.j1, if_pos rfl, if_pos (by omega), if_pos (by rw [toGL_length]; omega), rdG_nat gs i hlt, e, if_neg (by omega), wrap_next (by omega) (by omega)]; rfl
    · rw [decide_eq_false hc, Bool.false_and]
      refine Ev.const.step fun k => ?_
      rw [PA.elenchusref07_Few.j1, if_pos rfl, if_pos (by omega), if_pos (by rw [toGL_length]; omega), rdG_nat gs i hlt, e, if_pos (by omega)]
theorem few7 (gs : List Sy) (h9 : gs.length ≤ 9223372036854775807) : Ev (fun k => PA.elenchusref07_Few.f k (toGL gs)) (few7B gs) := by
  by_cases hl : gs.length ≤ 300
  · have := few7_l0 gs hl gs.length 0 (by omega)
    rw [List.drop_zero] at this
    simpa [few7B, hl, PA.elenchusref07_Few.f] using this
  · have hb : few7B gs = false := by simp [few7B, hl]
    rw [hb]
    refine (Ev.const.step (g := fun k => PA.elenchusref07_Few.j1 k (toGL gs) 0 false) fun k => ?_).step fun k => ?_
    · rw [PA.elenchusref07_Few.j1, if_neg (by simp), toGL_length]; simp; omega
    · rw [PA.elenchusref07_Few.f.eq_1, PA.elenchusref07_Few.l0, if_pos (by rw [toGL_length]; omega), toGL_length, decide_eq_false (by omega)]
def few10B (ls : List Lt) : Bool := decide (ls.length ≤ 40) && fewS (sidesOf ls)
theorem few10 (ls : List Lt) : Ev (fun k => PA.elenchusref10_Few.f k (toLL ls)) (few10B ls) := by
  unfold PA.elenchusref10_Few.f
  by_cases hl : ls.length ≤ 40
  · refine Ev.congr (f := fun k => (PA.elenchusref10_Terms.f k (toLL ls)).bind fun t => (PA.elenchusref05_Few.f t).bind fun u => some u) ?_ fun k => by rw [if_pos (by rw [toLL_length]; omega)]
    refine (terms10 ls (by omega)).bind (g := fun k t => (PA.elenchusref05_Few.f t).bind fun u => some u) (Ev.const.congr fun k => ?_)
    simp [PA.elenchusref05_Few.f, ofSL_toSL, few10B, hl]
  · refine Ev.const.congr fun k => ?_
    rw [if_neg (by rw [toLL_length]; omega)]
    simp [few10B, hl]
def few16B (gs : List Sy) (ls : List Lt) : Bool := few7B gs && few10B ls
theorem few16 (gs : List Sy) (ls : List Lt) (h9 : gs.length ≤ 9223372036854775807) : Ev (fun k => PA.elenchusref16_Few.f k (toGL gs) (toLL ls)) (few16B gs ls) := by
  unfold PA.elenchusref16_Few.f
  refine (few7 gs h9).bind (g := fun k t => if t = true then (PA.elenchusref10_Few.f k (toLL ls)).bind fun t629 => (if t629 = true then ((PA.elenchusref10_Terms.f k (toLL ls)).bind fun t630 => ((PA.elenchusref05_Few.f t630).bind fun t633 => (some t633))) else (some false)) else some false) ?_
  cases hf : few7B gs
  · exact Ev.const.congr fun k => by simp [few16B, hf]
  simp only [if_true]
  refine (few10 ls).bind (g := fun k t => if t = true then ((PA.elenchusref10_Terms.f k (toLL ls)).bind fun t630 => ((PA.elenchusref05_Few.f t630).bind fun t633 => (some t633))) else (some false)) ?_
  cases hg : few10B ls
  · exact Ev.const.congr fun k => by simp [few16B, hf, hg]
  simp only [if_true]
  have hg' := hg
  simp only [few10B, Bool.and_eq_true, decide_eq_true_eq] at hg'
  refine (terms10 ls (by omega)).bind (g := fun k t => (PA.elenchusref05_Few.f t).bind fun u => some u) (Ev.const.congr fun k => ?_)
  simp [PA.elenchusref05_Few.f, ofSL_toSL, hg'.2, few16B, hf, hg]
theorem Tm.size_mem {t : Tm} {l : List Tm} (h : t ∈ l) : t.size ≤ Tm.sizes l := by
  obtain ⟨i, hi, rfl⟩ := List.getElem_of_mem h
  exact Tm.size_get l i hi
theorem few10_sizes {ls : List Lt} (h : few10B ls = true) : ls.length ≤ 40 ∧ ∀ x ∈ ls, x.l.size ≤ 500 ∧ x.r.size ≤ 500 := by
  simp only [few10B, Bool.and_eq_true, decide_eq_true_eq] at h
  have hs := fewS_sizes h.2
  refine ⟨h.1, fun x hx => ?_⟩
  have hm := sidesOf_mem hx
  have h1 := Tm.size_mem hm.1
  have h2 := Tm.size_mem hm.2
  omega
theorem bytes_loop (bs : ByteArray) : ∀ (d i : Nat) (r : List UInt8), i + d = bs.size → ByteArray.toList.loop bs i r = r.reverse ++ bs.data.toList.drop i
  | 0, i, r, h => by
    rw [ByteArray.toList.loop, if_neg (by omega), List.drop_eq_nil_of_le (by have : bs.data.toList.length = bs.size := rfl; omega)]; simp
  | d + 1, i, r, h => by
    have hl : bs.data.toList.length = bs.size := rfl
    have hi : i < bs.data.toList.length := by omega
    rw [ByteArray.toList.loop, if_pos (by omega), bytes_loop bs d (i + 1) _ (by omega), List.drop_eq_getElem_cons hi]
    have : bs.get! i = bs.data.toList[i] := by
      simp only [ByteArray.get!]
      rw [getElem!_pos bs.data i (by simpa using hi)]; rfl
    simp [this]
theorem bytes_data (bs : ByteArray) : bs.toList = bs.data.toList := by
  have := bytes_loop bs bs.size 0 [] (by omega)
  simpa [ByteArray.toList] using this
theorem bytes_empty (b : ByteArray) : b.toList.isEmpty = decide (b.size < 1) := by
  rw [bytes_data]
  have hl : b.data.toList.length = b.size := rfl
  cases h : b.data.toList with
  | nil =>
    have h2 : b.size = 0 := by rw [← hl, h]; rfl
    rw [decide_eq_true (by omega)]; rfl
  | cons x r =>
    have h2 : b.size = r.length + 1 := by rw [← hl, h]; rfl
    rw [decide_eq_false (by omega)]; rfl
theorem right7_l1 (gs : List Sy) (hl : gs.length ≤ 1000) (i : Nat) (hi : i < gs.length) (rest : Bool) (hr : Ev (fun k => PA.elenchusref07_Right.l0 k (toGL gs) ((i + 1 : Nat) : Int)) rest) :
    ∀ (d j : Nat), j + d = i → Ev (fun k => PA.elenchusref07_Right.l1 k (toGL gs) (i : Int) (j : Int) gs[i].name gs[i].ar gs[i].wt gs[i].tr) (!((gs.take i).drop j).any (sameN gs[i]) && rest)
  | 0, j, hj => by
    rw [List.drop_eq_nil_of_le (by simp; omega)]
    refine Ev.step (f := fun k => PA.elenchusref07_Right.l0 k (toGL gs) ((i + 1 : Nat) : Int)) (by simpa using hr) fun k => ?_
    rw [PA.elenchusref07_Right.l1, if_neg (by omega), wrap_next (by omega) (by omega)]; rfl
  | d + 1, j, hj => by
    have hlt : j < gs.length := by omega
    have hrec := right7_l1 gs hl i hi rest hr d (j + 1) (by omega)
    rw [List.drop_eq_getElem_cons (by simp; omega), List.any_cons, List.getElem_take]
    have e : ((toG gs[j]).f0) = gs[j].name := rfl
    by_cases hn : sameN gs[i] gs[j] = true
    · rw [hn, Bool.true_or, Bool.not_true, Bool.false_and]
      refine Ev.const.step fun k => ?_
      rw [PA.elenchusref07_Right.l1, if_pos (by omega), if_pos (by omega), if_pos (by rw [toGL_length]; omega), rdG_nat gs j hlt, e, if_pos (by simpa [sameN] using hn)]
    · have hn' : sameN gs[i] gs[j] = false := by simpa using hn
      rw [hn', Bool.false_or]
      refine hrec.step fun k => ?_
      rw [PA.elenchusref07_Right.l1, if_pos (by omega), if_pos (by omega), if_pos (by rw [toGL_length]; omega), rdG_nat gs j hlt, e, if_neg (by simpa [sameN] using hn), wrap_next (by omega) (by omega)]; rfl
theorem right7_l0 (gs : List Sy) (hl : gs.length ≤ 1000) (h0 : 0 < gs.length) : ∀ (d i : Nat), i + d = gs.length → Ev (fun k => PA.elenchusref07_Right.l0 k (toGL gs) (i : Int)) (symsOk (gs.take i) (gs.drop i) && isTrueS gs[0])
  | 0, i, hi => by
    rw [List.drop_eq_nil_of_le (by omega), symsOk, Bool.true_and]
    refine Ev.const.step fun k => ?_
    have e := rdG_nat gs 0 h0
    rw [PA.elenchusref07_Right.l0, if_neg (by rw [toGL_length]; omega), if_pos (by rw [toGL_length]; omega), show ((0 : Int)) = ((0 : Nat) : Int) from rfl, e]
    have e2 : trueN.toList = [36, 116, 114, 117, 101] := by rw [bytes_data]; rfl
    simp [isTrueS, e2, toG]
  | d + 1, i, hi => by
    have hlt : i < gs.length := by omega
    have hrec := right7_l0 gs hl h0 d (i + 1) (by omega)
    rw [symsOk_drop gs i hlt, Bool.and_assoc]
    generalize (symsOk (gs.take (i + 1)) (gs.drop (i + 1)) && isTrueS gs[0]) = rest at hrec ⊢
    have h1 := right7_l1 gs hl i hlt rest hrec i 0 (by omega)
    rw [List.drop_zero] at h1
    have hj : ∀ b : Bool, Ev (fun k => PA.elenchusref07_Right.j2 k (toGL gs) (i : Int) b gs[i].name gs[i].ar gs[i].wt gs[i].tr) (!b && (!(gs.take i).any (sameN gs[i]) && rest)) := fun b => by
      cases b
      · refine Ev.step (f := fun k => PA.elenchusref07_Right.l1 k (toGL gs) (i : Int) ((0 : Nat) : Int) gs[i].name gs[i].ar gs[i].wt gs[i].tr) (by simpa using h1) fun k => ?_
        rw [PA.elenchusref07_Right.j2, if_neg (by simp)]; rfl
      · refine Ev.const.step fun k => ?_
        rw [PA.elenchusref07_Right.j2, if_pos rfl]; rfl
    have e0 : (toG gs[i]).f0 = gs[i].name := rfl
    have e1 : (toG gs[i]).f1 = gs[i].ar := rfl
    have e2 : (toG gs[i]).f2 = gs[i].wt := rfl
    have e3 : (toG gs[i]).f3 = gs[i].tr := rfl
    have hb := bytes_empty gs[i].name
    generalize hP : (gs.take i).any (sameN gs[i]) = P at *
    have key : (symOk (gs.take i) gs[i] && rest) = (!(decide (gs[i].name.size < 1) || decide (gs[i].name.size > 64) || decide (gs[i].ar < 0) || decide (gs[i].ar > 8) || decide (gs[i].wt < 1) || decide (gs[i].wt > 1000)) && (!P && rest)) := by
      rw [symOk, hb, hP]
      have d1 : decide (gs[i].name.size > 64) = !decide (gs[i].name.size ≤ 64) := by by_cases h : gs[i].name.size ≤ 64 <;> simp [h] <;> omega
      have d2 : decide (gs[i].ar < 0) = !decide (0 ≤ gs[i].ar) := by by_cases h : 0 ≤ gs[i].ar <;> simp [h] <;> omega
      have d3 : decide (gs[i].ar > 8) = !decide (gs[i].ar ≤ 8) := by by_cases h : gs[i].ar ≤ 8 <;> simp [h] <;> omega
      have d4 : decide (gs[i].wt < 1) = !decide (1 ≤ gs[i].wt) := by by_cases h : 1 ≤ gs[i].wt <;> simp [h] <;> omega
      have d5 : decide (gs[i].wt > 1000) = !decide (gs[i].wt ≤ 1000) := by by_cases h : gs[i].wt ≤ 1000 <;> simp [h] <;> omega
      rw [d1, d2, d3, d4, d5]
      cases decide (gs[i].name.size < 1) <;> cases decide (gs[i].name.size ≤ 64) <;> cases decide (0 ≤ gs[i].ar) <;> cases decide (gs[i].ar ≤ 8) <;> cases decide (1 ≤ gs[i].wt) <;> cases decide (gs[i].wt ≤ 1000) <;> cases P <;> cases rest <;> rfl
    rw [key]
    refine (hj (decide (gs[i].name.size < 1) || decide (gs[i].name.size > 64) || decide (gs[i].ar < 0) || decide (gs[i].ar > 8) || decide (gs[i].wt < 1) || decide (gs[i].wt > 1000))).step fun k => ?_
    rw [PA.elenchusref07_Right.l0, if_pos (by rw [toGL_length]; omega), if_pos (by omega), rdG_nat gs i hlt, e0, e1, e2, e3]
    by_cases c1 : ((gs[i].name.size : Int) < 1)
    · rw [if_pos c1, decide_eq_true (show gs[i].name.size < 1 by omega)]; simp
    rw [if_neg c1, decide_eq_false (show ¬ gs[i].name.size < 1 by omega)]
    by_cases c2 : ((gs[i].name.size : Int) > 64)
    · rw [if_pos c2, decide_eq_true (show gs[i].name.size > 64 by omega)]; simp
    rw [if_neg c2, decide_eq_false (show ¬ gs[i].name.size > 64 by omega)]
    by_cases c3 : gs[i].ar < 0
    · rw [if_pos c3, decide_eq_true c3]; simp
    rw [if_neg c3, decide_eq_false c3]
    by_cases c4 : gs[i].ar > 8
    · rw [if_pos c4, decide_eq_true c4]; simp
    rw [if_neg c4, decide_eq_false c4]
    by_cases c5 : gs[i].wt < 1
    · rw [if_pos c5, decide_eq_true c5]; simp
    rw [if_neg c5, decide_eq_false c5]
    simp
theorem right7 (gs : List Sy) (h9 : gs.length ≤ 9223372036854775807) : Ev (fun k => PA.elenchusref07_Right.f k (toGL gs)) (decide (weighC gs = 0)) := by
  unfold PA.elenchusref07_Right.f
  have hL : ((toGL gs).length : Int) = (gs.length : Int) := by rw [toGL_length]
  rw [hL]
  cases gs with
  | nil =>
    refine Ev.congr (Ev.const.step (g := fun k => PA.elenchusref07_Right.j0 k (toGL []) true) fun k => ?_) fun k => ?_
    · rw [PA.elenchusref07_Right.j0]; rfl
    · rw [if_pos (by simp)]
  | cons x r =>
    by_cases hl : r.length ≤ 255
    · have h := right7_l0 (x :: r) (by simp; omega) (by simp) (x :: r).length 0 (by omega)
      rw [List.take_zero, List.drop_zero, List.getElem_cons_zero] at h
      have hv : (symsOk [] (x :: r) && isTrueS x) = decide (weighC (x :: r) = 0) := by
        simp only [weighC]
        by_cases h1 : symsOk [] (x :: r) = true <;> by_cases h2 : isTrueS x = true <;> simp [h1, h2, hl]
      rw [hv] at h
      refine Ev.congr (h.step (g := fun k => PA.elenchusref07_Right.j0 k (toGL (x :: r)) false) fun k => ?_) fun k => ?_
      · rw [PA.elenchusref07_Right.j0]; rfl
      · rw [if_neg (by simp; omega), decide_eq_false (by simp; omega)]
    · have hv : decide (weighC (x :: r) = 0) = false := by simp [weighC, hl]
      rw [hv]
      refine Ev.congr (Ev.const.step (g := fun k => PA.elenchusref07_Right.j0 k (toGL (x :: r)) true) fun k => ?_) fun k => ?_
      · rw [PA.elenchusref07_Right.j0]; rfl
      · rw [if_neg (by simp; omega), decide_eq_true (by simp; omega)]
theorem weighC_or (gs : List Sy) : weighC gs = 0 ∨ weighC gs = 1 := by
  cases gs with
  | nil => exact .inr rfl
  | cons x r => simp only [weighC]; split <;> simp
theorem rdG_g (gs : List Sy) (h : Int) (h0 : 0 ≤ h) (h1 : h < (gs.length : Int)) : PA.rd_T148 (toGL gs) h = toG (gAt gs h) := by
  obtain ⟨n, rfl⟩ : ∃ n : Nat, h = n := ⟨h.toNat, by omega⟩
  rw [rdG_nat gs n (by omega)]
  simp [gAt, List.getD_eq_getElem?_getD, show n < gs.length by omega]
theorem unkL_drop (gs : List Sy) (l : List Tm) (i : Nat) (h : i < l.length) : unkL gs (l.drop i) = (unkT gs l[i] || unkL gs (l.drop (i + 1))) := by
  rw [List.drop_eq_getElem_cons h, unkL]
theorem mixL_drop (gs : List Sy) (l : List Tm) (i : Nat) (h : i < l.length) : mixL gs (l.drop i) = (mixT gs false l[i] || mixL gs (l.drop (i + 1))) := by
  rw [List.drop_eq_getElem_cons h, mixL]
theorem known7_l0 (gs : List Sy) (n0 : Nat) (ih : ∀ t : Tm, t.size ≤ n0 → t.good = true → Ev (fun k => PA.elenchusref07_known.f k (toGL gs) t.h (toSL t.args)) (!unkT gs t)) {h : Int} {l : List Tm} (hl : l.length ≤ 8) (hk : ∀ t, t ∈ l → t.size ≤ n0 ∧ t.good = true) :
    ∀ (d i : Nat), i + d = l.length → Ev (fun k => PA.elenchusref07_known.l0 k (toGL gs) (i : Int) h (toSL l)) (!unkL gs (l.drop i))
  | 0, i, hi => by
    rw [List.drop_eq_nil_of_le (by omega), unkL]
    refine Ev.const.step fun k => ?_
    rw [PA.elenchusref07_known.l0, if_neg (by rw [toSL_length]; omega)]; rfl
  | d + 1, i, hi => by
    have hlt : i < l.length := by omega
    obtain ⟨g1, g2⟩ := hk _ (List.getElem_mem hlt)
    have hrec := known7_l0 gs n0 ih (h := h) hl hk d (i + 1) (by omega)
    rw [unkL_drop gs l i hlt, Bool.not_or]
    refine ((ih l[i] g1 g2).bind (g := fun k v => if v = true then PA.elenchusref07_known.l0 k (toGL gs) ((i + 1 : Nat) : Int) h (toSL l) else some false) (r := !unkT gs l[i] && !unkL gs (l.drop (i + 1))) ?_).step fun k => ?_
    · cases hg : unkT gs l[i]
      · simpa using hrec
      · exact Ev.const.congr fun k => by simp
    rw [PA.elenchusref07_known.l0, if_pos (by rw [toSL_length]; omega), if_pos (by omega), rdT_nat l i hlt, toS_f0, toS_f1, wrap_next (by omega) (by omega)]; rfl
theorem known7_f (gs : List Sy) (n0 : Nat) : ∀ (t : Tm), t.size ≤ n0 → t.good = true → Ev (fun k => PA.elenchusref07_known.f k (toGL gs) t.h (toSL t.args)) (!unkT gs t) := by
  induction n0 with
  | zero => intro t ht; have := t.size_eq; omega
  | succ n0 ih =>
    intro t ht hg
    obtain ⟨hh, hl8, hkids⟩ := good_args hg
    have hsz := t.size_eq
    have h0 := known7_l0 gs n0 ih (h := t.h) (l := t.args) hl8 (fun u hu => by
      obtain ⟨i, hi, rfl⟩ := List.getElem_of_mem hu
      have := Tm.size_get t.args i hi
      exact ⟨by omega, hkids i hi⟩) t.args.length 0 (by omega)
    rw [List.drop_zero] at h0
    have hj : ∀ b : Bool, Ev (fun k => PA.elenchusref07_known.j0 k (toGL gs) b t.h (toSL t.args)) (!b && !unkL gs t.args) := fun b => by
      cases b
      · refine Ev.step (f := fun k => PA.elenchusref07_known.l0 k (toGL gs) ((0 : Nat) : Int) t.h (toSL t.args)) (by simpa using h0) fun k => ?_
        rw [PA.elenchusref07_known.j0, if_neg (by simp)]; rfl
      · refine Ev.const.step fun k => ?_
        rw [PA.elenchusref07_known.j0, if_pos rfl]; rfl
    rw [unkT_eq]
    by_cases hneg : t.h < 0
    · have ha : t.args = [] := by cases t; exact good_var hg hneg
      have hu : unkP gs t = false := by simp [unkP, hneg]
      rw [hu, ha, unkL]
      refine Ev.const.step fun k => ?_
      rw [PA.elenchusref07_known.f, if_pos hneg]; rfl
    · have hL : ((toGL gs).length : Int) = (gs.length : Int) := by rw [toGL_length]
      rw [Bool.not_or]
      refine (hj (unkP gs t)).step fun k => ?_
      rw [PA.elenchusref07_known.f, if_neg hneg, hL]
      by_cases c1 : t.h ≥ (gs.length : Int)
      · have hu : unkP gs t = true := by simp [unkP, hneg]; left; omega
        rw [if_pos c1, hu]
      · have hu : unkP gs t = decide ((t.args.length : Int) ≠ (gAt gs t.h).ar) := by
          have : decide ((gs.length : Int) ≤ t.h) = false := decide_eq_false (by omega)
          simp [unkP, hneg, this]
        rw [if_neg c1, if_pos (by omega), if_pos (by omega), rdG_g gs t.h (by omega) (by omega), hu]
        congr 1
        rw [toSL_length, show (toG (gAt gs t.h)).f1 = (gAt gs t.h).ar from rfl]
        by_cases c : (t.args.length : Int) = (gAt gs t.h).ar <;> simp [c]
theorem truth7 (gs : List Sy) (t : Tm) (h : t.h < (gs.length : Int)) : PA.elenchusref07_Truth.f (toGL gs) t.h (toSL t.args) = some (truthP gs t) := by
  unfold PA.elenchusref07_Truth.f
  have hL : ((toGL gs).length : Int) = (gs.length : Int) := by rw [toGL_length]
  rw [hL]
  by_cases c : t.h < 0
  · rw [if_neg (by omega)]; simp [truthP, c]
  · rw [if_pos (by omega), if_pos h, if_pos (by omega), rdG_g gs t.h (by omega) h]
    simp [truthP, c, toG]
theorem unkT_h {gs : List Sy} {t : Tm} (h : unkT gs t = false) : t.h < (gs.length : Int) := by
  rw [unkT_eq, Bool.or_eq_false_iff] at h
  by_cases hh : t.h < 0
  · omega
  · have h3 := h.1
    simp only [unkP, Bool.and_eq_false_imp, Bool.or_eq_false_iff, decide_eq_false_iff_not] at h3
    have := (h3 (by simp; omega)).1
    omega
theorem mixT_false {gs : List Sy} {t : Tm} (h : unkT gs t = false) : mixT gs false t = (truthP gs t || mixL gs t.args) := by
  rw [mixT_eq]
  congr 1
  rw [unkT_eq, Bool.or_eq_false_iff] at h
  simp [mixP, truthP, h.1]
theorem mixT_true (gs : List Sy) (t : Tm) : mixT gs true t = mixL gs t.args := by
  rw [mixT_eq]; simp [mixP]
theorem things7_l0 (gs : List Sy) (n0 : Nat) (ih : ∀ t : Tm, t.size ≤ n0 → t.good = true → unkT gs t = false → Ev (fun k => PA.elenchusref07_things.f k (toGL gs) t.h (toSL t.args)) (!mixL gs t.args)) {h : Int} {l : List Tm} (hl : l.length ≤ 8) (hk : ∀ t, t ∈ l → t.size ≤ n0 ∧ t.good = true ∧ unkT gs t = false) :
    ∀ (d i : Nat), i + d = l.length → Ev (fun k => PA.elenchusref07_things.l0 k (toGL gs) (i : Int) h (toSL l)) (!mixL gs (l.drop i))
  | 0, i, hi => by
    rw [List.drop_eq_nil_of_le (by omega), mixL]
    refine Ev.const.step fun k => ?_
    rw [PA.elenchusref07_things.l0, if_neg (by rw [toSL_length]; omega)]; rfl
  | d + 1, i, hi => by
    have hlt : i < l.length := by omega
    obtain ⟨g1, g2, g3⟩ := hk _ (List.getElem_mem hlt)
    have hrec := things7_l0 gs n0 ih (h := h) hl hk d (i + 1) (by omega)
    have htr := truth7 gs l[i] (unkT_h g3)
    have hj : ∀ b : Bool, Ev (fun k => PA.elenchusref07_things.j1 k (toGL gs) (i : Int) b h (toSL l)) (!b && !mixL gs (l.drop (i + 1))) := fun b => by
      cases b
      · refine Ev.step (f := fun k => PA.elenchusref07_things.l0 k (toGL gs) ((i + 1 : Nat) : Int) h (toSL l)) (by simpa using hrec) fun k => ?_
        rw [PA.elenchusref07_things.j1, if_neg (by simp), wrap_next (by omega) (by omega)]; rfl
      · refine Ev.const.step fun k => ?_
        rw [PA.elenchusref07_things.j1, if_pos rfl]; rfl
    rw [mixL_drop gs l i hlt, mixT_false g3]
    cases hc : truthP gs l[i]
    · rw [hc] at htr
      rw [Bool.false_or, Bool.not_or]
      refine ((ih l[i] g1 g2 g3).bind (g := fun k v => PA.elenchusref07_things.j1 k (toGL gs) (i : Int) (!v) h (toSL l)) (r := !mixL gs l[i].args && !mixL gs (l.drop (i + 1))) ?_).step fun k => ?_
      · simpa using hj (mixL gs l[i].args)
      rw [PA.elenchusref07_things.l0, if_pos (by rw [toSL_length]; omega), if_pos (by omega), rdT_nat l i hlt, toS_f0, toS_f1, htr, Option.bind_some, if_neg (by simp)]
    · rw [hc] at htr
      refine (hj true).step fun k => ?_
      rw [PA.elenchusref07_things.l0, if_pos (by rw [toSL_length]; omega), if_pos (by omega), rdT_nat l i hlt, toS_f0, toS_f1, htr, Option.bind_some, if_pos rfl]
theorem unkL_mem {gs : List Sy} : ∀ {l : List Tm}, unkL gs l = false → ∀ t ∈ l, unkT gs t = false
  | x :: l, h, t, ht => by
    rw [unkL, Bool.or_eq_false_iff] at h
    rcases List.mem_cons.1 ht with rfl | ht
    · exact h.1
    · exact unkL_mem h.2 t ht
theorem things7_f (gs : List Sy) (n0 : Nat) : ∀ (t : Tm), t.size ≤ n0 → t.good = true → unkT gs t = false → Ev (fun k => PA.elenchusref07_things.f k (toGL gs) t.h (toSL t.args)) (!mixL gs t.args) := by
  induction n0 with
  | zero => intro t ht; have := t.size_eq; omega
  | succ n0 ih =>
    intro t ht hg hu
    obtain ⟨hh, hl8, hkids⟩ := good_args hg
    have hsz := t.size_eq
    rw [unkT_eq, Bool.or_eq_false_iff] at hu
    have h0 := things7_l0 gs n0 ih (h := t.h) (l := t.args) hl8 (fun u hu' => by
      obtain ⟨i, hi, rfl⟩ := List.getElem_of_mem hu'
      have := Tm.size_get t.args i hi
      exact ⟨by omega, hkids i hi, unkL_mem hu.2 _ (List.getElem_mem hi)⟩) t.args.length 0 (by omega)
    rw [List.drop_zero] at h0
    exact h0.step fun k => by rw [PA.elenchusref07_things.f]; rfl
theorem chk_goodG {t : Tm} (h : chk t = 0) : t.good = true := by
  unfold chk at h
  split at h
  · contradiction
  split at h
  · contradiction
  split at h
  · assumption
  · contradiction
theorem term7 (gs : List Sy) (h9 : gs.length ≤ 9223372036854775807) (t : Tm) (hs : t.size ≤ 1000000000) : Ev (fun k => PA.elenchusref07_Term.f k (toGL gs) t.h (toSL t.args)) (termC gs t) := by
  unfold PA.elenchusref07_Term.f
  refine (right7 gs h9).bind (g := fun k v => if v = true then ((PA.elenchusref01_Check.f k t.h (toSL t.args)).bind fun t651 => (if t651 = 0 then ((PA.elenchusref07_known.f k (toGL gs) t.h (toSL t.args)).bind fun t652 => (if t652 = true then ((PA.elenchusref07_things.f k (toGL gs) t.h (toSL t.args)).bind fun t653 => (if t653 = true then (some 0) else (some 10))) else (some 1))) else (some t651))) else (some 1)) ?_
  unfold termC
  rcases weighC_or gs with hw | hw
  rotate_left
  · rw [hw, if_pos (by decide)]
    exact Ev.const.congr fun k => by simp
  rw [hw, if_neg (by simp)]
  simp only [decide_true, if_true]
  refine (refcheckG hs).bind (g := fun k t651 => (if t651 = 0 then ((PA.elenchusref07_known.f k (toGL gs) t.h (toSL t.args)).bind fun t652 => (if t652 = true then ((PA.elenchusref07_things.f k (toGL gs) t.h (toSL t.args)).bind fun t653 => (if t653 = true then (some 0) else (some 10))) else (some 1))) else (some t651))) ?_
  by_cases hc : chk t = 0
  rotate_left
  · rw [if_pos hc]
    exact Ev.const.congr fun k => by rw [if_neg hc]
  rw [if_neg (by simpa using hc), hc]
  simp only [if_true]
  have hg := chk_goodG hc
  refine (known7_f gs _ t (Nat.le_refl _) hg).bind (g := fun k t652 => (if t652 = true then ((PA.elenchusref07_things.f k (toGL gs) t.h (toSL t.args)).bind fun t653 => (if t653 = true then (some 0) else (some 10))) else (some 1))) ?_
  cases hu : unkT gs t
  rotate_left
  · exact Ev.const.congr fun k => by simp
  simp only [Bool.not_false, if_true]
  refine (things7_f gs _ t (Nat.le_refl _) hg hu).bind (g := fun k t653 => (if t653 = true then (some 0) else (some 10))) ?_
  rw [mixT_true]
  cases mixL gs t.args
  · exact Ev.const.congr fun k => by simp
  · exact Ev.const.congr fun k => by simp
theorem check9 (gs : List Sy) (h9 : gs.length ≤ 9223372036854775807) (x : Lt) (hs : x.l.size ≤ 1000000000 ∧ x.r.size ≤ 1000000000) : Ev (fun k => PA.elenchusref09_Check.f k (toGL gs) x.neg x.l.h (toSL x.l.args) x.r.h (toSL x.r.args)) (litC gs x) := by
  unfold PA.elenchusref09_Check.f
  have hj : ∀ b : Bool, Ev (fun k => PA.elenchusref09_Check.j0 k b) (if b = true then 10 else 0) := fun b => by
    refine Ev.const.step fun k => ?_
    rw [PA.elenchusref09_Check.j0]; cases b <;> rfl
  refine (term7 gs h9 x.l hs.1).bind (g := fun k t655 => (if t655 = 0 then ((PA.elenchusref07_Term.f k (toGL gs) x.r.h (toSL x.r.args)).bind fun t656 => (if t656 = 0 then ((PA.elenchusref07_Truth.f (toGL gs) x.l.h (toSL x.l.args)).bind fun t657 => (if t657 = true then (if x.r.h = 0 then (PA.elenchusref09_Check.j0 k false) else (PA.elenchusref09_Check.j0 k true)) else ((PA.elenchusref07_Truth.f (toGL gs) x.r.h (toSL x.r.args)).bind fun t658 => (PA.elenchusref09_Check.j0 k t658)))) else (some t656))) else (some t655))) ?_
  unfold litC
  by_cases h1 : termC gs x.l = 0
  rotate_left
  · rw [if_pos h1]
    exact Ev.const.congr fun k => by rw [if_neg h1]
  rw [if_neg (by simpa using h1), h1]
  simp only [if_true]
  refine (term7 gs h9 x.r hs.2).bind (g := fun k t656 => (if t656 = 0 then ((PA.elenchusref07_Truth.f (toGL gs) x.l.h (toSL x.l.args)).bind fun t657 => (if t657 = true then (if x.r.h = 0 then (PA.elenchusref09_Check.j0 k false) else (PA.elenchusref09_Check.j0 k true)) else ((PA.elenchusref07_Truth.f (toGL gs) x.r.h (toSL x.r.args)).bind fun t658 => (PA.elenchusref09_Check.j0 k t658)))) else (some t656))) ?_
  by_cases h2 : termC gs x.r = 0
  rotate_left
  · rw [if_pos h2]
    exact Ev.const.congr fun k => by rw [if_neg h2]
  rw [if_neg (by simpa using h2), h2]
  simp only [if_true]
  rw [truth7 gs x.l (termC_h h1), truth7 gs x.r (termC_h h2)]
  simp only [Option.bind_some]
  unfold sortC
  cases hl : truthP gs x.l
  · refine (hj (truthP gs x.r)).congr fun k => ?_
    simp
  · by_cases hr : x.r.h = 0
    · simpa [hr] using hj false
    · simpa [hr] using hj true
theorem check10_l0 (gs : List Sy) (h9 : gs.length ≤ 9223372036854775807) (ls : List Lt) (hl : ls.length ≤ 1000) (ho : LtsOk ls) : ∀ (d i : Nat), i + d = ls.length → Ev (fun k => PA.elenchusref10_Check.l0 k (toGL gs) (toLL ls) (i : Int)) (litsC gs (ls.drop i))
  | 0, i, hi => by
    rw [List.drop_eq_nil_of_le (by omega), litsC]
    refine Ev.const.step fun k => ?_
    rw [PA.elenchusref10_Check.l0, if_neg (by rw [toLL_length]; omega)]
  | d + 1, i, hi => by
    have hlt : i < ls.length := by omega
    have hrec := check10_l0 gs h9 ls hl ho d (i + 1) (by omega)
    rw [List.drop_eq_getElem_cons hlt, litsC]
    refine ((check9 gs h9 ls[i] (ho _ (List.getElem_mem hlt))).bind (g := fun k v => if v = 0 then PA.elenchusref10_Check.l0 k (toGL gs) (toLL ls) ((i + 1 : Nat) : Int) else some v) (r := if litC gs ls[i] ≠ 0 then litC gs ls[i] else litsC gs (ls.drop (i + 1))) ?_).step fun k => ?_
    · by_cases hc : litC gs ls[i] = 0
      · rw [if_neg (by simpa using hc), hc]
        simpa using hrec
      · rw [if_pos hc]
        exact Ev.const.congr fun k => by rw [if_neg hc]
    rw [PA.elenchusref10_Check.l0, if_pos (by rw [toLL_length]; omega), if_pos (by omega), rdL_nat ls i hlt, toLt_f0, toLt_f1, toLt_f2, toS_f0, toS_f1, toS_f0, toS_f1, wrap_next (by omega) (by omega)]; rfl
theorem check10 (gs : List Sy) (h9 : gs.length ≤ 9223372036854775807) (ls : List Lt) (ho : LtsOk ls) : Ev (fun k => PA.elenchusref10_Check.f k (toGL gs) (toLL ls)) (clauseC gs ls) := by
  unfold PA.elenchusref10_Check.f
  refine (right7 gs h9).bind (g := fun k v => if v = true then (if ((toLL ls).length : Int) > 32 then (some 2) else (PA.elenchusref10_Check.l0 k (toGL gs) (toLL ls) 0)) else (some 1)) ?_
  unfold clauseC
  rcases weighC_or gs with hw | hw
  rotate_left
  · rw [hw, if_pos (by decide)]
    exact Ev.const.congr fun k => by simp
  rw [hw, if_neg (by simp)]
  simp only [decide_true, if_true]
  have hL : ((toLL ls).length : Int) = (ls.length : Int) := by rw [toLL_length]
  by_cases hl : 32 < ls.length
  · rw [if_pos hl]
    exact Ev.const.congr fun k => by rw [hL, if_pos (by omega)]
  · rw [if_neg hl]
    have h := check10_l0 gs h9 ls (by omega) ho ls.length 0 (by omega)
    rw [List.drop_zero] at h
    exact h.congr fun k => by rw [hL, if_neg (by omega)]; rfl
end Go.Proofs.Ythplndalbfcbbaa
