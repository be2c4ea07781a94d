/- What the proof of the law rests on: contracts of the functions, plain laws, and words. -/
import Derived.Test.YthplndalbfcbbaaKUnifyRowsL0
import Derived.Test.YthplndalbfcbbaaKUnifyRowsL1
import Derived.Test.YthplndalbfcbbaaKUnifyRowsG12
import Derived.Test.YthplndalbfcbbaaKUnifyRowsG9
import Derived.Test.YthplndalbfcbbaaKUnifyRowsG11
import Derived.Test.YthplndalbfcbbaaKUnifyRowsG7
import Derived.Test.YthplndalbfcbbaaKUnifyRowsXUnifyT
import Derived.Test.YthplndalbfcbbaaKUnifyRowsG6
namespace Go.Proofs.Ythplndalbfcbbaa.PA
open Go.RowKit Go.Proofs.YthplndalbfcbbaaW.PrintWords Go.Proofs.YthplndalbfcbbaaW.PrintLast Go.Proofs.YthplndalbfcbbaaW.PrintMore
attribute [local go_sem] max2_int min2_int max_two min_two max_three min_three max_four min_four   -- for this text's walks alone
set_option linter.unusedVariables false
set_option linter.unusedSimpArgs false
mutual
def elenchusref04_All.j0 : Nat → List (S25) → List (S25) → Bool → Option ((List (S60)) × Bool × Int)
  | 0, _, _, _ => none
  | k + 1, x0, x1, x27 => if x27 = true then (some (([] : List (S60)), false, 1)) else (elenchusref04_All.l0 k x0 x1 ([] : List (S135)) 0)
def elenchusref04_All.l0 : Nat → List (S25) → List (S25) → List (S135) → Int → Option ((List (S60)) × Bool × Int)
  | 0, _, _, _, _ => none
  | k + 1, x0, x1, x7, x8 => if x8 < (x0.length : Int) then (if 0 ≤ x8 then (if x8 < (x1.length : Int) then (if x7.length < 2199023255552 then (elenchusref04_All.l0 k x0 x1 (x7 ++ [(⟨(⟨(rd_T25 x0 x8).f0, (rd_T25 x0 x8).f1⟩ : S25), (⟨(rd_T25 x1 x8).f0, (rd_T25 x1 x8).f1⟩ : S25)⟩ : S135)]) (wrap64 (x8 + 1))) else (none)) else (none)) else (none)) else ((elenchusref04_solve.f k x7).bind fun bt404 => (elenchusref04_All.l1 k bt404.1 bt404.2 0))
def elenchusref04_All.l1 : Nat → List (S60) → Bool → Int → Option ((List (S60)) × Bool × Int)
  | 0, _, _, _ => none
  | k + 1, x9, x10, x11 => if x11 < (x9.length : Int) then (if 0 ≤ x11 then ((elenchusref01_Check.f k ((rd_T60 x9 x11).f1.f0) ((rd_T60 x9 x11).f1.f1)).bind fun t409 => (if t409 = 0 then (elenchusref04_All.l1 k x9 x10 (wrap64 (x11 + 1))) else (some (([] : List (S60)), false, t409)))) else (none)) else (some (x9, x10, 0))
end
def elenchusref04_All.f (k : Nat) (l0 : List (S25)) (l1 : List (S25)) : Option ((List (S60)) × Bool × Int) := (elenchusref01_All.f l0).bind fun t397 => (if t397 = true then ((elenchusref01_All.f l1).bind fun t398 => (if t398 = true then (elenchusref04_All.j0 k l0 l1 ((l0.length : Int) != (l1.length : Int))) else (elenchusref04_All.j0 k l0 l1 true))) else (elenchusref04_All.j0 k l0 l1 true))
def elenchusref04_All.T7 : Bool × List (List Nat × List Nat) := (true, [([], []), ([], []), ([], []), ([1, 2], [1, 2]), ([3], [3]), ([], []), ([], []), ([5, 6], [5, 6]), ([7], [7]), ([4, 8], [4, 8]), ([9], [9]), ([0, 10], [0, 10]), ([11, 11, 0, 1, 2, 3, 4, 5, 6, 7, 8, 9, 10, 11], [0, 11])])
def elenchusref04_All.B7 : List Nat := [0, 0, 0, 6, 14, 0, 0, 96, 224, 510, 1022, 2047, 4095]
theorem elenchusref04_All.tab7 : rtab .any (opsOf Try.f59 7) = elenchusref04_All.T7 := by kernel_rfl
theorem elenchusref04_All.bits7 : waitsOk elenchusref04_All.T7.2 elenchusref04_All.B7 = true := by kernel_rfl
set_option maxHeartbeats 8000000 in
set_option maxRecDepth 100000 in
theorem elenchusref04_All.calls (k : Nat) (P0_ : Nat → Prop) (A0 : Option Addr) (c0 : Nat) (l0 : List (S25)) (P1_ : Nat → Prop) (A1 : Option Addr) (c1 : Nat) (l1 : List (S25)) (r1 : List (S60)) (r2 : Bool) (r3 : Int) (w : World) (hs0 : Kd.V k25 25 w w.heap.size (fun k_ => P0_ k_) (.slice A0 l0.length c0) l0) (hs1 : Kd.V k25 25 w w.heap.size (fun k_ => P1_ k_) (.slice A1 l1.length c1) l1) (h : elenchusref04_All.f k l0 l1 = some (r1, r2, r3)) :
    Calls Try.prog 59 #[.slice A0 l0.length c0, .slice A1 l1.length c1] w fun e w' => ∃ v0_ : Value, e = .returned (.tuple #[v0_, .bool r2, .int .i64 r3]) ∧ Kd.N k60 60 w' w.heap.size (fun k_ => ((P0_ k_ ∨ P1_ k_) ∨ w.heap.size ≤ k_)) v0_ r1 ∧ Below w.heap.size w w' := by
  have hu25 := Try.underlying25
  have hu135 := Try.underlying135
  have HO0 := Aside0.mk (show Kd.V k25 25 w w.heap.size (fun k_ => ((P0_ k_ ∨ P1_ k_) ∨ w.heap.size ≤ k_)) (.slice A0 l0.length c0) l0 from Kd.V_mono hs0 (fun k_ hk => .inl (.inl hk)))
  have HO1 := Aside0.mk (show Kd.V k25 25 w w.heap.size (fun k_ => ((P0_ k_ ∨ P1_ k_) ∨ w.heap.size ≤ k_)) (.slice A1 l1.length c1) l1 from Kd.V_mono hs1 (fun k_ hk => .inl (.inr hk)))
  have HB := Aside0.mk (Below.refl w.heap.size w)
  have H : ((elenchusref01_All.f l0).bind fun t397 => (if t397 = true then ((elenchusref01_All.f l1).bind fun t398 => (if t398 = true then (elenchusref04_All.j0 k l0 l1 ((l0.length : Int) != (l1.length : Int))) else (elenchusref04_All.j0 k l0 l1 true))) else (elenchusref04_All.j0 k l0 l1 true))) = some (r1, r2, r3) := h
  clear h
  have HC3 := Aside0.mk H
  clear H
  go_enter Try.func59, Try.ntmps59
  go_upto_region 1 with (fail)
  go_cut [27] (fun v27 wc => ∃ (kq : Nat) (x27_2 : Bool), v27 = .bool x27_2 ∧ Aside0 (elenchusref04_All.j0 kq l0 l1 x27_2 = some (r1, r2, r3)) ∧ Aside0 (kq ≤ k) ∧ Aside0 (Kd.V k25 25 wc w.heap.size (fun k_ => ((P0_ k_ ∨ P1_ k_) ∨ w.heap.size ≤ k_)) (.slice A0 l0.length c0) l0) ∧ Aside0 (Kd.V k25 25 wc w.heap.size (fun k_ => ((P0_ k_ ∨ P1_ k_) ∨ w.heap.size ≤ k_)) (.slice A1 l1.length c1) l1) ∧ Aside0 (Below w.heap.size w wc))
  case first =>
    have H := HC3.out
    clear HC3
    replace H := Option.bind_eq_some_iff.mp H
    obtain ⟨t397, A40, H⟩ := H
    replace H : (if t397 = true then ((elenchusref01_All.f l1).bind fun t398 => (if t398 = true then (elenchusref04_All.j0 k l0 l1 ((l0.length : Int) != (l1.length : Int))) else (elenchusref04_All.j0 k l0 l1 true))) else (elenchusref04_All.j0 k l0 l1 true)) = some (r1, r2, r3) := H
    have A4 := Aside0.mk A40
    clear A40
    by_cases c5 : t397 = true
    · subst c5
      have H1 : ((elenchusref01_All.f l1).bind fun t398 => (if t398 = true then (elenchusref04_All.j0 k l0 l1 ((l0.length : Int) != (l1.length : Int))) else (elenchusref04_All.j0 k l0 l1 true))) = some (r1, r2, r3) := by rw [if_pos rfl] at H; exact H
      clear H
      have H := H1
      clear H1
      replace H := Option.bind_eq_some_iff.mp H
      obtain ⟨t398, A60, H⟩ := H
      replace H : (if t398 = true then (elenchusref04_All.j0 k l0 l1 ((l0.length : Int) != (l1.length : Int))) else (elenchusref04_All.j0 k l0 l1 true)) = some (r1, r2, r3) := H
      have A6 := Aside0.mk A60
      clear A60
      by_cases c7 : t398 = true
      · subst c7
        have H1 : (elenchusref04_All.j0 k l0 l1 ((l0.length : Int) != (l1.length : Int))) = some (r1, r2, r3) := by rw [if_pos rfl] at H; exact H
        clear H
        have H := H1
        clear H1
        have H' := Aside0.mk H
        clear H
        go_wp2_with (first | ((with_reducible refine gate_callee (f := 100) rfl ?_); refine goesL_ (some 14) rfl rfl Try.func100 (by kernel_rfl) rfl #[.slice A0 l0.length c0] rfl (by (try simp only [List.map_toArray, List.map_cons, List.map_nil]); first | done | rfl | (simp only [List.length_drop, List.length_take]; rfl)) ?_; (with_reducible refine (elenchusref01_All.calls _ _ l0 true _ ?side1 ?side2 A4.out).mono ?_); (case side1 => repeat (first | exact (Kd.V_reads' HO0.out).2.2 | (with_reducible refine Kd.C_alloc ?_ _) | (with_reducible refine Kd.C_drewN ?_ _) | (with_reducible refine Kd.C_drew ?_))); (case side2 => exact (Kd.V_reads' HO0.out).2.1); rintro e w8 ⟨rfl, hb⟩; refine ⟨_, rfl, ?_⟩; have n0_ := Aside0.mk (Kd.V_below (by (with_reducible repeat (first | apply Kd.V_alloc | apply Kd.V_drewN | apply Kd.V_drew)); exact HO0.out) hb); have n1_ := Aside0.mk (Kd.V_below (by (with_reducible repeat (first | apply Kd.V_alloc | apply Kd.V_drewN | apply Kd.V_drew)); exact HO1.out) hb); have n2_ := Aside0.mk (below_step (by repeat (first | (with_reducible first | exact HB.out | apply below_alloc | apply pw_below_drewN | apply below_drew1) | exact HB.out)) hb); clear HO0; clear HO1; clear HB; have HO0 := n0_; have HO1 := n1_; have HB := n2_; clear n0_ n1_ n2_; (try clear hb); (try clear hb2); (try clear hk); (try clear hi)) | (go_at_call 100; (with_reducible refine (elenchusref01_All.calls _ _ l1 true _ ?side1 ?side2 A6.out).mono ?_); (case side1 => repeat (first | exact (Kd.V_reads' HO1.out).2.2 | (with_reducible refine Kd.C_alloc ?_ _) | (with_reducible refine Kd.C_drewN ?_ _) | (with_reducible refine Kd.C_drew ?_))); (case side2 => exact (Kd.V_reads' HO1.out).2.1); rintro e w9 ⟨rfl, hb⟩; have n0_ := Aside0.mk (Kd.V_below (by (with_reducible repeat (first | apply Kd.V_alloc | apply Kd.V_drewN | apply Kd.V_drew)); exact HO0.out) hb); have n1_ := Aside0.mk (Kd.V_below (by (with_reducible repeat (first | apply Kd.V_alloc | apply Kd.V_drewN | apply Kd.V_drew)); exact HO1.out) hb); have n2_ := Aside0.mk (below_step (by repeat (first | (with_reducible first | exact HB.out | apply below_alloc | apply pw_below_drewN | apply below_drew1) | exact HB.out)) hb); clear HO0; clear HO1; clear HB; have HO0 := n0_; have HO1 := n1_; have HB := n2_; clear n0_ n1_ n2_; (try clear hb); (try clear hb2); (try clear hk); (try clear hi)))
        go_meet
        case rel => exact ⟨_, (((l0.length : Int) != (l1.length : Int))), (by first | rfl | (simp; done) | (simp [*]; done)), H', ⟨by first | omega | exact Nat.le_refl _⟩, ⟨by (with_reducible repeat (first | apply Kd.V_alloc | apply Kd.V_drewN | apply Kd.V_drew)); exact HO0.out⟩, ⟨by (with_reducible repeat (first | apply Kd.V_alloc | apply Kd.V_drewN | apply Kd.V_drew)); exact HO1.out⟩, ⟨by repeat (first | (with_reducible first | exact HB.out | apply below_alloc | apply pw_below_drewN | apply below_drew1) | exact HB.out)⟩⟩
      · replace c7 := Bool.eq_false_iff.mpr c7
        subst c7
        have H1 : (elenchusref04_All.j0 k l0 l1 true) = some (r1, r2, r3) := by rw [if_neg (show ¬ (false = true) by decide)] at H; exact H
        clear H
        have H := H1
        clear H1
        have H' := Aside0.mk H
        clear H
        go_wp2_with (first | ((with_reducible refine gate_callee (f := 100) rfl ?_); refine goesL_ (some 14) rfl rfl Try.func100 (by kernel_rfl) rfl #[.slice A0 l0.length c0] rfl (by (try simp only [List.map_toArray, List.map_cons, List.map_nil]); first | done | rfl | (simp only [List.length_drop, List.length_take]; rfl)) ?_; (with_reducible refine (elenchusref01_All.calls _ _ l0 true _ ?side1 ?side2 A4.out).mono ?_); (case side1 => repeat (first | exact (Kd.V_reads' HO0.out).2.2 | (with_reducible refine Kd.C_alloc ?_ _) | (with_reducible refine Kd.C_drewN ?_ _) | (with_reducible refine Kd.C_drew ?_))); (case side2 => exact (Kd.V_reads' HO0.out).2.1); rintro e w10 ⟨rfl, hb⟩; refine ⟨_, rfl, ?_⟩; have n0_ := Aside0.mk (Kd.V_below (by (with_reducible repeat (first | apply Kd.V_alloc | apply Kd.V_drewN | apply Kd.V_drew)); exact HO0.out) hb); have n1_ := Aside0.mk (Kd.V_below (by (with_reducible repeat (first | apply Kd.V_alloc | apply Kd.V_drewN | apply Kd.V_drew)); exact HO1.out) hb); have n2_ := Aside0.mk (below_step (by repeat (first | (with_reducible first | exact HB.out | apply below_alloc | apply pw_below_drewN | apply below_drew1) | exact HB.out)) hb); clear HO0; clear HO1; clear HB; have HO0 := n0_; have HO1 := n1_; have HB := n2_; clear n0_ n1_ n2_; (try clear hb); (try clear hb2); (try clear hk); (try clear hi)) | (go_at_call 100; (with_reducible refine (elenchusref01_All.calls _ _ l1 false _ ?side1 ?side2 A6.out).mono ?_); (case side1 => repeat (first | exact (Kd.V_reads' HO1.out).2.2 | (with_reducible refine Kd.C_alloc ?_ _) | (with_reducible refine Kd.C_drewN ?_ _) | (with_reducible refine Kd.C_drew ?_))); (case side2 => exact (Kd.V_reads' HO1.out).2.1); rintro e w11 ⟨rfl, hb⟩; have n0_ := Aside0.mk (Kd.V_below (by (with_reducible repeat (first | apply Kd.V_alloc | apply Kd.V_drewN | apply Kd.V_drew)); exact HO0.out) hb); have n1_ := Aside0.mk (Kd.V_below (by (with_reducible repeat (first | apply Kd.V_alloc | apply Kd.V_drewN | apply Kd.V_drew)); exact HO1.out) hb); have n2_ := Aside0.mk (below_step (by repeat (first | (with_reducible first | exact HB.out | apply below_alloc | apply pw_below_drewN | apply below_drew1) | exact HB.out)) hb); clear HO0; clear HO1; clear HB; have HO0 := n0_; have HO1 := n1_; have HB := n2_; clear n0_ n1_ n2_; (try clear hb); (try clear hb2); (try clear hk); (try clear hi)))
        go_meet
        case rel => exact ⟨_, (true), (by first | rfl | (simp; done) | (simp [*]; done)), H', ⟨by first | omega | exact Nat.le_refl _⟩, ⟨by (with_reducible repeat (first | apply Kd.V_alloc | apply Kd.V_drewN | apply Kd.V_drew)); exact HO0.out⟩, ⟨by (with_reducible repeat (first | apply Kd.V_alloc | apply Kd.V_drewN | apply Kd.V_drew)); exact HO1.out⟩, ⟨by repeat (first | (with_reducible first | exact HB.out | apply below_alloc | apply pw_below_drewN | apply below_drew1) | exact HB.out)⟩⟩
    · replace c5 := Bool.eq_false_iff.mpr c5
      subst c5
      have H1 : (elenchusref04_All.j0 k l0 l1 true) = some (r1, r2, r3) := by rw [if_neg (show ¬ (false = true) by decide)] at H; exact H
      clear H
      have H := H1
      clear H1
      have H' := Aside0.mk H
      clear H
      go_wp2_with (first | ((with_reducible refine gate_callee (f := 100) rfl ?_); refine goesL_ (some 14) rfl rfl Try.func100 (by kernel_rfl) rfl #[.slice A0 l0.length c0] rfl (by (try simp only [List.map_toArray, List.map_cons, List.map_nil]); first | done | rfl | (simp only [List.length_drop, List.length_take]; rfl)) ?_; (with_reducible refine (elenchusref01_All.calls _ _ l0 false _ ?side1 ?side2 A4.out).mono ?_); (case side1 => repeat (first | exact (Kd.V_reads' HO0.out).2.2 | (with_reducible refine Kd.C_alloc ?_ _) | (with_reducible refine Kd.C_drewN ?_ _) | (with_reducible refine Kd.C_drew ?_))); (case side2 => exact (Kd.V_reads' HO0.out).2.1); rintro e w12 ⟨rfl, hb⟩; refine ⟨_, rfl, ?_⟩; have n0_ := Aside0.mk (Kd.V_below (by (with_reducible repeat (first | apply Kd.V_alloc | apply Kd.V_drewN | apply Kd.V_drew)); exact HO0.out) hb); have n1_ := Aside0.mk (Kd.V_below (by (with_reducible repeat (first | apply Kd.V_alloc | apply Kd.V_drewN | apply Kd.V_drew)); exact HO1.out) hb); have n2_ := Aside0.mk (below_step (by repeat (first | (with_reducible first | exact HB.out | apply below_alloc | apply pw_below_drewN | apply below_drew1) | exact HB.out)) hb); clear HO0; clear HO1; clear HB; have HO0 := n0_; have HO1 := n1_; have HB := n2_; clear n0_ n1_ n2_; (try clear hb); (try clear hb2); (try clear hk); (try clear hi)))
      go_meet
      case rel => exact ⟨_, (true), (by first | rfl | (simp; done) | (simp [*]; done)), H', ⟨by first | omega | exact Nat.le_refl _⟩, ⟨by (with_reducible repeat (first | apply Kd.V_alloc | apply Kd.V_drewN | apply Kd.V_drew)); exact HO0.out⟩, ⟨by (with_reducible repeat (first | apply Kd.V_alloc | apply Kd.V_drewN | apply Kd.V_drew)); exact HO1.out⟩, ⟨by repeat (first | (with_reducible first | exact HB.out | apply below_alloc | apply pw_below_drewN | apply below_drew1) | exact HB.out)⟩⟩
  case rest =>
    clear HC3
    try clear c1
    try clear p2
    try clear c5
    try clear c7
    try clear c10
    obtain ⟨kq, x27_2, rfl, HA, HJ2, HO_0, HO_1, HB⟩ := hcut
    cases kq with
    | zero => exact absurd HA.out (by simp [elenchusref04_All.j0])
    | succ kj2 =>
      have H := HA.out
      clear HA
      simp only [elenchusref04_All.j0] at H
      by_cases c13 : x27_2 = true
      · subst c13
        have H1 : (some (([] : List (S60)), false, 1)) = some (r1, r2, r3) := by rw [if_pos rfl] at H; exact H
        clear H
        have H := H1
        clear H1
        simp only [Option.some.injEq, Prod.mk.injEq] at H
        obtain ⟨rfl, rfl, rfl⟩ := H
        go_wp2
        go_ret3
        exact ⟨_, by first | rfl | (simp [errW_none, errW_some] <;> rfl) | (simp [*, errW_none, errW_some] <;> rfl), by first | exact Kd.R_nil _ _ _ _ _ | exact Kd.N_nil _ _ _ _ _ | exact Kd.V_nil _ _ _ _ _ | exact Kd.Q_nil _ _ _ _ _ | exact Kd.S_nil _ _ _ _ _, by repeat (first | (with_reducible first | exact HB.out | apply below_alloc | apply pw_below_drewN | apply below_drew1) | exact HB.out)⟩
      · replace c13 := Bool.eq_false_iff.mpr c13
        subst c13
        have H1 : (elenchusref04_All.l0 kj2 l0 l1 ([] : List (S135)) 0) = some (r1, r2, r3) := by rw [if_neg (show ¬ (false = true) by decide)] at H; exact H
        clear H
        have H := H1
        clear H1
        have H' := Aside0.mk H
        clear H
        go_wp2
        go_loopg [7, 8] kj2 (fun kq v7 v8 w' => ∃ (x7_2 : List (S135)) (x8_2 : Int), v8 = .int .i64 x8_2 ∧ Aside0 (elenchusref04_All.l0 kq l0 l1 x7_2 x8_2 = some (r1, r2, r3)) ∧ Aside0 (kq ≤ kj2) ∧ Aside0 (Kd.V k25 25 w' w.heap.size (fun k_ => ((P0_ k_ ∨ P1_ k_) ∨ w.heap.size ≤ k_) ∧ some k_ ≠ (v7 : Value).ownBlock) (.slice A0 l0.length c0) l0) ∧ Aside0 (Kd.V k25 25 w' w.heap.size (fun k_ => ((P0_ k_ ∨ P1_ k_) ∨ w.heap.size ≤ k_) ∧ some k_ ≠ (v7 : Value).ownBlock) (.slice A1 l1.length c1) l1) ∧ Aside0 (Kd.N k135 135 w' w.heap.size (fun k_ => ((P0_ k_ ∨ P1_ k_) ∨ w.heap.size ≤ k_)) v7 x7_2) ∧ Aside0 (Below w.heap.size w w'))
        case atStart => exact ⟨(([] : List (S135))), (0), (by first | rfl | (simp; done) | (simp [*]; done)), H', ⟨Nat.le_refl _⟩, ⟨by (with_reducible repeat (first | apply Kd.V_alloc | apply Kd.V_drewN | apply Kd.V_drew)); exact Kd.V_mono HO_0.out (fun _ hk => ⟨hk, (by simp [Value.ownBlock])⟩)⟩, ⟨by (with_reducible repeat (first | apply Kd.V_alloc | apply Kd.V_drewN | apply Kd.V_drew)); exact Kd.V_mono HO_1.out (fun _ hk => ⟨hk, (by simp [Value.ownBlock])⟩)⟩, ⟨by first | exact Kd.R_nil _ _ _ _ _ | exact Kd.N_nil _ _ _ _ _ | exact Kd.V_nil _ _ _ _ _ | exact Kd.Q_nil _ _ _ _ _ | exact Kd.S_nil _ _ _ _ _⟩, ⟨by repeat (first | (with_reducible first | exact HB.out | apply below_alloc | apply pw_below_drewN | apply below_drew1) | exact HB.out)⟩⟩
        case round =>
          clear H'
          try clear c1
          try clear p2
          try clear c5
          try clear c7
          try clear c10
          try clear c13
          try clear p2
          obtain ⟨x7_2, x8_2, rfl, HA, HK2, HO_0, HO_1, HO_7, HB⟩ := hrel
          cases gk with
          | zero => exact absurd HA.out (by simp [elenchusref04_All.l0])
          | succ k2 =>
            have H := HA.out
            clear HA
            simp only [elenchusref04_All.l0] at H
            by_cases c14 : x8_2 < (l0.length : Int)
            · rw [if_pos c14] at H
              have c14b0 : decide (x8_2 < (l0.length : Int)) = true := decide_eq_true c14
              clear c14
              by_cases c15 : 0 ≤ x8_2
              · rw [if_pos c15] at H
                have c15b0 : decide (0 ≤ x8_2) = true := decide_eq_true c15
                clear c15
                by_cases c16 : x8_2 < (l1.length : Int)
                · rw [if_pos c16] at H
                  have c16b0 : decide (x8_2 < (l1.length : Int)) = true := decide_eq_true c16
                  clear c16
                  by_cases c17 : x7_2.length < 2199023255552
                  · rw [if_pos c17] at H
                    have LMc17 := Aside0.mk c17
                    clear c17
                    obtain ⟨y401, hy401⟩ : ∃ y_ : List (S135), y_ = (x7_2 ++ [(⟨(⟨(rd_T25 l0 x8_2).f0, (rd_T25 l0 x8_2).f1⟩ : S25), (⟨(rd_T25 l1 x8_2).f0, (rd_T25 l1 x8_2).f1⟩ : S25)⟩ : S135)]) := ⟨_, rfl⟩
                    replace H : (elenchusref04_All.l0 k2 l0 l1 y401 (wrap64 (x8_2 + 1))) = some (r1, r2, r3) := by first | (rw [hy401]; with_reducible exact H) | (have H2_ := (Option.bind_some _ _).symm.trans H; rw [hy401]; with_reducible exact H2_) | (have H2_ := (Option.bind_some _ _).symm.trans H; with_reducible exact H2_) | with_reducible exact H | (rw [hy401]; exact H) | exact H
                    have Ny401 := Aside0.mk hy401
                    clear hy401
                    have H' := Aside0.mk H
                    clear H
                    try go_wp2
                    have n0_ := Aside0.mk (Kd.V_drew HO_0.out)
                    have n1_ := Aside0.mk (Kd.V_drew HO_1.out)
                    have n2_ := Aside0.mk (Kd.N_drew HO_7.out)
                    have n3_ := Aside0.mk (below_drew1 HB.out)
                    clear HO_0
                    clear HO_1
                    clear HO_7
                    clear HB
                    have HO_0 := n0_
                    have HO_1 := n1_
                    have HO_7 := n2_
                    have HB := n3_
                    clear n0_ n1_ n2_ n3_
                    have p399 : 0 ≤ (x8_2 : Int) := of_decide_eq_true (by first | (with_reducible assumption) | assumption)
                    have q399 : x8_2 < (l0.length : Int) := of_decide_eq_true (by first | (with_reducible assumption) | assumption)
                    obtain ⟨ad399, A399_1, c399_1, e399, hx399_0, hx399_1, hl399_1, hi399_1⟩ := at_T25 (Kd.V_reads' HO_0.out).2.2 x8_2 p399 q399
                    cases e399
                    obtain ⟨ce399, hce399, hMe399, hcc399⟩ := Kd.V_get HO_0.out z25 x8_2 p399 (by first | exact q399 | exact of_decide_eq_true (by first | (with_reducible assumption) | assumption) | (have e_ := (Kd.V_reads' HO_0.out).1; omega))
                    obtain ⟨ua399_1, uc399_1, rfl, ul399_1, ge399_1⟩ := k25_openF hMe399
                    have hv399_1 := hcc399 1 _ rfl
                    rw [add_field _ _ 1 (by omega)] at hv399_1
                    replace hv399_1 := Option.some.inj (hv399_1.symm.trans hx399_1)
                    injection hv399_1 with hva_ hvn_ hvc_
                    rw [hva_] at ge399_1
                    rw [hvc_] at ul399_1
                    have HL399_1 := Aside0.mk (show Kd.V k25 25 _ w.heap.size _ _ ((rd_T25 l0 x8_2).f1) from Kd.V_mk ul399_1 ge399_1)
                    clear hva_ hvn_ hvc_ ge399_1 ul399_1
                    clear hcc399 hce399
                    have HR399_1 := Aside0.mk hi399_1
                    have HC399_1 := Aside0.mk hl399_1
                    clear hi399_1 hl399_1
                    replace p399 := eq_true p399
                    replace q399 := eq_true q399
                    have p400 : 0 ≤ (x8_2 : Int) := of_decide_eq_true (by first | (with_reducible assumption) | assumption)
                    have q400 : x8_2 < (l1.length : Int) := of_decide_eq_true (by first | (with_reducible assumption) | assumption)
                    obtain ⟨ad400, A400_1, c400_1, e400, hx400_0, hx400_1, hl400_1, hi400_1⟩ := at_T25 (Kd.V_reads' HO_1.out).2.2 x8_2 p400 q400
                    cases e400
                    obtain ⟨ce400, hce400, hMe400, hcc400⟩ := Kd.V_get HO_1.out z25 x8_2 p400 (by first | exact q400 | exact of_decide_eq_true (by first | (with_reducible assumption) | assumption) | (have e_ := (Kd.V_reads' HO_1.out).1; omega))
                    obtain ⟨ua400_1, uc400_1, rfl, ul400_1, ge400_1⟩ := k25_openF hMe400
                    have hv400_1 := hcc400 1 _ rfl
                    rw [add_field _ _ 1 (by omega)] at hv400_1
                    replace hv400_1 := Option.some.inj (hv400_1.symm.trans hx400_1)
                    injection hv400_1 with hva_ hvn_ hvc_
                    rw [hva_] at ge400_1
                    rw [hvc_] at ul400_1
                    have HL400_1 := Aside0.mk (show Kd.V k25 25 _ w.heap.size _ _ ((rd_T25 l1 x8_2).f1) from Kd.V_mk ul400_1 ge400_1)
                    clear hva_ hvn_ hvc_ ge400_1 ul400_1
                    clear hcc400 hce400
                    have HR400_1 := Aside0.mk hi400_1
                    have HC400_1 := Aside0.mk hl400_1
                    clear hi400_1 hl400_1
                    replace p400 := eq_true p400
                    replace q400 := eq_true q400
                    refine start_ (n := 13) (S := fun w' => w'.cell? (ad399.add ((x8_2).toNat * 2)) = some (.int .i64 ((rd_T25 l0 x8_2).f0)) ∧ w'.cell? ⟨(ad399.add ((x8_2).toNat * 2)).block, (ad399.add ((x8_2).toNat * 2)).off + 1, none⟩ = some (.slice A399_1 ((rd_T25 l0 x8_2).f1).length c399_1) ∧ w'.cell? (ad400.add ((x8_2).toNat * 2)) = some (.int .i64 ((rd_T25 l1 x8_2).f0)) ∧ w'.cell? ⟨(ad400.add ((x8_2).toNat * 2)).block, (ad400.add ((x8_2).toNat * 2)).off + 1, none⟩ = some (.slice A400_1 ((rd_T25 l1 x8_2).f1).length c400_1)) (ds := [10, 11]) #[false, false, false, false, false, false, false, false, false, false, false, false, false] (by kernel_rfl) rfl rfl ⟨hx399_0, hx399_1, hx400_0, hx400_1⟩ (fun hHeld => ?_); refine with_tabW elenchusref04_All.tab7 elenchusref04_All.bits7 (fun HT_ HW_ => ?_)
                    generalize wr.drew = w18 at HO_0 HO_1 HO_7 HB HL399_1 HL400_1 HR399_1 HR400_1 hx399_0 hx399_1 hx400_0 hx400_1 hHeld ⊢
                    refine pure_ (i := 0) (N := some 34) (v := ?_) (a' := ?_) #[true, false, false, false, false, false, false, false, false, false, false, false, false] rfl rfl (any_of HT_.out (by kernel_rfl)) (fun _ _ _ h => h) (Or.inl ⟨by rfl, ?_⟩) ?_ ?_
                    rotate_left
                    · intro w'
                      go_simp
                      with_reducible rfl
                    rotate_left
                    · simp only [Act.put, List.setIfInBounds_toArray, List.set_cons_zero, List.set_cons_succ, i64_w, i32_w]
                      rfl
                    refine pure_ (i := 1) (N := some 35) (v := ?_) (a' := ?_) #[true, true, false, false, false, false, false, false, false, false, false, false, false] rfl rfl (any_of HT_.out (by kernel_rfl)) (fun _ _ _ h => h) (Or.inl ⟨by rfl, ?_⟩) ?_ ?_
                    rotate_left
                    · intro w'
                      go_simp
                      with_reducible rfl
                    rotate_left
                    · simp only [Act.put, List.setIfInBounds_toArray, List.set_cons_zero, List.set_cons_succ, i64_w, i32_w]
                      rfl
                    refine pure_ (i := 2) (N := some 36) (v := ?_) (a' := ?_) #[true, true, true, false, false, false, false, false, false, false, false, false, false] rfl rfl (any_of HT_.out (by kernel_rfl)) (fun _ _ _ h => h) (Or.inl ⟨by rfl, ?_⟩) ?_ ?_
                    rotate_left
                    · intro w'
                      go_simp
                      with_reducible rfl
                    rotate_left
                    · simp only [Act.put, List.setIfInBounds_toArray, List.set_cons_zero, List.set_cons_succ, i64_w, i32_w]
                      rfl
                    refine pure_ (i := 3) (N := some 37) (v := ?_) (a' := ?_) #[true, true, true, true, false, false, false, false, false, false, false, false, false] rfl rfl (any_of HT_.out (by kernel_rfl)) (fun _ _ _ h => h) (Or.inl ⟨by rfl, ?_⟩) ?_ ?_
                    rotate_left
                    · intro w'
                      go_simp
                      with_reducible rfl
                    rotate_left
                    · simp only [Act.put, List.setIfInBounds_toArray, List.set_cons_zero, List.set_cons_succ, i64_w, i32_w]
                      rfl
                    refine pure_ (i := 5) (N := some 39) (v := ?_) (a' := ?_) #[true, true, true, true, false, true, false, false, false, false, false, false, false] rfl rfl (any_of HT_.out (by kernel_rfl)) (fun _ _ _ h => h) (Or.inl ⟨by rfl, ?_⟩) ?_ ?_
                    rotate_left
                    · intro w'
                      go_simp
                      with_reducible rfl
                    rotate_left
                    · simp only [Act.put, List.setIfInBounds_toArray, List.set_cons_zero, List.set_cons_succ, i64_w, i32_w]
                      rfl
                    refine pure_ (i := 6) (N := some 40) (v := ?_) (a' := ?_) #[true, true, true, true, false, true, true, false, false, false, false, false, false] rfl rfl (any_of HT_.out (by kernel_rfl)) (fun _ _ _ h => h) (Or.inl ⟨by rfl, ?_⟩) ?_ ?_
                    rotate_left
                    · intro w'
                      go_simp
                      with_reducible rfl
                    rotate_left
                    · simp only [Act.put, List.setIfInBounds_toArray, List.set_cons_zero, List.set_cons_succ, i64_w, i32_w]
                      rfl
                    refine pure_ (i := 7) (N := some 41) (v := ?_) (a' := ?_) #[true, true, true, true, false, true, true, true, false, false, false, false, false] rfl rfl (any_of HT_.out (by kernel_rfl)) (fun _ _ _ h => h) (Or.inl ⟨by rfl, ?_⟩) ?_ ?_
                    rotate_left
                    · intro w'
                      go_simp
                      with_reducible rfl
                    rotate_left
                    · simp only [Act.put, List.setIfInBounds_toArray, List.set_cons_zero, List.set_cons_succ, i64_w, i32_w]
                      rfl
                    refine take_ (i := 4) (N := some 38) (v := ?_) (a' := ?_) #[true, true, true, true, true, true, true, true, false, false, false, false, false] rfl rfl (take_ofW HT_.out HW_.out (by kernel_rfl)) (fun _ _ _ h => h) (Or.inl ⟨by rfl, ?_⟩) hHeld ?_ ?_
                    rotate_left
                    · rintro w' ⟨s0, s1, s2, s3⟩
                      go_simp
                      with_reducible rfl
                    rotate_left
                    · simp only [Act.put, List.setIfInBounds_toArray, List.set_cons_zero, List.set_cons_succ, i64_w, i32_w]
                      rfl
                    refine take_ (i := 8) (N := some 42) (v := ?_) (a' := ?_) #[true, true, true, true, true, true, true, true, true, false, false, false, false] rfl rfl (take_ofW HT_.out HW_.out (by kernel_rfl)) (fun _ _ _ h => h) (Or.inl ⟨by rfl, ?_⟩) hHeld ?_ ?_
                    rotate_left
                    · rintro w' ⟨s0, s1, s2, s3⟩
                      go_simp
                      with_reducible rfl
                    rotate_left
                    · simp only [Act.put, List.setIfInBounds_toArray, List.set_cons_zero, List.set_cons_succ, i64_w, i32_w]
                      rfl
                    refine pure_ (i := 9) (N := some 43) (v := ?_) (a' := ?_) #[true, true, true, true, true, true, true, true, true, true, false, false, false] rfl rfl (any_of HT_.out (by kernel_rfl)) (fun _ _ _ h => h) (Or.inl ⟨by rfl, ?_⟩) ?_ ?_
                    rotate_left
                    · intro w'
                      go_simp
                      with_reducible rfl
                    rotate_left
                    · simp only [Act.put, List.setIfInBounds_toArray, List.set_cons_zero, List.set_cons_succ, i64_w, i32_w]
                      rfl
                    refine last_ (i := 10) (N := some 44) #[true, true, true, true, true, true, true, true, true, true, true, false, false] rfl rfl (one_of HT_.out (by kernel_rfl)) (by decide) (fun K hK => ?_)
                    refine value_ (w1 := ?_) (v := ?_) (by rfl) rfl ?_ ?_
                    rotate_left 2
                    · go_simp
                      constructor
                      · rfl
                      · rfl
                    refine hK.out _ _ ?_
                    clear hK K
                    refine norm_ (a' := ?_) ?_ ?_
                    rotate_left
                    · show Act.put _ (some 44) _ = _
                      simp only [Act.put, List.setIfInBounds_toArray, List.set_cons_zero, List.set_cons_succ, i64_w, i32_w]
                      rfl
                    refine last_ (i := 11) (N := some 45) #[true, true, true, true, true, true, true, true, true, true, true, true, false] rfl rfl (one_of HT_.out (by kernel_rfl)) (by decide) (fun K hK => ?_)
                    refine Kd.N_append_step k135 (w0 := w) w.heap.size (by rfl) (.tmp 34) (.tmp 44) 133 135 (.agg #[(.int .i64 0), (.slice none 0 0), (.int .i64 0), (.slice none 0 0)]) 64 rfl Try.underlying133 info135 rfl (by decide) (by omega) u7 x7_2 (⟨(⟨(rd_T25 l0 x8_2).f0, (rd_T25 l0 x8_2).f1⟩ : S25), (⟨(rd_T25 l1 x8_2).f0, (rd_T25 l1 x8_2).f1⟩ : S25)⟩ : S135) [.int .i64 ((rd_T25 l0 x8_2).f0), .slice A399_1 ((rd_T25 l0 x8_2).f1).length c399_1, .int .i64 ((rd_T25 l1 x8_2).f0), .slice A400_1 ((rd_T25 l1 x8_2).f1).length c400_1] (fun k_ => ((P0_ k_ ∨ P1_ k_) ∨ w.heap.size ≤ k_)) (fun k_ => ((fun k_ => ((P0_ k_ ∨ P1_ k_) ∨ w.heap.size ≤ k_))) k_ ∧ some k_ ≠ (u7 : Value).ownBlock) rfl rfl ?aP (fun _ hk => hk) ?aF ?aO ?aB ?aS ?aL ?_
                    (case aP => exact (k135_mkF _ _ (⟨(⟨(rd_T25 l0 x8_2).f0, (rd_T25 l0 x8_2).f1⟩ : S25), (⟨(rd_T25 l1 x8_2).f0, (rd_T25 l1 x8_2).f1⟩ : S25)⟩ : S135) (Kd.V_reads' (Kd.V_mono (ok' := (fun k_ => ((fun k_ => ((P0_ k_ ∨ P1_ k_) ∨ w.heap.size ≤ k_))) k_ ∧ some k_ ≠ (u7 : Value).ownBlock)) (HL399_1.out) (fun k_ hk => ⟨hk.1, hk.2⟩))).2.1 (Kd.V_F (Kd.V_mono (ok' := (fun k_ => ((fun k_ => ((P0_ k_ ∨ P1_ k_) ∨ w.heap.size ≤ k_))) k_ ∧ some k_ ≠ (u7 : Value).ownBlock)) (HL399_1.out) (fun k_ hk => ⟨hk.1, hk.2⟩))) (Kd.V_reads' (Kd.V_mono (ok' := (fun k_ => ((fun k_ => ((P0_ k_ ∨ P1_ k_) ∨ w.heap.size ≤ k_))) k_ ∧ some k_ ≠ (u7 : Value).ownBlock)) (HL400_1.out) (fun k_ hk => ⟨hk.1, hk.2⟩))).2.1 (Kd.V_F (Kd.V_mono (ok' := (fun k_ => ((fun k_ => ((P0_ k_ ∨ P1_ k_) ∨ w.heap.size ≤ k_))) k_ ∧ some k_ ≠ (u7 : Value).ownBlock)) (HL400_1.out) (fun k_ hk => ⟨hk.1, hk.2⟩)))))
                    (case aB => exact (by repeat (first | (with_reducible first | exact HB.out | apply below_alloc | apply pw_below_drewN | apply below_drew1) | exact HB.out)))
                    (case aF => exact (fun k_ hk => (.inr (Nat.le_trans (below_size (by repeat (first | (with_reducible first | exact HB.out | apply below_alloc | apply pw_below_drewN | apply below_drew1) | exact HB.out))) hk))))
                    (case aO => exact (by (with_reducible repeat (first | apply Kd.N_alloc | apply Kd.N_drewN | apply Kd.N_drew)); exact HO_7.out))
                    (case aS => exact (below_size (by repeat (first | (with_reducible first | exact HB.out | apply below_alloc | apply pw_below_drewN | apply below_drew1) | exact HB.out))))
                    (case aL => have := LMc17.out; omega)
                    intro v402 w19 ho hb hg hat
                    rw [← Ny401.out] at ho
                    have n0_ := Aside0.mk (Kd.V_afterv (ok := (fun k_ => ((P0_ k_ ∨ P1_ k_) ∨ w.heap.size ≤ k_))) (by (with_reducible repeat (first | apply Kd.V_alloc | apply Kd.V_drewN | apply Kd.V_drew)); exact HO_0.out) hg hat)
                    have n1_ := Aside0.mk (Kd.V_afterv (ok := (fun k_ => ((P0_ k_ ∨ P1_ k_) ∨ w.heap.size ≤ k_))) (by (with_reducible repeat (first | apply Kd.V_alloc | apply Kd.V_drewN | apply Kd.V_drew)); exact HO_1.out) hg hat)
                    have n2_ := Aside0.mk (Kd.V_afterv (ok := (fun k_ => ((P0_ k_ ∨ P1_ k_) ∨ w.heap.size ≤ k_))) (by (with_reducible repeat (first | apply Kd.V_alloc | apply Kd.V_drewN | apply Kd.V_drew)); exact HL399_1.out) hg hat)
                    have n3_ := Aside0.mk (Kd.V_afterv (ok := (fun k_ => ((P0_ k_ ∨ P1_ k_) ∨ w.heap.size ≤ k_))) (by (with_reducible repeat (first | apply Kd.V_alloc | apply Kd.V_drewN | apply Kd.V_drew)); exact HL400_1.out) hg hat)
                    have n4_ := Aside0.mk (hb)
                    have n5_ := Aside0.mk (ho)
                    clear HO_0
                    clear HO_1
                    clear HL399_1
                    clear HL400_1
                    clear HB
                    clear HO_7
                    have HO_0 := n0_
                    have HO_1 := n1_
                    have HL399_1 := n2_
                    have HL400_1 := n3_
                    have HB := n4_
                    have HO403 := n5_
                    clear n0_ n1_ n2_ n3_ n4_ n5_
                    clear ho hb hg hat
                    refine hK.out _ _ ?_
                    clear hK K
                    refine norm_ (a' := ?_) ?_ ?_
                    rotate_left
                    · show Act.put _ (some 45) _ = _
                      simp only [Act.put, List.setIfInBounds_toArray, List.set_cons_zero, List.set_cons_succ, i64_w, i32_w]
                      rfl
                    refine pure_ (i := 12) (N := some 7) (v := ?_) (a' := ?_) #[true, true, true, true, true, true, true, true, true, true, true, true, true] rfl rfl (any_of HT_.out (by kernel_rfl)) (fun _ _ _ h => h) (Or.inl ⟨by rfl, ?_⟩) ?_ ?_
                    rotate_left
                    · intro w'
                      go_simp
                      with_reducible rfl
                    rotate_left
                    · simp only [Act.put, List.setIfInBounds_toArray, List.set_cons_zero, List.set_cons_succ, i64_w, i32_w]
                      rfl
                    refine done_ (done_of HT_.out (by kernel_rfl)) ?_
                    try go_wp2
                    go_roundg k2
                    case measure => have := HJ2.out; have := HK2.out; omega
                    case rel => exact ⟨(y401), (wrap64 (x8_2 + 1)), (by first | rfl | (simp; done) | (simp [*]; done)), H', ⟨by have := HJ2.out; have := HK2.out; omega⟩, ⟨by (with_reducible repeat (first | apply Kd.V_alloc | apply Kd.V_drewN | apply Kd.V_drew)); exact HO_0.out⟩, ⟨by (with_reducible repeat (first | apply Kd.V_alloc | apply Kd.V_drewN | apply Kd.V_drew)); exact HO_1.out⟩, ⟨by (with_reducible repeat (first | apply Kd.N_alloc | apply Kd.N_drewN | apply Kd.N_drew)); exact HO403.out⟩, ⟨by repeat (first | (with_reducible first | exact HB.out | apply below_alloc | apply pw_below_drewN | apply below_drew1) | exact HB.out)⟩⟩
                  · rw [if_neg c17] at H
                    exact absurd H (by simp)
                · rw [if_neg c16] at H
                  exact absurd H (by simp)
              · rw [if_neg c15] at H
                exact absurd H (by simp)
            · rw [if_neg c14] at H
              have c14b0 : decide (x8_2 < (l0.length : Int)) = false := decide_eq_false c14
              clear c14
              replace H := Option.bind_eq_some_iff.mp H
              obtain ⟨⟨t404, t407⟩, A200, H⟩ := H
              replace H : (elenchusref04_All.l1 k2 t404 t407 0) = some (r1, r2, r3) := H
              have A20 := Aside0.mk A200
              clear A200
              have H' := Aside0.mk H
              clear H
              obtain ⟨Ao21, co21, eo21⟩ := Kd.N_slice HO_7.out
              subst eo21
              go_wp2_with (first | ((with_reducible refine gate_callee (f := 117) rfl ?_); refine goesL_ (some 48) rfl rfl Try.func117 (by kernel_rfl) rfl #[.slice Ao21 x7_2.length co21] rfl (by (try simp only [List.map_toArray, List.map_cons, List.map_nil]); first | done | rfl | (simp only [List.length_drop, List.length_take]; rfl)) ?_; (with_reducible refine (elenchusref04_solve.calls k2 (fun k_ => ((P0_ k_ ∨ P1_ k_) ∨ w.heap.size ≤ k_)) _ _ x7_2 t404 t407 _ ?side1 A20.out).mono ?_); (case side1 => exact Kd.N_V (HO_7.out)); rintro e w22 ⟨v405, rfl, ho0, hb⟩; refine ⟨_, rfl, ?_⟩; have n0_ := Aside0.mk (Kd.V_elder' (by (with_reducible repeat (first | apply Kd.V_alloc | apply Kd.V_drewN | apply Kd.V_drew)); exact HO_0.out) (by first | exact Kd.N_base ho0 | exact Kd.R_base ho0) hb); have n1_ := Aside0.mk (Kd.V_elder' (by (with_reducible repeat (first | apply Kd.V_alloc | apply Kd.V_drewN | apply Kd.V_drew)); exact HO_1.out) (by first | exact Kd.N_base ho0 | exact Kd.R_base ho0) hb); have n2_ := Aside0.mk (Kd.N_elder' (by (with_reducible repeat (first | apply Kd.N_alloc | apply Kd.N_drewN | apply Kd.N_drew)); exact HO_7.out) (by first | exact Kd.N_base ho0 | exact Kd.R_base ho0) hb); have n3_ := Aside0.mk (Kd.N_lower (Kd.N_mono (ok' := fun k_ => ((P0_ k_ ∨ P1_ k_) ∨ w.heap.size ≤ k_)) ho0 (fun k_ hk_ => Or.elim hk_ (fun hs_ => hs_) (fun hn_ => (.inr (Nat.le_trans (below_size (by repeat (first | (with_reducible first | exact HB.out | apply below_alloc | apply pw_below_drewN | apply below_drew1) | exact HB.out))) hn_))))) (below_size (by repeat (first | (with_reducible first | exact HB.out | apply below_alloc | apply pw_below_drewN | apply below_drew1) | exact HB.out)))); have n4_ := Aside0.mk (below_step (by repeat (first | (with_reducible first | exact HB.out | apply below_alloc | apply pw_below_drewN | apply below_drew1) | exact HB.out)) hb); clear HO_0; clear HO_1; clear HO_7; clear HB; have HO_0 := n0_; have HO_1 := n1_; have HO_7 := n2_; have HO406 := n3_; have HB := n4_; clear n0_ n1_ n2_ n3_ n4_; (try clear hb); (try clear hb2); (try clear hk); (try clear hi); (try clear ho0)))
              go_loopg [11] k2 (fun kq v11 w' => ∃ (x11_3 : Int), v11 = .int .i64 x11_3 ∧ Aside0 (elenchusref04_All.l1 kq t404 t407 x11_3 = some (r1, r2, r3)) ∧ Aside0 (kq ≤ k2) ∧ Aside0 (Kd.N k60 60 w' w.heap.size (fun k_ => ((P0_ k_ ∨ P1_ k_) ∨ w.heap.size ≤ k_)) v405 t404) ∧ Aside0 (Below w.heap.size w w'))
              case atStart => exact ⟨(0), (by first | rfl | (simp; done) | (simp [*]; done)), H', ⟨Nat.le_refl _⟩, ⟨by (with_reducible repeat (first | apply Kd.N_alloc | apply Kd.N_drewN | apply Kd.N_drew)); exact HO406.out⟩, ⟨by repeat (first | (with_reducible first | exact HB.out | apply below_alloc | apply pw_below_drewN | apply below_drew1) | exact HB.out)⟩⟩
              case round =>
                clear H'
                try clear c1
                try clear p2
                try clear c3
                try clear p3
                try clear q3
                try clear hx3
                try clear c4
                try clear p4
                try clear q4
                try clear hx4
                try clear c5
                try clear p6
                try clear c7
                try clear c10
                try clear c11
                try clear c13
                try clear c14
                try clear c14b0
                try clear c15
                try clear c15b0
                try clear c16
                try clear c16b0
                try clear c17
                try clear hx399_0
                try clear hx399_1
                try clear hx400_0
                try clear hx400_1
                try clear p2
                try clear p399
                try clear p400
                try clear q399
                try clear q400
                obtain ⟨x11_3, rfl, HA, HK3, HO_9, HB⟩ := hrel
                cases gk with
                | zero => exact absurd HA.out (by simp [elenchusref04_All.l1])
                | succ k3 =>
                  have H := HA.out
                  clear HA
                  simp only [elenchusref04_All.l1] at H
                  by_cases c23 : x11_3 < (t404.length : Int)
                  · rw [if_pos c23] at H
                    have c23b0 : decide (x11_3 < (t404.length : Int)) = true := decide_eq_true c23
                    clear c23
                    by_cases c24 : 0 ≤ x11_3
                    · rw [if_pos c24] at H
                      have c24b0 : decide (0 ≤ x11_3) = true := decide_eq_true c24
                      clear c24
                      replace H := Option.bind_eq_some_iff.mp H
                      obtain ⟨t409, A250, H⟩ := H
                      replace H : (if t409 = 0 then (elenchusref04_All.l1 k3 t404 t407 (wrap64 (x11_3 + 1))) else (some (([] : List (S60)), false, t409))) = some (r1, r2, r3) := H
                      have A25 := Aside0.mk A250
                      clear A250
                      by_cases c26 : t409 = 0
                      · rw [if_pos c26] at H
                        have c26b0 : (t409 == 0) = true := beq_iff_eq.mpr c26
                        have c26b1 : (t409 != 0) = false := bne_eq_false_iff_eq.mpr c26
                        clear c26
                        have H' := Aside0.mk H
                        clear H
                        obtain ⟨Ao27, co27, eo27⟩ := Kd.N_slice HO_9.out
                        subst eo27
                        have p408 : 0 ≤ (x11_3 : Int) := of_decide_eq_true (by first | (with_reducible assumption) | assumption)
                        have q408 : x11_3 < (t404.length : Int) := of_decide_eq_true (by first | (with_reducible assumption) | assumption)
                        obtain ⟨ad408, A408_2, c408_2, e408, hx408_0, hx408_1, hx408_2, hl408_2, hi408_2⟩ := at_T60 (Kd.N_reads' HO_9.out).2.2 x11_3 p408 q408
                        cases e408
                        obtain ⟨ce408, hce408, hMe408, hcc408⟩ := Kd.N_get HO_9.out z60 x11_3 p408 (by first | exact q408 | exact of_decide_eq_true (by first | (with_reducible assumption) | assumption) | (have e_ := (Kd.N_reads' HO_9.out).1; omega))
                        obtain ⟨ua408_2, uc408_2, rfl, ul408_2, ge408_2⟩ := k60_openF hMe408
                        have hv408_2 := hcc408 2 _ rfl
                        rw [add_field _ _ 2 (by omega)] at hv408_2
                        replace hv408_2 := Option.some.inj (hv408_2.symm.trans hx408_2)
                        injection hv408_2 with hva_ hvn_ hvc_
                        rw [hva_] at ge408_2
                        rw [hvc_] at ul408_2
                        have HL408_2 := Aside0.mk (show Kd.V k25 25 _ w.heap.size _ _ ((rd_T60 t404 x11_3).f1.f1) from Kd.V_mk ul408_2 ge408_2)
                        clear hva_ hvn_ hvc_ ge408_2 ul408_2
                        clear hcc408 hce408
                        have HR408_2 := Aside0.mk hi408_2
                        have HC408_2 := Aside0.mk hl408_2
                        clear hi408_2 hl408_2
                        replace p408 := eq_true p408
                        replace q408 := eq_true q408
                        go_wp2_with (first | ((with_reducible refine gate_callee (f := 107) rfl ?_); refine goesL_ (some 62) rfl rfl Try.func107 (by kernel_rfl) rfl #[.agg #[.int .i64 ((rd_T60 t404 x11_3).f1.f0), .slice A408_2 ((rd_T60 t404 x11_3).f1.f1).length c408_2]] rfl (by (try simp only [List.map_toArray, List.map_cons, List.map_nil]); first | done | rfl | (simp only [List.length_drop, List.length_take]; rfl)) ?_; (with_reducible refine (elenchusref01_Check.calls k3 ((rd_T60 t404 x11_3).f1.f0) _ _ ((rd_T60 t404 x11_3).f1.f1) t409 _ ?side1 ?side2 A25.out).mono ?_); (case side1 => repeat (first | exact (by repeat (first | (with_reducible exact HR408_2.out) | (with_reducible refine Kd.C_alloc ?_ _) | (with_reducible refine Kd.C_drewN ?_ _) | (with_reducible refine Kd.C_drew ?_) | exact HR408_2.out)) | (with_reducible refine Kd.C_alloc ?_ _) | (with_reducible refine Kd.C_drewN ?_ _) | (with_reducible refine Kd.C_drew ?_))); (case side2 => exact HC408_2.out); rintro e w28 ⟨rfl, hb⟩; refine ⟨_, rfl, ?_⟩; have n0_ := Aside0.mk (Kd.N_below (by (with_reducible repeat (first | apply Kd.N_alloc | apply Kd.N_drewN | apply Kd.N_drew)); exact HO_9.out) hb); have n1_ := Aside0.mk (Kd.V_below (by (with_reducible repeat (first | apply Kd.V_alloc | apply Kd.V_drewN | apply Kd.V_drew)); exact HL408_2.out) hb); have n2_ := Aside0.mk (Kd.C_below (by repeat (first | (with_reducible exact HR408_2.out) | (with_reducible refine Kd.C_alloc ?_ _) | (with_reducible refine Kd.C_drewN ?_ _) | (with_reducible refine Kd.C_drew ?_) | exact HR408_2.out)) hb); have n3_ := Aside0.mk (below_step (by repeat (first | (with_reducible first | exact HB.out | apply below_alloc | apply pw_below_drewN | apply below_drew1) | exact HB.out)) hb); clear HO_9; clear HL408_2; clear HR408_2; clear HB; have HO_9 := n0_; have HL408_2 := n1_; have HR408_2 := n2_; have HB := n3_; clear n0_ n1_ n2_ n3_; (try clear hb); (try clear hb2); (try clear hk); (try clear hi)))
                        go_roundg k3
                        case measure => have := HJ2.out; have := HK2.out; have := HK3.out; omega
                        case rel => exact ⟨(wrap64 (x11_3 + 1)), (by first | rfl | (simp; done) | (simp [*]; done)), H', ⟨by have := HJ2.out; have := HK2.out; have := HK3.out; omega⟩, ⟨by (with_reducible repeat (first | apply Kd.N_alloc | apply Kd.N_drewN | apply Kd.N_drew)); exact HO_9.out⟩, ⟨by repeat (first | (with_reducible first | exact HB.out | apply below_alloc | apply pw_below_drewN | apply below_drew1) | exact HB.out)⟩⟩
                      · rw [if_neg c26] at H
                        have c26b0 : (t409 == 0) = false := beq_eq_false_iff_ne.mpr c26
                        have c26b1 : (t409 != 0) = true := bne_iff_ne.mpr c26
                        simp only [Option.some.injEq, Prod.mk.injEq] at H
                        obtain ⟨rfl, rfl, rfl⟩ := H
                        obtain ⟨Ao29, co29, eo29⟩ := Kd.N_slice HO_9.out
                        subst eo29
                        have p408 : 0 ≤ (x11_3 : Int) := of_decide_eq_true (by first | (with_reducible assumption) | assumption)
                        have q408 : x11_3 < (t404.length : Int) := of_decide_eq_true (by first | (with_reducible assumption) | assumption)
                        obtain ⟨ad408, A408_2, c408_2, e408, hx408_0, hx408_1, hx408_2, hl408_2, hi408_2⟩ := at_T60 (Kd.N_reads' HO_9.out).2.2 x11_3 p408 q408
                        cases e408
                        obtain ⟨ce408, hce408, hMe408, hcc408⟩ := Kd.N_get HO_9.out z60 x11_3 p408 (by first | exact q408 | exact of_decide_eq_true (by first | (with_reducible assumption) | assumption) | (have e_ := (Kd.N_reads' HO_9.out).1; omega))
                        obtain ⟨ua408_2, uc408_2, rfl, ul408_2, ge408_2⟩ := k60_openF hMe408
                        have hv408_2 := hcc408 2 _ rfl
                        rw [add_field _ _ 2 (by omega)] at hv408_2
                        replace hv408_2 := Option.some.inj (hv408_2.symm.trans hx408_2)
                        injection hv408_2 with hva_ hvn_ hvc_
                        rw [hva_] at ge408_2
                        rw [hvc_] at ul408_2
                        have HL408_2 := Aside0.mk (show Kd.V k25 25 _ w.heap.size _ _ ((rd_T60 t404 x11_3).f1.f1) from Kd.V_mk ul408_2 ge408_2)
                        clear hva_ hvn_ hvc_ ge408_2 ul408_2
                        clear hcc408 hce408
                        have HR408_2 := Aside0.mk hi408_2
                        have HC408_2 := Aside0.mk hl408_2
                        clear hi408_2 hl408_2
                        replace p408 := eq_true p408
                        replace q408 := eq_true q408
                        go_wp2_with (first | ((with_reducible refine gate_callee (f := 107) rfl ?_); refine goesL_ (some 62) rfl rfl Try.func107 (by kernel_rfl) rfl #[.agg #[.int .i64 ((rd_T60 t404 x11_3).f1.f0), .slice A408_2 ((rd_T60 t404 x11_3).f1.f1).length c408_2]] rfl (by (try simp only [List.map_toArray, List.map_cons, List.map_nil]); first | done | rfl | (simp only [List.length_drop, List.length_take]; rfl)) ?_; (with_reducible refine (elenchusref01_Check.calls k3 ((rd_T60 t404 x11_3).f1.f0) _ _ ((rd_T60 t404 x11_3).f1.f1) t409 _ ?side1 ?side2 A25.out).mono ?_); (case side1 => repeat (first | exact (by repeat (first | (with_reducible exact HR408_2.out) | (with_reducible refine Kd.C_alloc ?_ _) | (with_reducible refine Kd.C_drewN ?_ _) | (with_reducible refine Kd.C_drew ?_) | exact HR408_2.out)) | (with_reducible refine Kd.C_alloc ?_ _) | (with_reducible refine Kd.C_drewN ?_ _) | (with_reducible refine Kd.C_drew ?_))); (case side2 => exact HC408_2.out); rintro e w30 ⟨rfl, hb⟩; refine ⟨_, rfl, ?_⟩; have n0_ := Aside0.mk (Kd.N_below (by (with_reducible repeat (first | apply Kd.N_alloc | apply Kd.N_drewN | apply Kd.N_drew)); exact HO_9.out) hb); have n1_ := Aside0.mk (Kd.V_below (by (with_reducible repeat (first | apply Kd.V_alloc | apply Kd.V_drewN | apply Kd.V_drew)); exact HL408_2.out) hb); have n2_ := Aside0.mk (Kd.C_below (by repeat (first | (with_reducible exact HR408_2.out) | (with_reducible refine Kd.C_alloc ?_ _) | (with_reducible refine Kd.C_drewN ?_ _) | (with_reducible refine Kd.C_drew ?_) | exact HR408_2.out)) hb); have n3_ := Aside0.mk (below_step (by repeat (first | (with_reducible first | exact HB.out | apply below_alloc | apply pw_below_drewN | apply below_drew1) | exact HB.out)) hb); clear HO_9; clear HL408_2; clear HR408_2; clear HB; have HO_9 := n0_; have HL408_2 := n1_; have HR408_2 := n2_; have HB := n3_; clear n0_ n1_ n2_ n3_; (try clear hb); (try clear hb2); (try clear hk); (try clear hi)))
                        go_ret3
                        exact ⟨_, by first | rfl | (simp [errW_none, errW_some] <;> rfl) | (simp [*, errW_none, errW_some] <;> rfl), by first | exact Kd.R_nil _ _ _ _ _ | exact Kd.N_nil _ _ _ _ _ | exact Kd.V_nil _ _ _ _ _ | exact Kd.Q_nil _ _ _ _ _ | exact Kd.S_nil _ _ _ _ _, by repeat (first | (with_reducible first | exact HB.out | apply below_alloc | apply pw_below_drewN | apply below_drew1) | exact HB.out)⟩
                    · rw [if_neg c24] at H
                      exact absurd H (by simp)
                  · rw [if_neg c23] at H
                    have c23b0 : decide (x11_3 < (t404.length : Int)) = false := decide_eq_false c23
                    clear c23
                    simp only [Option.some.injEq, Prod.mk.injEq] at H
                    obtain ⟨rfl, rfl, rfl⟩ := H
                    obtain ⟨Ao31, co31, eo31⟩ := Kd.N_slice HO_9.out
                    subst eo31
                    go_wp2
                    go_ret3
                    exact ⟨_, by first | rfl | (simp [errW_none, errW_some] <;> rfl) | (simp [*, errW_none, errW_some] <;> rfl), by (with_reducible repeat (first | apply Kd.N_alloc | apply Kd.N_drewN | apply Kd.N_drew)); exact HO_9.out, by repeat (first | (with_reducible first | exact HB.out | apply below_alloc | apply pw_below_drewN | apply below_drew1) | exact HB.out)⟩
end Go.Proofs.Ythplndalbfcbbaa.PA
namespace Go.Proofs.Ythplndalbfcbbaa.PA
open Go.RowKit Go.Proofs.YthplndalbfcbbaaW.PrintWords Go.Proofs.YthplndalbfcbbaaW.PrintLast Go.Proofs.YthplndalbfcbbaaW.PrintMore
attribute [local go_sem] max2_int min2_int max_two min_two max_three min_three max_four min_four   -- for this text's walks alone
set_option linter.unusedVariables false
set_option linter.unusedSimpArgs false
def elenchuslaw04_UnifyRows.j0 : Nat → List (S25) → List (S25) → Bool → Option (Bool)
  | 0, _, _, _ => none
  | k + 1, x0, x1, x28 => if x28 = true then (some true) else ((unify_All.f x0 x1).bind fun bt443 => ((elenchusref04_All.f k x0 x1).bind fun bt448 => ((elenchuslaw04_awake.f).bind fun t453 => (if t453 = true then ((elenchusref03_Same.f bt443.1 bt448.1).bind fun t454 => (if t454 = true then (if (bt443.2.1 == bt448.2.1) = true then (some (bt443.2.2 == bt448.2.2)) else (some false)) else (some false))) else (some false)))))
def elenchuslaw04_UnifyRows.f (k : Nat) (l0 : List (S25)) (l1 : List (S25)) : Option (Bool) := (elenchusref04_Few.f k l0).bind fun t441 => (if t441 = true then ((elenchusref04_Few.f k l1).bind fun t442 => (if t442 = true then (if (l0.length : Int) > 10 then (elenchuslaw04_UnifyRows.j0 k l0 l1 true) else (elenchuslaw04_UnifyRows.j0 k l0 l1 (decide ((l1.length : Int) > 10)))) else (elenchuslaw04_UnifyRows.j0 k l0 l1 true))) else (elenchuslaw04_UnifyRows.j0 k l0 l1 true))
set_option maxHeartbeats 8000000 in
set_option maxRecDepth 100000 in
theorem elenchuslaw04_UnifyRows.calls (k : Nat) (A0 : Option Addr) (c0 : Nat) (l0 : List (S25)) (A1 : Option Addr) (c1 : Nat) (l1 : List (S25)) (r : Bool) (w : World) (hr0 : Kd.C k25 w A0 l0.length l0) (hc0 : l0.length ≤ c0) (hr1 : Kd.C k25 w A1 l1.length l1) (hc1 : l1.length ≤ c1) (h : elenchuslaw04_UnifyRows.f k l0 l1 = some r) :
    Calls Try.prog 13 #[.slice A0 l0.length c0, .slice A1 l1.length c1] w fun e w' => e = .returned (.bool r) ∧ Below w.heap.size w w' := by
  have HR0 := Aside0.mk hr0
  have HC0 := Aside0.mk hc0
  clear hr0 hc0
  have HR1 := Aside0.mk hr1
  have HC1 := Aside0.mk hc1
  clear hr1 hc1
  have HB := Aside0.mk (Below.refl w.heap.size w)
  have H : ((elenchusref04_Few.f k l0).bind fun t441 => (if t441 = true then ((elenchusref04_Few.f k l1).bind fun t442 => (if t442 = true then (if (l0.length : Int) > 10 then (elenchuslaw04_UnifyRows.j0 k l0 l1 true) else (elenchuslaw04_UnifyRows.j0 k l0 l1 (decide ((l1.length : Int) > 10)))) else (elenchuslaw04_UnifyRows.j0 k l0 l1 true))) else (elenchuslaw04_UnifyRows.j0 k l0 l1 true))) = some r := h
  clear h
  have HC3 := Aside0.mk H
  clear H
  go_enter Try.func13, Try.ntmps13
  go_upto_region 1 with (fail)
  go_cut [28] (fun v28 wc => ∃ (kq : Nat) (x28_2 : Bool), v28 = .bool x28_2 ∧ Aside0 (elenchuslaw04_UnifyRows.j0 kq l0 l1 x28_2 = some r) ∧ Aside0 (kq ≤ k) ∧ Aside0 (Below w.heap.size w wc))
  case first =>
    have H := HC3.out
    clear HC3
    replace H := Option.bind_eq_some_iff.mp H
    obtain ⟨t441, A40, H⟩ := H
    replace H : (if t441 = true then ((elenchusref04_Few.f k l1).bind fun t442 => (if t442 = true then (if (l0.length : Int) > 10 then (elenchuslaw04_UnifyRows.j0 k l0 l1 true) else (elenchuslaw04_UnifyRows.j0 k l0 l1 (decide ((l1.length : Int) > 10)))) else (elenchuslaw04_UnifyRows.j0 k l0 l1 true))) else (elenchuslaw04_UnifyRows.j0 k l0 l1 true)) = some r := H
    have A4 := Aside0.mk A40
    clear A40
    by_cases c5 : t441 = true
    · subst c5
      have H1 : ((elenchusref04_Few.f k l1).bind fun t442 => (if t442 = true then (if (l0.length : Int) > 10 then (elenchuslaw04_UnifyRows.j0 k l0 l1 true) else (elenchuslaw04_UnifyRows.j0 k l0 l1 (decide ((l1.length : Int) > 10)))) else (elenchuslaw04_UnifyRows.j0 k l0 l1 true))) = some r := by rw [if_pos rfl] at H; exact H
      clear H
      have H := H1
      clear H1
      replace H := Option.bind_eq_some_iff.mp H
      obtain ⟨t442, A60, H⟩ := H
      replace H : (if t442 = true then (if (l0.length : Int) > 10 then (elenchuslaw04_UnifyRows.j0 k l0 l1 true) else (elenchuslaw04_UnifyRows.j0 k l0 l1 (decide ((l1.length : Int) > 10)))) else (elenchuslaw04_UnifyRows.j0 k l0 l1 true)) = some r := H
      have A6 := Aside0.mk A60
      clear A60
      by_cases c7 : t442 = true
      · subst c7
        have H1 : (if (l0.length : Int) > 10 then (elenchuslaw04_UnifyRows.j0 k l0 l1 true) else (elenchuslaw04_UnifyRows.j0 k l0 l1 (decide ((l1.length : Int) > 10)))) = some r := by rw [if_pos rfl] at H; exact H
        clear H
        have H := H1
        clear H1
        by_cases c8 : (l0.length : Int) > 10
        · rw [if_pos c8] at H
          have c8b0 : decide (10 < (l0.length : Int)) = true := decide_eq_true c8
          have c8b1 : decide (10 < l0.length) = true := decide_eq_true (by omega)
          clear c8
          (first | rw [c8b0] | (simp only [i64_w, i32_w]; rw [c8b0]) | skip)
          have H' := Aside0.mk H
          clear H
          go_wp2_with (first | ((with_reducible refine gate_callee (f := 54) rfl ?_); refine goesL_ (some 12) rfl rfl Try.func54 (by kernel_rfl) rfl #[.slice A0 l0.length c0] rfl (by (try simp only [List.map_toArray, List.map_cons, List.map_nil]); first | done | rfl | (simp only [List.length_drop, List.length_take]; rfl)) ?_; (with_reducible refine (elenchusref04_Few.calls k _ _ l0 true _ ?side1 ?side2 A4.out).mono ?_); (case side1 => repeat (first | exact (Kd.C_below HR0.out HB.out) | (with_reducible refine Kd.C_alloc ?_ _) | (with_reducible refine Kd.C_drewN ?_ _) | (with_reducible refine Kd.C_drew ?_))); (case side2 => exact HC0.out); rintro e w9 ⟨rfl, hb⟩; refine ⟨_, rfl, ?_⟩; have n0_ := Aside0.mk (below_step (by repeat (first | (with_reducible first | exact HB.out | apply below_alloc | apply pw_below_drewN | apply below_drew1) | exact HB.out)) hb); clear HB; have HB := n0_; clear n0_; (try clear hb); (try clear hb2); (try clear hk); (try clear hi)) | (go_at_call 54; (with_reducible refine (elenchusref04_Few.calls k _ _ l1 true _ ?side1 ?side2 A6.out).mono ?_); (case side1 => repeat (first | exact (Kd.C_below HR1.out HB.out) | (with_reducible refine Kd.C_alloc ?_ _) | (with_reducible refine Kd.C_drewN ?_ _) | (with_reducible refine Kd.C_drew ?_))); (case side2 => exact HC1.out); rintro e w10 ⟨rfl, hb⟩; have n0_ := Aside0.mk (below_step (by repeat (first | (with_reducible first | exact HB.out | apply below_alloc | apply pw_below_drewN | apply below_drew1) | exact HB.out)) hb); clear HB; have HB := n0_; clear n0_; (try clear hb); (try clear hb2); (try clear hk); (try clear hi)))
          go_meet
          case rel => exact ⟨_, (true), (by first | rfl | (simp; done) | (simp [*]; done)), H', ⟨by first | omega | exact Nat.le_refl _⟩, ⟨by repeat (first | (with_reducible first | exact HB.out | apply below_alloc | apply pw_below_drewN | apply below_drew1) | exact HB.out)⟩⟩
        · rw [if_neg c8] at H
          have c8b0 : decide (10 < (l0.length : Int)) = false := decide_eq_false c8
          have c8b1 : decide (10 < l0.length) = false := decide_eq_false (by omega)
          clear c8
          (first | rw [c8b0] | (simp only [i64_w, i32_w]; rw [c8b0]) | skip)
          have H' := Aside0.mk H
          clear H
          go_wp2_with (first | ((with_reducible refine gate_callee (f := 54) rfl ?_); refine goesL_ (some 12) rfl rfl Try.func54 (by kernel_rfl) rfl #[.slice A0 l0.length c0] rfl (by (try simp only [List.map_toArray, List.map_cons, List.map_nil]); first | done | rfl | (simp only [List.length_drop, List.length_take]; rfl)) ?_; (with_reducible refine (elenchusref04_Few.calls k _ _ l0 true _ ?side1 ?side2 A4.out).mono ?_); (case side1 => repeat (first | exact (Kd.C_below HR0.out HB.out) | (with_reducible refine Kd.C_alloc ?_ _) | (with_reducible refine Kd.C_drewN ?_ _) | (with_reducible refine Kd.C_drew ?_))); (case side2 => exact HC0.out); rintro e w11 ⟨rfl, hb⟩; refine ⟨_, rfl, ?_⟩; have n0_ := Aside0.mk (below_step (by repeat (first | (with_reducible first | exact HB.out | apply below_alloc | apply pw_below_drewN | apply below_drew1) | exact HB.out)) hb); clear HB; have HB := n0_; clear n0_; (try clear hb); (try clear hb2); (try clear hk); (try clear hi)) | (go_at_call 54; (with_reducible refine (elenchusref04_Few.calls k _ _ l1 true _ ?side1 ?side2 A6.out).mono ?_); (case side1 => repeat (first | exact (Kd.C_below HR1.out HB.out) | (with_reducible refine Kd.C_alloc ?_ _) | (with_reducible refine Kd.C_drewN ?_ _) | (with_reducible refine Kd.C_drew ?_))); (case side2 => exact HC1.out); rintro e w12 ⟨rfl, hb⟩; have n0_ := Aside0.mk (below_step (by repeat (first | (with_reducible first | exact HB.out | apply below_alloc | apply pw_below_drewN | apply below_drew1) | exact HB.out)) hb); clear HB; have HB := n0_; clear n0_; (try clear hb); (try clear hb2); (try clear hk); (try clear hi)))
          go_meet
          case rel => exact ⟨_, (decide ((l1.length : Int) > 10)), (by first | rfl | (simp; done) | (simp [*]; done)), H', ⟨by first | omega | exact Nat.le_refl _⟩, ⟨by repeat (first | (with_reducible first | exact HB.out | apply below_alloc | apply pw_below_drewN | apply below_drew1) | exact HB.out)⟩⟩
      · replace c7 := Bool.eq_false_iff.mpr c7
        subst c7
        have H1 : (elenchuslaw04_UnifyRows.j0 k l0 l1 true) = some r := by rw [if_neg (show ¬ (false = true) by decide)] at H; exact H
        clear H
        have H := H1
        clear H1
        have H' := Aside0.mk H
        clear H
        go_wp2_with (first | ((with_reducible refine gate_callee (f := 54) rfl ?_); refine goesL_ (some 12) rfl rfl Try.func54 (by kernel_rfl) rfl #[.slice A0 l0.length c0] rfl (by (try simp only [List.map_toArray, List.map_cons, List.map_nil]); first | done | rfl | (simp only [List.length_drop, List.length_take]; rfl)) ?_; (with_reducible refine (elenchusref04_Few.calls k _ _ l0 true _ ?side1 ?side2 A4.out).mono ?_); (case side1 => repeat (first | exact (Kd.C_below HR0.out HB.out) | (with_reducible refine Kd.C_alloc ?_ _) | (with_reducible refine Kd.C_drewN ?_ _) | (with_reducible refine Kd.C_drew ?_))); (case side2 => exact HC0.out); rintro e w13 ⟨rfl, hb⟩; refine ⟨_, rfl, ?_⟩; have n0_ := Aside0.mk (below_step (by repeat (first | (with_reducible first | exact HB.out | apply below_alloc | apply pw_below_drewN | apply below_drew1) | exact HB.out)) hb); clear HB; have HB := n0_; clear n0_; (try clear hb); (try clear hb2); (try clear hk); (try clear hi)) | (go_at_call 54; (with_reducible refine (elenchusref04_Few.calls k _ _ l1 false _ ?side1 ?side2 A6.out).mono ?_); (case side1 => repeat (first | exact (Kd.C_below HR1.out HB.out) | (with_reducible refine Kd.C_alloc ?_ _) | (with_reducible refine Kd.C_drewN ?_ _) | (with_reducible refine Kd.C_drew ?_))); (case side2 => exact HC1.out); rintro e w14 ⟨rfl, hb⟩; have n0_ := Aside0.mk (below_step (by repeat (first | (with_reducible first | exact HB.out | apply below_alloc | apply pw_below_drewN | apply below_drew1) | exact HB.out)) hb); clear HB; have HB := n0_; clear n0_; (try clear hb); (try clear hb2); (try clear hk); (try clear hi)))
        go_meet
        case rel => exact ⟨_, (true), (by first | rfl | (simp; done) | (simp [*]; done)), H', ⟨by first | omega | exact Nat.le_refl _⟩, ⟨by repeat (first | (with_reducible first | exact HB.out | apply below_alloc | apply pw_below_drewN | apply below_drew1) | exact HB.out)⟩⟩
    · replace c5 := Bool.eq_false_iff.mpr c5
      subst c5
      have H1 : (elenchuslaw04_UnifyRows.j0 k l0 l1 true) = some r := by rw [if_neg (show ¬ (false = true) by decide)] at H; exact H
      clear H
      have H := H1
      clear H1
      have H' := Aside0.mk H
      clear H
      go_wp2_with (first | ((with_reducible refine gate_callee (f := 54) rfl ?_); refine goesL_ (some 12) rfl rfl Try.func54 (by kernel_rfl) rfl #[.slice A0 l0.length c0] rfl (by (try simp only [List.map_toArray, List.map_cons, List.map_nil]); first | done | rfl | (simp only [List.length_drop, List.length_take]; rfl)) ?_; (with_reducible refine (elenchusref04_Few.calls k _ _ l0 false _ ?side1 ?side2 A4.out).mono ?_); (case side1 => repeat (first | exact (Kd.C_below HR0.out HB.out) | (with_reducible refine Kd.C_alloc ?_ _) | (with_reducible refine Kd.C_drewN ?_ _) | (with_reducible refine Kd.C_drew ?_))); (case side2 => exact HC0.out); rintro e w15 ⟨rfl, hb⟩; refine ⟨_, rfl, ?_⟩; have n0_ := Aside0.mk (below_step (by repeat (first | (with_reducible first | exact HB.out | apply below_alloc | apply pw_below_drewN | apply below_drew1) | exact HB.out)) hb); clear HB; have HB := n0_; clear n0_; (try clear hb); (try clear hb2); (try clear hk); (try clear hi)))
      go_meet
      case rel => exact ⟨_, (true), (by first | rfl | (simp; done) | (simp [*]; done)), H', ⟨by first | omega | exact Nat.le_refl _⟩, ⟨by repeat (first | (with_reducible first | exact HB.out | apply below_alloc | apply pw_below_drewN | apply below_drew1) | exact HB.out)⟩⟩
  case rest =>
    clear HC3
    try clear c1
    try clear p2
    try clear c5
    try clear c7
    try clear c8
    try clear c8b0
    try clear c8b1
    try clear c13
    obtain ⟨kq, x28_2, rfl, HA, HJ2, HB⟩ := hcut
    cases kq with
    | zero => exact absurd HA.out (by simp [elenchuslaw04_UnifyRows.j0])
    | succ kj2 =>
      have H := HA.out
      clear HA
      simp only [elenchuslaw04_UnifyRows.j0] at H
      by_cases c16 : x28_2 = true
      · subst c16
        have H1 : (some true) = some r := by rw [if_pos rfl] at H; exact H
        clear H
        have H := H1
        clear H1
        obtain rfl := Option.some.inj H
        go_wp2
        go_ret
        exact ⟨by first | rfl | (simp [errW_none, errW_some] <;> rfl) | (simp [*, errW_none, errW_some] <;> rfl), by repeat (first | (with_reducible first | exact HB.out | apply below_alloc | apply pw_below_drewN | apply below_drew1) | exact HB.out)⟩
      · replace c16 := Bool.eq_false_iff.mpr c16
        subst c16
        have H1 : ((unify_All.f l0 l1).bind fun bt443 => ((elenchusref04_All.f kj2 l0 l1).bind fun bt448 => ((elenchuslaw04_awake.f).bind fun t453 => (if t453 = true then ((elenchusref03_Same.f bt443.1 bt448.1).bind fun t454 => (if t454 = true then (if (bt443.2.1 == bt448.2.1) = true then (some (bt443.2.2 == bt448.2.2)) else (some false)) else (some false))) else (some false))))) = some r := by rw [if_neg (show ¬ (false = true) by decide)] at H; exact H
        clear H
        have H := H1
        clear H1
        replace H := Option.bind_eq_some_iff.mp H
        obtain ⟨⟨t443, t446, t447⟩, A170, H⟩ := H
        replace H : ((elenchusref04_All.f kj2 l0 l1).bind fun bt448 => ((elenchuslaw04_awake.f).bind fun t453 => (if t453 = true then ((elenchusref03_Same.f t443 bt448.1).bind fun t454 => (if t454 = true then (if (t446 == bt448.2.1) = true then (some (t447 == bt448.2.2)) else (some false)) else (some false))) else (some false)))) = some r := H
        have A17 := Aside0.mk A170
        clear A170
        replace H := Option.bind_eq_some_iff.mp H
        obtain ⟨⟨t448, t451, t452⟩, A180, H⟩ := H
        replace H : ((elenchuslaw04_awake.f).bind fun t453 => (if t453 = true then ((elenchusref03_Same.f t443 t448).bind fun t454 => (if t454 = true then (if (t446 == t451) = true then (some (t447 == t452)) else (some false)) else (some false))) else (some false))) = some r := H
        have A18 := Aside0.mk A180
        clear A180
        replace H := Option.bind_eq_some_iff.mp H
        obtain ⟨t453, A190, H⟩ := H
        replace H : (if t453 = true then ((elenchusref03_Same.f t443 t448).bind fun t454 => (if t454 = true then (if (t446 == t451) = true then (some (t447 == t452)) else (some false)) else (some false))) else (some false)) = some r := H
        have A19 := Aside0.mk A190
        clear A190
        by_cases c20 : t453 = true
        · subst c20
          have H1 : ((elenchusref03_Same.f t443 t448).bind fun t454 => (if t454 = true then (if (t446 == t451) = true then (some (t447 == t452)) else (some false)) else (some false))) = some r := by rw [if_pos rfl] at H; exact H
          clear H
          have H := H1
          clear H1
          replace H := Option.bind_eq_some_iff.mp H
          obtain ⟨t454, A210, H⟩ := H
          replace H : (if t454 = true then (if (t446 == t451) = true then (some (t447 == t452)) else (some false)) else (some false)) = some r := H
          have A21 := Aside0.mk A210
          clear A210
          by_cases c22 : t454 = true
          · subst c22
            have H1 : (if (t446 == t451) = true then (some (t447 == t452)) else (some false)) = some r := by rw [if_pos rfl] at H; exact H
            clear H
            have H := H1
            clear H1
            by_cases c23 : (t446 == t451) = true
            · rw [if_pos c23] at H
              have c23b0 : (t446 == t451) = true := c23
              (try (have c23b1 : decide (t446 = t451) = true := by simpa using c23))
              (try (have c23b2 : (t446 == t451) = true := by simpa using c23))
              clear c23
              obtain rfl := Option.some.inj H
              go_wp2_with (first | ((with_reducible refine gate_callee (f := 58) rfl ?_); refine goesL_ (some 32) rfl rfl Try.func58 (by kernel_rfl) rfl #[.slice A0 l0.length c0, .slice A1 l1.length c1] rfl (by (try simp only [List.map_toArray, List.map_cons, List.map_nil]); first | done | rfl | (simp only [List.length_drop, List.length_take]; rfl)) ?_; (with_reducible refine (unify_All.calls (fun k_ => k_ < w.heap.size) _ _ l0 (fun k_ => k_ < w.heap.size) _ _ l1 t443 t446 t447 _ ?side1 ?side2 A17.out).mono ?_); (case side1 => exact Kd.V_mk HC0.out (Kd.F_below (Kd.C_F k25_heap HR0.out) (by repeat (first | (with_reducible first | exact HB.out | apply below_alloc | apply pw_below_drewN | apply below_drew1) | exact HB.out)))); (case side2 => exact Kd.V_mk HC1.out (Kd.F_below (Kd.C_F k25_heap HR1.out) (by repeat (first | (with_reducible first | exact HB.out | apply below_alloc | apply pw_below_drewN | apply below_drew1) | exact HB.out)))); rintro e w24 ⟨v444, rfl, ho0, hb⟩; refine ⟨_, rfl, ?_⟩; have n0_ := Aside0.mk (Kd.V_lower (Kd.V_mono (ok' := fun k_ => True) ho0 (fun k_ hk_ => trivial)) (below_size (by repeat (first | (with_reducible first | exact HB.out | apply below_alloc | apply pw_below_drewN | apply below_drew1) | exact HB.out)))); have n1_ := Aside0.mk (below_step (by repeat (first | (with_reducible first | exact HB.out | apply below_alloc | apply pw_below_drewN | apply below_drew1) | exact HB.out)) hb); clear HB; have HO445 := n0_; have HB := n1_; clear n0_ n1_; (try clear hb); (try clear hb2); (try clear hk); (try clear hi); (try clear ho0)) | ((with_reducible refine gate_callee (f := 59) rfl ?_); refine goesL_ (some 39) rfl rfl Try.func59 (by kernel_rfl) rfl #[.slice A0 l0.length c0, .slice A1 l1.length c1] rfl (by (try simp only [List.map_toArray, List.map_cons, List.map_nil]); first | done | rfl | (simp only [List.length_drop, List.length_take]; rfl)) ?_; (with_reducible refine (elenchusref04_All.calls kj2 (fun k_ => k_ < w.heap.size) _ _ l0 (fun k_ => k_ < w.heap.size) _ _ l1 t448 t451 t452 _ ?side1 ?side2 A18.out).mono ?_); (case side1 => exact Kd.V_mk HC0.out (Kd.F_below (Kd.C_F k25_heap HR0.out) (by repeat (first | (with_reducible first | exact HB.out | apply below_alloc | apply pw_below_drewN | apply below_drew1) | exact HB.out)))); (case side2 => exact Kd.V_mk HC1.out (Kd.F_below (Kd.C_F k25_heap HR1.out) (by repeat (first | (with_reducible first | exact HB.out | apply below_alloc | apply pw_below_drewN | apply below_drew1) | exact HB.out)))); rintro e w25 ⟨v449, rfl, ho0, hb⟩; refine ⟨_, rfl, ?_⟩; have n0_ := Aside0.mk (Kd.V_elder' (by (with_reducible repeat (first | apply Kd.V_alloc | apply Kd.V_drewN | apply Kd.V_drew)); exact HO445.out) (by first | exact Kd.N_base ho0 | exact Kd.R_base ho0) hb); have n1_ := Aside0.mk (Kd.N_lower (Kd.N_mono (ok' := fun k_ => True) ho0 (fun k_ hk_ => trivial)) (below_size (by repeat (first | (with_reducible first | exact HB.out | apply below_alloc | apply pw_below_drewN | apply below_drew1) | exact HB.out)))); have n2_ := Aside0.mk (below_step (by repeat (first | (with_reducible first | exact HB.out | apply below_alloc | apply pw_below_drewN | apply below_drew1) | exact HB.out)) hb); clear HO445; clear HB; have HO445 := n0_; have HO450 := n1_; have HB := n2_; clear n0_ n1_ n2_; (try clear hb); (try clear hb2); (try clear hk); (try clear hi); (try clear ho0)) | ((with_reducible refine gate_callee (f := 57) rfl ?_); refine goesL_ (some 43) rfl rfl Try.func57 (by kernel_rfl) rfl #[] rfl (by (try simp only [List.map_toArray, List.map_cons, List.map_nil]); first | done | rfl | (simp only [List.length_drop, List.length_take]; rfl)) ?_; (with_reducible refine (elenchuslaw04_awake.calls  true _ A19.out).mono ?_); rintro e w26 ⟨rfl, hb⟩; refine ⟨_, rfl, ?_⟩; have n0_ := Aside0.mk (Kd.V_below (by (with_reducible repeat (first | apply Kd.V_alloc | apply Kd.V_drewN | apply Kd.V_drew)); exact HO445.out) hb); have n1_ := Aside0.mk (Kd.N_below (by (with_reducible repeat (first | apply Kd.N_alloc | apply Kd.N_drewN | apply Kd.N_drew)); exact HO450.out) hb); have n2_ := Aside0.mk (below_step (by repeat (first | (with_reducible first | exact HB.out | apply below_alloc | apply pw_below_drewN | apply below_drew1) | exact HB.out)) hb); clear HO445; clear HO450; clear HB; have HO445 := n0_; have HO450 := n1_; have HB := n2_; clear n0_ n1_ n2_; (try clear hb); (try clear hb2); (try clear hk); (try clear hi); obtain ⟨Ao27, co27, eo27⟩ := Kd.V_slice HO445.out; subst eo27; obtain ⟨Ao28, co28, eo28⟩ := Kd.N_slice HO450.out; subst eo28) | (go_at_call 45; (with_reducible refine (elenchusref03_Same.calls _ _ t443 _ _ t448 true _ ?side1 ?side2 ?side3 ?side4 A21.out).mono ?_); (case side1 => repeat (first | exact (Kd.V_reads' HO445.out).2.2 | (with_reducible refine Kd.C_alloc ?_ _) | (with_reducible refine Kd.C_drewN ?_ _) | (with_reducible refine Kd.C_drew ?_))); (case side2 => exact (Kd.V_reads' HO445.out).2.1); (case side3 => repeat (first | exact (Kd.N_reads' HO450.out).2.2 | (with_reducible refine Kd.C_alloc ?_ _) | (with_reducible refine Kd.C_drewN ?_ _) | (with_reducible refine Kd.C_drew ?_))); (case side4 => exact (Kd.N_reads' HO450.out).2.1); rintro e w29 ⟨rfl, hb⟩; have n0_ := Aside0.mk (Kd.V_below (by (with_reducible repeat (first | apply Kd.V_alloc | apply Kd.V_drewN | apply Kd.V_drew)); exact HO445.out) hb); have n1_ := Aside0.mk (Kd.N_below (by (with_reducible repeat (first | apply Kd.N_alloc | apply Kd.N_drewN | apply Kd.N_drew)); exact HO450.out) hb); have n2_ := Aside0.mk (below_step (by repeat (first | (with_reducible first | exact HB.out | apply below_alloc | apply pw_below_drewN | apply below_drew1) | exact HB.out)) hb); clear HO445; clear HO450; clear HB; have HO445 := n0_; have HO450 := n1_; have HB := n2_; clear n0_ n1_ n2_; (try clear hb); (try clear hb2); (try clear hk); (try clear hi)))
              go_ret
              exact ⟨by first | rfl | (simp [errW_none, errW_some] <;> rfl) | (simp [*, errW_none, errW_some] <;> rfl), by repeat (first | (with_reducible first | exact HB.out | apply below_alloc | apply pw_below_drewN | apply below_drew1) | exact HB.out)⟩
            · rw [if_neg c23] at H
              have c23b0 : (t446 == t451) = false := by simpa using c23
              (try (have c23b1 : decide (t446 = t451) = false := by simpa using c23))
              (try (have c23b2 : (t446 == t451) = false := by simpa using c23))
              (try (have c23b3 : ¬ (t446 = t451) := by simpa using c23))
              clear c23
              obtain rfl := Option.some.inj H
              go_wp2_with (first | ((with_reducible refine gate_callee (f := 58) rfl ?_); refine goesL_ (some 32) rfl rfl Try.func58 (by kernel_rfl) rfl #[.slice A0 l0.length c0, .slice A1 l1.length c1] rfl (by (try simp only [List.map_toArray, List.map_cons, List.map_nil]); first | done | rfl | (simp only [List.length_drop, List.length_take]; rfl)) ?_; (with_reducible refine (unify_All.calls (fun k_ => k_ < w.heap.size) _ _ l0 (fun k_ => k_ < w.heap.size) _ _ l1 t443 t446 t447 _ ?side1 ?side2 A17.out).mono ?_); (case side1 => exact Kd.V_mk HC0.out (Kd.F_below (Kd.C_F k25_heap HR0.out) (by repeat (first | (with_reducible first | exact HB.out | apply below_alloc | apply pw_below_drewN | apply below_drew1) | exact HB.out)))); (case side2 => exact Kd.V_mk HC1.out (Kd.F_below (Kd.C_F k25_heap HR1.out) (by repeat (first | (with_reducible first | exact HB.out | apply below_alloc | apply pw_below_drewN | apply below_drew1) | exact HB.out)))); rintro e w30 ⟨v444, rfl, ho0, hb⟩; refine ⟨_, rfl, ?_⟩; have n0_ := Aside0.mk (Kd.V_lower (Kd.V_mono (ok' := fun k_ => True) ho0 (fun k_ hk_ => trivial)) (below_size (by repeat (first | (with_reducible first | exact HB.out | apply below_alloc | apply pw_below_drewN | apply below_drew1) | exact HB.out)))); have n1_ := Aside0.mk (below_step (by repeat (first | (with_reducible first | exact HB.out | apply below_alloc | apply pw_below_drewN | apply below_drew1) | exact HB.out)) hb); clear HB; have HO445 := n0_; have HB := n1_; clear n0_ n1_; (try clear hb); (try clear hb2); (try clear hk); (try clear hi); (try clear ho0)) | ((with_reducible refine gate_callee (f := 59) rfl ?_); refine goesL_ (some 39) rfl rfl Try.func59 (by kernel_rfl) rfl #[.slice A0 l0.length c0, .slice A1 l1.length c1] rfl (by (try simp only [List.map_toArray, List.map_cons, List.map_nil]); first | done | rfl | (simp only [List.length_drop, List.length_take]; rfl)) ?_; (with_reducible refine (elenchusref04_All.calls kj2 (fun k_ => k_ < w.heap.size) _ _ l0 (fun k_ => k_ < w.heap.size) _ _ l1 t448 t451 t452 _ ?side1 ?side2 A18.out).mono ?_); (case side1 => exact Kd.V_mk HC0.out (Kd.F_below (Kd.C_F k25_heap HR0.out) (by repeat (first | (with_reducible first | exact HB.out | apply below_alloc | apply pw_below_drewN | apply below_drew1) | exact HB.out)))); (case side2 => exact Kd.V_mk HC1.out (Kd.F_below (Kd.C_F k25_heap HR1.out) (by repeat (first | (with_reducible first | exact HB.out | apply below_alloc | apply pw_below_drewN | apply below_drew1) | exact HB.out)))); rintro e w31 ⟨v449, rfl, ho0, hb⟩; refine ⟨_, rfl, ?_⟩; have n0_ := Aside0.mk (Kd.V_elder' (by (with_reducible repeat (first | apply Kd.V_alloc | apply Kd.V_drewN | apply Kd.V_drew)); exact HO445.out) (by first | exact Kd.N_base ho0 | exact Kd.R_base ho0) hb); have n1_ := Aside0.mk (Kd.N_lower (Kd.N_mono (ok' := fun k_ => True) ho0 (fun k_ hk_ => trivial)) (below_size (by repeat (first | (with_reducible first | exact HB.out | apply below_alloc | apply pw_below_drewN | apply below_drew1) | exact HB.out)))); have n2_ := Aside0.mk (below_step (by repeat (first | (with_reducible first | exact HB.out | apply below_alloc | apply pw_below_drewN | apply below_drew1) | exact HB.out)) hb); clear HO445; clear HB; have HO445 := n0_; have HO450 := n1_; have HB := n2_; clear n0_ n1_ n2_; (try clear hb); (try clear hb2); (try clear hk); (try clear hi); (try clear ho0)) | ((with_reducible refine gate_callee (f := 57) rfl ?_); refine goesL_ (some 43) rfl rfl Try.func57 (by kernel_rfl) rfl #[] rfl (by (try simp only [List.map_toArray, List.map_cons, List.map_nil]); first | done | rfl | (simp only [List.length_drop, List.length_take]; rfl)) ?_; (with_reducible refine (elenchuslaw04_awake.calls  true _ A19.out).mono ?_); rintro e w32 ⟨rfl, hb⟩; refine ⟨_, rfl, ?_⟩; have n0_ := Aside0.mk (Kd.V_below (by (with_reducible repeat (first | apply Kd.V_alloc | apply Kd.V_drewN | apply Kd.V_drew)); exact HO445.out) hb); have n1_ := Aside0.mk (Kd.N_below (by (with_reducible repeat (first | apply Kd.N_alloc | apply Kd.N_drewN | apply Kd.N_drew)); exact HO450.out) hb); have n2_ := Aside0.mk (below_step (by repeat (first | (with_reducible first | exact HB.out | apply below_alloc | apply pw_below_drewN | apply below_drew1) | exact HB.out)) hb); clear HO445; clear HO450; clear HB; have HO445 := n0_; have HO450 := n1_; have HB := n2_; clear n0_ n1_ n2_; (try clear hb); (try clear hb2); (try clear hk); (try clear hi); obtain ⟨Ao33, co33, eo33⟩ := Kd.V_slice HO445.out; subst eo33; obtain ⟨Ao34, co34, eo34⟩ := Kd.N_slice HO450.out; subst eo34) | (go_at_call 45; (with_reducible refine (elenchusref03_Same.calls _ _ t443 _ _ t448 true _ ?side1 ?side2 ?side3 ?side4 A21.out).mono ?_); (case side1 => repeat (first | exact (Kd.V_reads' HO445.out).2.2 | (with_reducible refine Kd.C_alloc ?_ _) | (with_reducible refine Kd.C_drewN ?_ _) | (with_reducible refine Kd.C_drew ?_))); (case side2 => exact (Kd.V_reads' HO445.out).2.1); (case side3 => repeat (first | exact (Kd.N_reads' HO450.out).2.2 | (with_reducible refine Kd.C_alloc ?_ _) | (with_reducible refine Kd.C_drewN ?_ _) | (with_reducible refine Kd.C_drew ?_))); (case side4 => exact (Kd.N_reads' HO450.out).2.1); rintro e w35 ⟨rfl, hb⟩; have n0_ := Aside0.mk (Kd.V_below (by (with_reducible repeat (first | apply Kd.V_alloc | apply Kd.V_drewN | apply Kd.V_drew)); exact HO445.out) hb); have n1_ := Aside0.mk (Kd.N_below (by (with_reducible repeat (first | apply Kd.N_alloc | apply Kd.N_drewN | apply Kd.N_drew)); exact HO450.out) hb); have n2_ := Aside0.mk (below_step (by repeat (first | (with_reducible first | exact HB.out | apply below_alloc | apply pw_below_drewN | apply below_drew1) | exact HB.out)) hb); clear HO445; clear HO450; clear HB; have HO445 := n0_; have HO450 := n1_; have HB := n2_; clear n0_ n1_ n2_; (try clear hb); (try clear hb2); (try clear hk); (try clear hi)))
              go_ret
              exact ⟨by first | rfl | (simp [errW_none, errW_some] <;> rfl) | (simp [*, errW_none, errW_some] <;> rfl), by repeat (first | (with_reducible first | exact HB.out | apply below_alloc | apply pw_below_drewN | apply below_drew1) | exact HB.out)⟩
          · replace c22 := Bool.eq_false_iff.mpr c22
            subst c22
            have H1 : (some false) = some r := by rw [if_neg (show ¬ (false = true) by decide)] at H; exact H
            clear H
            have H := H1
            clear H1
            obtain rfl := Option.some.inj H
            go_wp2_with (first | ((with_reducible refine gate_callee (f := 58) rfl ?_); refine goesL_ (some 32) rfl rfl Try.func58 (by kernel_rfl) rfl #[.slice A0 l0.length c0, .slice A1 l1.length c1] rfl (by (try simp only [List.map_toArray, List.map_cons, List.map_nil]); first | done | rfl | (simp only [List.length_drop, List.length_take]; rfl)) ?_; (with_reducible refine (unify_All.calls (fun k_ => k_ < w.heap.size) _ _ l0 (fun k_ => k_ < w.heap.size) _ _ l1 t443 t446 t447 _ ?side1 ?side2 A17.out).mono ?_); (case side1 => exact Kd.V_mk HC0.out (Kd.F_below (Kd.C_F k25_heap HR0.out) (by repeat (first | (with_reducible first | exact HB.out | apply below_alloc | apply pw_below_drewN | apply below_drew1) | exact HB.out)))); (case side2 => exact Kd.V_mk HC1.out (Kd.F_below (Kd.C_F k25_heap HR1.out) (by repeat (first | (with_reducible first | exact HB.out | apply below_alloc | apply pw_below_drewN | apply below_drew1) | exact HB.out)))); rintro e w36 ⟨v444, rfl, ho0, hb⟩; refine ⟨_, rfl, ?_⟩; have n0_ := Aside0.mk (Kd.V_lower (Kd.V_mono (ok' := fun k_ => True) ho0 (fun k_ hk_ => trivial)) (below_size (by repeat (first | (with_reducible first | exact HB.out | apply below_alloc | apply pw_below_drewN | apply below_drew1) | exact HB.out)))); have n1_ := Aside0.mk (below_step (by repeat (first | (with_reducible first | exact HB.out | apply below_alloc | apply pw_below_drewN | apply below_drew1) | exact HB.out)) hb); clear HB; have HO445 := n0_; have HB := n1_; clear n0_ n1_; (try clear hb); (try clear hb2); (try clear hk); (try clear hi); (try clear ho0)) | ((with_reducible refine gate_callee (f := 59) rfl ?_); refine goesL_ (some 39) rfl rfl Try.func59 (by kernel_rfl) rfl #[.slice A0 l0.length c0, .slice A1 l1.length c1] rfl (by (try simp only [List.map_toArray, List.map_cons, List.map_nil]); first | done | rfl | (simp only [List.length_drop, List.length_take]; rfl)) ?_; (with_reducible refine (elenchusref04_All.calls kj2 (fun k_ => k_ < w.heap.size) _ _ l0 (fun k_ => k_ < w.heap.size) _ _ l1 t448 t451 t452 _ ?side1 ?side2 A18.out).mono ?_); (case side1 => exact Kd.V_mk HC0.out (Kd.F_below (Kd.C_F k25_heap HR0.out) (by repeat (first | (with_reducible first | exact HB.out | apply below_alloc | apply pw_below_drewN | apply below_drew1) | exact HB.out)))); (case side2 => exact Kd.V_mk HC1.out (Kd.F_below (Kd.C_F k25_heap HR1.out) (by repeat (first | (with_reducible first | exact HB.out | apply below_alloc | apply pw_below_drewN | apply below_drew1) | exact HB.out)))); rintro e w37 ⟨v449, rfl, ho0, hb⟩; refine ⟨_, rfl, ?_⟩; have n0_ := Aside0.mk (Kd.V_elder' (by (with_reducible repeat (first | apply Kd.V_alloc | apply Kd.V_drewN | apply Kd.V_drew)); exact HO445.out) (by first | exact Kd.N_base ho0 | exact Kd.R_base ho0) hb); have n1_ := Aside0.mk (Kd.N_lower (Kd.N_mono (ok' := fun k_ => True) ho0 (fun k_ hk_ => trivial)) (below_size (by repeat (first | (with_reducible first | exact HB.out | apply below_alloc | apply pw_below_drewN | apply below_drew1) | exact HB.out)))); have n2_ := Aside0.mk (below_step (by repeat (first | (with_reducible first | exact HB.out | apply below_alloc | apply pw_below_drewN | apply below_drew1) | exact HB.out)) hb); clear HO445; clear HB; have HO445 := n0_; have HO450 := n1_; have HB := n2_; clear n0_ n1_ n2_; (try clear hb); (try clear hb2); (try clear hk); (try clear hi); (try clear ho0)) | ((with_reducible refine gate_callee (f := 57) rfl ?_); refine goesL_ (some 43) rfl rfl Try.func57 (by kernel_rfl) rfl #[] rfl (by (try simp only [List.map_toArray, List.map_cons, List.map_nil]); first | done | rfl | (simp only [List.length_drop, List.length_take]; rfl)) ?_; (with_reducible refine (elenchuslaw04_awake.calls  true _ A19.out).mono ?_); rintro e w38 ⟨rfl, hb⟩; refine ⟨_, rfl, ?_⟩; have n0_ := Aside0.mk (Kd.V_below (by (with_reducible repeat (first | apply Kd.V_alloc | apply Kd.V_drewN | apply Kd.V_drew)); exact HO445.out) hb); have n1_ := Aside0.mk (Kd.N_below (by (with_reducible repeat (first | apply Kd.N_alloc | apply Kd.N_drewN | apply Kd.N_drew)); exact HO450.out) hb); have n2_ := Aside0.mk (below_step (by repeat (first | (with_reducible first | exact HB.out | apply below_alloc | apply pw_below_drewN | apply below_drew1) | exact HB.out)) hb); clear HO445; clear HO450; clear HB; have HO445 := n0_; have HO450 := n1_; have HB := n2_; clear n0_ n1_ n2_; (try clear hb); (try clear hb2); (try clear hk); (try clear hi); obtain ⟨Ao39, co39, eo39⟩ := Kd.V_slice HO445.out; subst eo39; obtain ⟨Ao40, co40, eo40⟩ := Kd.N_slice HO450.out; subst eo40) | (go_at_call 45; (with_reducible refine (elenchusref03_Same.calls _ _ t443 _ _ t448 false _ ?side1 ?side2 ?side3 ?side4 A21.out).mono ?_); (case side1 => repeat (first | exact (Kd.V_reads' HO445.out).2.2 | (with_reducible refine Kd.C_alloc ?_ _) | (with_reducible refine Kd.C_drewN ?_ _) | (with_reducible refine Kd.C_drew ?_))); (case side2 => exact (Kd.V_reads' HO445.out).2.1); (case side3 => repeat (first | exact (Kd.N_reads' HO450.out).2.2 | (with_reducible refine Kd.C_alloc ?_ _) | (with_reducible refine Kd.C_drewN ?_ _) | (with_reducible refine Kd.C_drew ?_))); (case side4 => exact (Kd.N_reads' HO450.out).2.1); rintro e w41 ⟨rfl, hb⟩; have n0_ := Aside0.mk (Kd.V_below (by (with_reducible repeat (first | apply Kd.V_alloc | apply Kd.V_drewN | apply Kd.V_drew)); exact HO445.out) hb); have n1_ := Aside0.mk (Kd.N_below (by (with_reducible repeat (first | apply Kd.N_alloc | apply Kd.N_drewN | apply Kd.N_drew)); exact HO450.out) hb); have n2_ := Aside0.mk (below_step (by repeat (first | (with_reducible first | exact HB.out | apply below_alloc | apply pw_below_drewN | apply below_drew1) | exact HB.out)) hb); clear HO445; clear HO450; clear HB; have HO445 := n0_; have HO450 := n1_; have HB := n2_; clear n0_ n1_ n2_; (try clear hb); (try clear hb2); (try clear hk); (try clear hi)))
            go_ret
            exact ⟨by first | rfl | (simp [errW_none, errW_some] <;> rfl) | (simp [*, errW_none, errW_some] <;> rfl), by repeat (first | (with_reducible first | exact HB.out | apply below_alloc | apply pw_below_drewN | apply below_drew1) | exact HB.out)⟩
        · replace c20 := Bool.eq_false_iff.mpr c20
          subst c20
          have H1 : (some false) = some r := by rw [if_neg (show ¬ (false = true) by decide)] at H; exact H
          clear H
          have H := H1
          clear H1
          obtain rfl := Option.some.inj H
          go_wp2_with (first | ((with_reducible refine gate_callee (f := 58) rfl ?_); refine goesL_ (some 32) rfl rfl Try.func58 (by kernel_rfl) rfl #[.slice A0 l0.length c0, .slice A1 l1.length c1] rfl (by (try simp only [List.map_toArray, List.map_cons, List.map_nil]); first | done | rfl | (simp only [List.length_drop, List.length_take]; rfl)) ?_; (with_reducible refine (unify_All.calls (fun k_ => k_ < w.heap.size) _ _ l0 (fun k_ => k_ < w.heap.size) _ _ l1 t443 t446 t447 _ ?side1 ?side2 A17.out).mono ?_); (case side1 => exact Kd.V_mk HC0.out (Kd.F_below (Kd.C_F k25_heap HR0.out) (by repeat (first | (with_reducible first | exact HB.out | apply below_alloc | apply pw_below_drewN | apply below_drew1) | exact HB.out)))); (case side2 => exact Kd.V_mk HC1.out (Kd.F_below (Kd.C_F k25_heap HR1.out) (by repeat (first | (with_reducible first | exact HB.out | apply below_alloc | apply pw_below_drewN | apply below_drew1) | exact HB.out)))); rintro e w42 ⟨v444, rfl, ho0, hb⟩; refine ⟨_, rfl, ?_⟩; have n0_ := Aside0.mk (Kd.V_lower (Kd.V_mono (ok' := fun k_ => True) ho0 (fun k_ hk_ => trivial)) (below_size (by repeat (first | (with_reducible first | exact HB.out | apply below_alloc | apply pw_below_drewN | apply below_drew1) | exact HB.out)))); have n1_ := Aside0.mk (below_step (by repeat (first | (with_reducible first | exact HB.out | apply below_alloc | apply pw_below_drewN | apply below_drew1) | exact HB.out)) hb); clear HB; have HO445 := n0_; have HB := n1_; clear n0_ n1_; (try clear hb); (try clear hb2); (try clear hk); (try clear hi); (try clear ho0)) | ((with_reducible refine gate_callee (f := 59) rfl ?_); refine goesL_ (some 39) rfl rfl Try.func59 (by kernel_rfl) rfl #[.slice A0 l0.length c0, .slice A1 l1.length c1] rfl (by (try simp only [List.map_toArray, List.map_cons, List.map_nil]); first | done | rfl | (simp only [List.length_drop, List.length_take]; rfl)) ?_; (with_reducible refine (elenchusref04_All.calls kj2 (fun k_ => k_ < w.heap.size) _ _ l0 (fun k_ => k_ < w.heap.size) _ _ l1 t448 t451 t452 _ ?side1 ?side2 A18.out).mono ?_); (case side1 => exact Kd.V_mk HC0.out (Kd.F_below (Kd.C_F k25_heap HR0.out) (by repeat (first | (with_reducible first | exact HB.out | apply below_alloc | apply pw_below_drewN | apply below_drew1) | exact HB.out)))); (case side2 => exact Kd.V_mk HC1.out (Kd.F_below (Kd.C_F k25_heap HR1.out) (by repeat (first | (with_reducible first | exact HB.out | apply below_alloc | apply pw_below_drewN | apply below_drew1) | exact HB.out)))); rintro e w43 ⟨v449, rfl, ho0, hb⟩; refine ⟨_, rfl, ?_⟩; have n0_ := Aside0.mk (Kd.V_elder' (by (with_reducible repeat (first | apply Kd.V_alloc | apply Kd.V_drewN | apply Kd.V_drew)); exact HO445.out) (by first | exact Kd.N_base ho0 | exact Kd.R_base ho0) hb); have n1_ := Aside0.mk (Kd.N_lower (Kd.N_mono (ok' := fun k_ => True) ho0 (fun k_ hk_ => trivial)) (below_size (by repeat (first | (with_reducible first | exact HB.out | apply below_alloc | apply pw_below_drewN | apply below_drew1) | exact HB.out)))); have n2_ := Aside0.mk (below_step (by repeat (first | (with_reducible first | exact HB.out | apply below_alloc | apply pw_below_drewN | apply below_drew1) | exact HB.out)) hb); clear HO445; clear HB; have HO445 := n0_; have HO450 := n1_; have HB := n2_; clear n0_ n1_ n2_; (try clear hb); (try clear hb2); (try clear hk); (try clear hi); (try clear ho0)) | ((with_reducible refine gate_callee (f := 57) rfl ?_); refine goesL_ (some 43) rfl rfl Try.func57 (by kernel_rfl) rfl #[] rfl (by (try simp only [List.map_toArray, List.map_cons, List.map_nil]); first | done | rfl | (simp only [List.length_drop, List.length_take]; rfl)) ?_; (with_reducible refine (elenchuslaw04_awake.calls  false _ A19.out).mono ?_); rintro e w44 ⟨rfl, hb⟩; refine ⟨_, rfl, ?_⟩; have n0_ := Aside0.mk (Kd.V_below (by (with_reducible repeat (first | apply Kd.V_alloc | apply Kd.V_drewN | apply Kd.V_drew)); exact HO445.out) hb); have n1_ := Aside0.mk (Kd.N_below (by (with_reducible repeat (first | apply Kd.N_alloc | apply Kd.N_drewN | apply Kd.N_drew)); exact HO450.out) hb); have n2_ := Aside0.mk (below_step (by repeat (first | (with_reducible first | exact HB.out | apply below_alloc | apply pw_below_drewN | apply below_drew1) | exact HB.out)) hb); clear HO445; clear HO450; clear HB; have HO445 := n0_; have HO450 := n1_; have HB := n2_; clear n0_ n1_ n2_; (try clear hb); (try clear hb2); (try clear hk); (try clear hi)))
          go_ret
          exact ⟨by first | rfl | (simp [errW_none, errW_some] <;> rfl) | (simp [*, errW_none, errW_some] <;> rfl), by repeat (first | (with_reducible first | exact HB.out | apply below_alloc | apply pw_below_drewN | apply below_drew1) | exact HB.out)⟩
end Go.Proofs.Ythplndalbfcbbaa.PA
namespace Go.Proofs.Ythplndalbfcbbaa.PA
open Go.RowKit Go.Proofs.YthplndalbfcbbaaW.PrintWords Go.Proofs.YthplndalbfcbbaaW.PrintLast Go.Proofs.YthplndalbfcbbaaW.PrintMore
attribute [local go_sem] max2_int min2_int max_two min_two max_three min_three max_four min_four   -- for this text's walks alone
set_option linter.unusedVariables false
set_option linter.unusedSimpArgs false
end Go.Proofs.Ythplndalbfcbbaa.PA
namespace Go.Proofs.Ythplndalbfcbbaa.PA
open Go.RowKit Go.Proofs.YthplndalbfcbbaaW.PrintWords Go.Proofs.YthplndalbfcbbaaW.PrintLast Go.Proofs.YthplndalbfcbbaaW.PrintMore
attribute [local go_sem] max2_int min2_int max_two min_two max_three min_three max_four min_four   -- for this text's walks alone
set_option linter.unusedVariables false
set_option linter.unusedSimpArgs false
end Go.Proofs.Ythplndalbfcbbaa.PA
namespace Go.Proofs.Ythplndalbfcbbaa.PA
open Go.RowKit Go.Proofs.YthplndalbfcbbaaW.PrintWords Go.Proofs.YthplndalbfcbbaaW.PrintLast Go.Proofs.YthplndalbfcbbaaW.PrintMore
attribute [local go_sem] max2_int min2_int max_two min_two max_three min_three max_four min_four   -- for this text's walks alone
set_option linter.unusedVariables false
set_option linter.unusedSimpArgs false
end Go.Proofs.Ythplndalbfcbbaa.PA
namespace Go.Proofs.Ythplndalbfcbbaa.PA
open Go.RowKit Go.Proofs.YthplndalbfcbbaaW.PrintWords Go.Proofs.YthplndalbfcbbaaW.PrintLast Go.Proofs.YthplndalbfcbbaaW.PrintMore
attribute [local go_sem] max2_int min2_int max_two min_two max_three min_three max_four min_four   -- for this text's walks alone
set_option linter.unusedVariables false
set_option linter.unusedSimpArgs false
end Go.Proofs.Ythplndalbfcbbaa.PA
namespace Go.Proofs.Ythplndalbfcbbaa.PA
open Go.RowKit Go.Proofs.YthplndalbfcbbaaW.PrintWords Go.Proofs.YthplndalbfcbbaaW.PrintLast Go.Proofs.YthplndalbfcbbaaW.PrintMore
attribute [local go_sem] max2_int min2_int max_two min_two max_three min_three max_four min_four   -- for this text's walks alone
set_option linter.unusedVariables false
set_option linter.unusedSimpArgs false
end Go.Proofs.Ythplndalbfcbbaa.PA
namespace Go.Proofs.Ythplndalbfcbbaa.PA
open Go.RowKit Go.Proofs.YthplndalbfcbbaaW.PrintWords Go.Proofs.YthplndalbfcbbaaW.PrintLast Go.Proofs.YthplndalbfcbbaaW.PrintMore
attribute [local go_sem] max2_int min2_int max_two min_two max_three min_three max_four min_four   -- for this text's walks alone
set_option linter.unusedVariables false
set_option linter.unusedSimpArgs false
end Go.Proofs.Ythplndalbfcbbaa.PA
namespace Go.Proofs.Ythplndalbfcbbaa.PA
open Go.RowKit Go.Proofs.YthplndalbfcbbaaW.PrintWords Go.Proofs.YthplndalbfcbbaaW.PrintLast Go.Proofs.YthplndalbfcbbaaW.PrintMore
attribute [local go_sem] max2_int min2_int max_two min_two max_three min_three max_four min_four   -- for this text's walks alone
set_option linter.unusedVariables false
set_option linter.unusedSimpArgs false
end Go.Proofs.Ythplndalbfcbbaa.PA
namespace Go.Proofs.Ythplndalbfcbbaa.PA
open Go.RowKit Go.Proofs.YthplndalbfcbbaaW.PrintWords Go.Proofs.YthplndalbfcbbaaW.PrintLast Go.Proofs.YthplndalbfcbbaaW.PrintMore
attribute [local go_sem] max2_int min2_int max_two min_two max_three min_three max_four min_four   -- for this text's walks alone
set_option linter.unusedVariables false
set_option linter.unusedSimpArgs false
end Go.Proofs.Ythplndalbfcbbaa.PA
set_option linter.unusedSimpArgs false
set_option linter.unusedVariables false
namespace Go.Proofs.Ythplndalbfcbbaa
open Go.RowKit Go.Proofs.YthplndalbfcbbaaW.PrintWords
theorem ofS_mk (t : Tm) : ofS ⟨t.h, toSL t.args⟩ = t := by cases t; simp only [ofS, Tm.h, Tm.args, ofSL_toSL]
theorem wrap_next {i : Int} (h0 : 0 ≤ i) (h1 : i ≤ 9223372036854775806) : wrap64 (i + 1) = i + 1 := by unfold wrap64; omega
theorem rd_nat (l : List Int) (i : Nat) (h : i < l.length) : rd l (i : Int) = l[i] := by simp [rd, h]
theorem rdB_nat (l : List Bd) (i : Nat) (h : i < l.length) : PA.rd_T60 (toBL l) (i : Int) = toB l[i] := by simp [PA.rd_T60, toBL, h]
theorem rdT_nat (l : List Tm) (i : Nat) (h : i < l.length) : PA.rd_T25 (toSL l) (i : Int) = toS l[i] := by simp [PA.rd_T25, toSL_map, h]
theorem same_pureG {p t : Tm} (hp : p.size ≤ 9000000000000000000) (ht : t.size ≤ 9000000000000000000) : PA.elenchusref01_Same.f p.h (toSL p.args) t.h (toSL t.args) = some (sameB p t) := by
  unfold PA.elenchusref01_Same.f
  rw [ofS_mk, ofS_mk, if_pos ⟨hp, ht⟩]
end Go.Proofs.Ythplndalbfcbbaa
set_option linter.unusedSimpArgs false
set_option linter.unusedVariables false
namespace Go.Proofs.Ythplndalbfcbbaa
open Go.RowKit Go.Proofs.YthplndalbfcbbaaW.PrintWords
def Ev {α : Type} (f : Nat → Option α) (r : α) : Prop := ∃ k0, ∀ k, k0 ≤ k → f k = some r
theorem Ev.step {α : Type} {f g : Nat → Option α} {r : α} (h : Ev f r) (e : ∀ k, g (k + 1) = f k) : Ev g r := by
  obtain ⟨k0, h⟩ := h
  refine ⟨k0 + 1, fun k hk => ?_⟩
  obtain ⟨k, rfl⟩ : ∃ m, k = m + 1 := ⟨k - 1, by omega⟩
  rw [e, h k (by omega)]
theorem Ev.const {α : Type} {r : α} : Ev (fun _ => some r) r := ⟨0, fun _ _ => rfl⟩
theorem Ev.bind {α β : Type} {f : Nat → Option α} {g : Nat → α → Option β} {a : α} {r : β} (h : Ev f a) (k : Ev (fun n => g n a) r) : Ev (fun n => (f n).bind (g n)) r := by
  obtain ⟨k1, h⟩ := h
  obtain ⟨k2, k⟩ := k
  exact ⟨max k1 k2, fun n hn => by simp only [h n (by omega), Option.bind_some, k n (by omega)]⟩
theorem Ev.congr {α : Type} {f g : Nat → Option α} {r : α} (h : Ev f r) (e : ∀ k, g k = f k) : Ev g r := by
  obtain ⟨k0, h⟩ := h
  exact ⟨k0, fun k hk => by rw [e, h k hk]⟩
theorem step_fold (v : Int) : ∀ (L acc : List Int), v ∈ L → v ∈ L.foldl numStep acc
  | [], _, h => by simp at h
  | x :: L, acc, h => by
    rw [List.foldl_cons]
    have hm : ∀ (L acc : List Int), v ∈ acc → v ∈ L.foldl numStep acc := by
      intro L
      induction L with
      | nil => intro acc h; exact h
      | cons y L ih => intro acc h; exact ih _ (mem_numStep.2 (.inl h))
    rcases List.mem_cons.1 h with rfl | h
    · exact hm L _ (mem_step _ _)
    · exact step_fold v L _ h
theorem fold_vstep : ∀ (hs L acc : List Int), (hs.foldl vstep L).foldl numStep acc = hs.foldl vstep (L.foldl numStep acc)
  | [], _, _ => rfl
  | h :: hs, L, acc => by
    rw [List.foldl_cons, List.foldl_cons, fold_vstep hs]
    congr 1
    unfold vstep
    by_cases hc : h < 0
    · by_cases hm : (-1 - h) ∈ L
      · rw [if_neg (fun e => e.2 hm), if_neg (fun e => e.2 (step_fold _ _ _ hm))]
      · rw [if_pos ⟨hc, hm⟩, List.foldl_append]
        simp only [List.foldl_cons, List.foldl_nil, numStep]
        by_cases h2 : (-1 - h) ∈ L.foldl numStep acc
        · rw [if_pos h2, if_neg (fun e => e.2 h2)]
        · rw [if_neg h2, if_pos ⟨hc, h2⟩]
    · rw [if_neg (fun e => hc e.1), if_neg (fun e => hc e.1)]
theorem fold_num {t : Tm} (hg : t.good = true) (acc : List Int) : (numT [] t).foldl numStep acc = numT acc t := by
  rw [num_heads t [] hg, num_heads t acc hg, fold_vstep]; rfl
theorem foldl_drop (vs : List Int) (j : Nat) (h : j < vs.length) (acc : List Int) : (vs.drop j).foldl numStep acc = (vs.drop (j + 1)).foldl numStep (numStep acc vs[j]) := by
  rw [List.drop_eq_getElem_cons h, List.foldl_cons]
theorem numL_drop (l : List Tm) (i : Nat) (h : i < l.length) (acc : List Int) : numL acc (l.drop i) = numL (numT acc l[i]) (l.drop (i + 1)) := by
  rw [List.drop_eq_getElem_cons h, numL]
end Go.Proofs.Ythplndalbfcbbaa
set_option linter.unusedSimpArgs false
set_option linter.unusedVariables false
namespace Go.Proofs.Ythplndalbfcbbaa
open Go.RowKit Go.Proofs.YthplndalbfcbbaaW.PrintWords
def OkN (l : List Int) : Prop := l.Nodup ∧ ∀ x, x ∈ l → 0 ≤ x ∧ x < (256 : Nat)
theorem OkN.len {l : List Int} (h : OkN l) : l.length ≤ 256 := pigeon 256 l h.1 h.2
theorem OkN.nil : OkN [] := ⟨List.nodup_nil, by simp⟩
theorem OkN.step {l : List Int} (h : OkN l) {v : Int} (h0 : 0 ≤ v) (h1 : v < (256 : Nat)) : OkN (numStep l v) := by
  unfold numStep
  split
  · exact h
  · rename_i hm
    refine ⟨List.nodup_append.2 ⟨h.1, by simp, fun a ha b hb => ?_⟩, fun x hx => ?_⟩
    · simp only [List.mem_singleton] at hb
      subst hb
      exact fun e => hm (e ▸ ha)
    · rcases List.mem_append.1 hx with hx | hx
      · exact h.2 x hx
      · simp only [List.mem_singleton] at hx
        subst hx; exact ⟨h0, h1⟩
theorem OkN.heads : ∀ (hs : List Int) {l : List Int}, OkN l → (∀ h, h ∈ hs → -256 ≤ h) → OkN (hs.foldl vstep l)
  | [], _, h, _ => h
  | x :: hs, l, h, hr => by
    rw [List.foldl_cons]
    refine OkN.heads hs ?_ fun y hy => hr y (by simp [hy])
    have hx := hr x (by simp)
    unfold vstep
    split
    · rename_i hc
      have := h.step (v := -1 - x) (by omega) (by omega)
      unfold numStep at this
      rwa [if_neg hc.2] at this
    · exact h
theorem OkN.num {l : List Int} (h : OkN l) {t : Tm} (hg : t.good = true) : OkN (numT l t) := by
  rw [num_heads t l hg]
  exact h.heads _ fun x hx => (good_heads t hg x hx).1
theorem varsG_l1 {h : Int} {l : List Tm} {i : Nat} {vs : List Int} (hvs : OkN vs) (hi : i ≤ 1000000000) {r : List Int} :
    ∀ (d j : Nat) (acc : List Int), j + d = vs.length → OkN acc → Ev (fun k => PA.elenchusref01_Vars.l0 k ((vs.drop j).foldl numStep acc) ((i + 1 : Nat) : Int) h (toSL l)) r → Ev (fun k => PA.elenchusref01_Vars.l1 k acc (i : Int) vs (j : Int) h (toSL l)) r
  | 0, j, acc, hj, ha, hr => by
    have hvl := hvs.len
    rw [List.drop_eq_nil_of_le (by omega), List.foldl_nil] at hr
    refine hr.step fun k => ?_
    simp only [PA.elenchusref01_Vars.l1]
    rw [if_neg (by omega), wrap_next (by omega) (by omega)]; rfl
  | d + 1, j, acc, hj, ha, hr => by
    have hvl := hvs.len
    have hal := ha.len
    have hlt : j < vs.length := by omega
    have hv := hvs.2 _ (List.getElem_mem hlt)
    rw [foldl_drop vs j hlt] at hr
    refine (varsG_l1 hvs hi d (j + 1) (numStep acc vs[j]) (by omega) (ha.step hv.1 hv.2) hr).step fun k => ?_
    rw [PA.elenchusref01_Vars.l1, if_pos (by omega), if_pos (by omega), rd_nat vs j hlt, wrap_next (by omega) (by omega)]
    simp only [PA.elenchusref01_In.f, Option.bind_some]
    by_cases hm : vs[j] ∈ acc
    · rw [if_pos (hasB_iff.2 hm), show numStep acc vs[j] = acc by simp [numStep, hm]]; rfl
    · rw [if_neg (fun e => hm (hasB_iff.1 e)), if_pos (by omega), show numStep acc vs[j] = acc ++ [vs[j]] by simp [numStep, hm]]; rfl
theorem varsG_l0 (n0 : Nat) (ih : ∀ t : Tm, t.size ≤ n0 → t.good = true → Ev (fun k => PA.elenchusref01_Vars.f k t.h (toSL t.args)) (numT [] t)) {h : Int} {l : List Tm} (hl : l.length ≤ 1000000000) (hk : ∀ t, t ∈ l → t.size ≤ n0 ∧ t.good = true) :
    ∀ (d i : Nat) (acc : List Int), i + d = l.length → OkN acc → Ev (fun k => PA.elenchusref01_Vars.l0 k acc (i : Int) h (toSL l)) (numL acc (l.drop i))
  | 0, i, acc, hi, ha => by
    rw [List.drop_eq_nil_of_le (by omega), numL]
    refine Ev.const.step fun k => ?_
    simp only [PA.elenchusref01_Vars.l0]
    rw [if_neg (by rw [toSL_length]; omega)]
  | d + 1, i, acc, hi, ha => by
    have hlt : i < l.length := by omega
    obtain ⟨g1, g3⟩ := hk l[i] (List.getElem_mem hlt)
    have hrec := varsG_l0 n0 ih (h := h) hl hk d (i + 1) (numT acc l[i]) (by omega) (ha.num g3)
    rw [← numL_drop l i hlt, ← fold_num g3] at hrec
    have hl1 := varsG_l1 (h := h) (l := l) (i := i) (vs := numT [] l[i]) (OkN.nil.num g3) (by omega) (numT [] l[i]).length 0 acc (by omega) ha (by rw [List.drop_zero]; exact hrec)
    refine ((ih l[i] g1 g3).bind (g := fun k v => PA.elenchusref01_Vars.l1 k acc (i : Int) v ((0 : Nat) : Int) h (toSL l)) hl1).step fun k => ?_
    rw [PA.elenchusref01_Vars.l0, if_pos (by rw [toSL_length]; omega), if_pos (by omega), rdT_nat l i hlt, toS_f0, toS_f1]; rfl
theorem varsG_f (n0 : Nat) : ∀ (t : Tm), t.size ≤ n0 → t.good = true → Ev (fun k => PA.elenchusref01_Vars.f k t.h (toSL t.args)) (numT [] t) := by
  induction n0 with
  | zero => intro t ht; have := t.size_eq; omega
  | succ n0 ih =>
    intro t ht hg
    obtain ⟨hh, hl8, hkids⟩ := good_args hg
    have hsz := t.size_eq
    have h0 := varsG_l0 n0 ih (h := t.h) (l := t.args) (by omega) (fun u hu => by
      obtain ⟨i, hi, rfl⟩ := List.getElem_of_mem hu
      have := Tm.size_get t.args i hi
      exact ⟨by omega, hkids i hi⟩)
    have hj : ∀ acc : List Int, OkN acc → Ev (fun k => PA.elenchusref01_Vars.j0 k acc t.h (toSL t.args)) (numL acc t.args) := fun acc ha => by
      have := h0 t.args.length 0 acc (by omega) ha
      rw [List.drop_zero] at this
      exact this.step fun k => by rw [PA.elenchusref01_Vars.j0]; rfl
    by_cases hneg : t.h < 0
    · have ha : t.args = [] := by cases t; exact good_var hg hneg
      have hr : numT [] t = numL [-1 - t.h] t.args := by rw [(renT_neg [] t hneg).2, ha]; simp [numStep, numL]
      rw [hr]
      have hok : OkN [-1 - t.h] := by
        have := OkN.nil.step (v := -1 - t.h) (by omega) (by omega)
        simpa [numStep] using this
      refine (hj [-1 - t.h] hok).step fun k => ?_
      rw [PA.elenchusref01_Vars.f, if_pos hneg, if_pos (by simp)]
      have : wrap64 (-1 - t.h) = -1 - t.h := by unfold wrap64; omega
      rw [this]; rfl
    · rw [(renT_pos [] t hneg).2]
      refine (hj [] OkN.nil).step fun k => ?_
      rw [PA.elenchusref01_Vars.f, if_neg hneg]
theorem refvars {t : Tm} (hg : t.good = true) : Ev (fun k => PA.elenchusref01_Vars.f k t.h (toSL t.args)) (varsT t) := by
  have := varsG_f t.size t (Nat.le_refl _) hg
  rwa [num_heads t [] hg] at this
theorem size_l0 (n0 : Nat) (ih : ∀ t : Tm, t.size ≤ n0 → t.size ≤ 9000000000000000000 → Ev (fun k => PA.elenchusref01_Size.f k t.h (toSL t.args)) (t.size : Int)) {h : Int} {l : List Tm} (hl : 1 + Tm.sizes l ≤ 9000000000000000000) (hk : Tm.sizes l ≤ n0) :
    ∀ (d i : Nat), i + d = l.length → Ev (fun k => PA.elenchusref01_Size.l0 k ((1 + Tm.sizes (l.take i) : Nat) : Int) (i : Int) h (toSL l)) ((1 + Tm.sizes l : Nat) : Int)
  | 0, i, hi => by
    have hll := Tm.sizes_length l
    rw [List.take_of_length_le (by omega)]
    refine Ev.const.step fun k => ?_
    rw [PA.elenchusref01_Size.l0, if_neg (by rw [toSL_length]; omega)]
  | d + 1, i, hi => by
    have hlt : i < l.length := by omega
    have hll := Tm.sizes_length l
    have h1 := Tm.size_get l i hlt
    have h2 := Tm.sizes_take l i hlt
    have h3 := Tm.sizes_take_le l (i + 1)
    have hrec := size_l0 n0 ih (h := h) hl hk d (i + 1) (by omega)
    have e : wrap64 (((1 + Tm.sizes (l.take i) : Nat) : Int) + (l[i].size : Int)) = ((1 + Tm.sizes (l.take (i + 1)) : Nat) : Int) := by
      rw [h2]; unfold wrap64; push_cast; omega
    refine ((ih l[i] (by omega) (by omega)).bind (g := fun k v => PA.elenchusref01_Size.l0 k (wrap64 (((1 + Tm.sizes (l.take i) : Nat) : Int) + v)) ((i + 1 : Nat) : Int) h (toSL l)) (by rw [e]; exact hrec)).step fun k => ?_
    rw [PA.elenchusref01_Size.l0, if_pos (by rw [toSL_length]; omega), if_pos (by omega), rdT_nat l i hlt, toS_f0, toS_f1, wrap_next (by omega) (by omega)]; rfl
theorem size_f (n0 : Nat) : ∀ (t : Tm), t.size ≤ n0 → t.size ≤ 9000000000000000000 → Ev (fun k => PA.elenchusref01_Size.f k t.h (toSL t.args)) (t.size : Int) := by
  induction n0 with
  | zero => intro t ht; have := t.size_eq; omega
  | succ n0 ih =>
    intro t ht hn
    have hsz := t.size_eq
    have h0 := size_l0 n0 ih (h := t.h) (l := t.args) (by omega) (by omega) t.args.length 0 (by omega)
    rw [← hsz] at h0
    simp only [List.take_zero, Tm.sizes] at h0
    exact h0.step fun k => by rw [PA.elenchusref01_Size.f]; rfl
theorem depth_l0 (n0 : Nat) (ih : ∀ t : Tm, t.size ≤ n0 → t.size ≤ 1000000000 → Ev (fun k => PA.elenchusref01_Depth.f k t.h (toSL t.args)) (t.depth : Int)) {h : Int} {l : List Tm} (hl : 1 + Tm.sizes l ≤ 1000000000) (hk : Tm.sizes l ≤ n0) :
    ∀ (d i : Nat), i + d = l.length → Ev (fun k => PA.elenchusref01_Depth.l0 k (Tm.depths (l.take i) : Int) (i : Int) h (toSL l)) ((Tm.depths l + 1 : Nat) : Int)
  | 0, i, hi => by
    have hll := Tm.sizes_length l
    have hd := Tm.depths_le l
    rw [List.take_of_length_le (by omega)]
    refine Ev.const.step fun k => ?_
    rw [PA.elenchusref01_Depth.l0, if_neg (by rw [toSL_length]; omega), wrap_next (by omega) (by omega)]
    push_cast; rfl
  | d + 1, i, hi => by
    have hlt : i < l.length := by omega
    have hll := Tm.sizes_length l
    have h1 := Tm.size_get l i hlt
    have h2 := Tm.depths_take l i hlt
    have hrec := depth_l0 n0 ih (h := h) hl hk d (i + 1) (by omega)
    have e : mx (Tm.depths (l.take i) : Int) (l[i].depth : Int) = (Tm.depths (l.take (i + 1)) : Int) := by
      rw [h2]; unfold mx; omega
    refine ((ih l[i] (by omega) (by omega)).bind (g := fun k v => PA.elenchusref01_Depth.l0 k (mx (Tm.depths (l.take i) : Int) v) ((i + 1 : Nat) : Int) h (toSL l)) (by rw [e]; exact hrec)).step fun k => ?_
    rw [PA.elenchusref01_Depth.l0, if_pos (by rw [toSL_length]; omega), if_pos (by omega), rdT_nat l i hlt, toS_f0, toS_f1, wrap_next (by omega) (by omega)]; rfl
theorem depth_f (n0 : Nat) : ∀ (t : Tm), t.size ≤ n0 → t.size ≤ 1000000000 → Ev (fun k => PA.elenchusref01_Depth.f k t.h (toSL t.args)) (t.depth : Int) := by
  induction n0 with
  | zero => intro t ht; have := t.size_eq; omega
  | succ n0 ih =>
    intro t ht hn
    have hsz := t.size_eq
    have h0 := depth_l0 n0 ih (h := t.h) (l := t.args) (by omega) (by omega) t.args.length 0 (by omega)
    have e : (Tm.depths t.args + 1 : Nat) = t.depth := by rw [Tm.depth_eq]; omega
    rw [e] at h0
    simp only [List.take_zero, Tm.depths] at h0
    exact h0.step fun k => by rw [PA.elenchusref01_Depth.f]; rfl
theorem good_l0 (n0 : Nat) (ih : ∀ t : Tm, t.size ≤ n0 → t.good = true → Ev (fun k => PA.elenchusref01_good.f k t.h (toSL t.args)) true) {h : Int} {l : List Tm} (hl : l.length ≤ 8) (hk : ∀ t, t ∈ l → t.size ≤ n0 ∧ t.good = true) :
    ∀ (d i : Nat), i + d = l.length → Ev (fun k => PA.elenchusref01_good.l0 k (i : Int) h (toSL l)) true
  | 0, i, hi => by
    refine Ev.const.step fun k => ?_
    rw [PA.elenchusref01_good.l0, if_neg (by rw [toSL_length]; omega)]
  | d + 1, i, hi => by
    have hlt : i < l.length := by omega
    obtain ⟨g1, g2⟩ := hk _ (List.getElem_mem hlt)
    have hrec := good_l0 n0 ih (h := h) hl hk d (i + 1) (by omega)
    refine ((ih l[i] g1 g2).bind (g := fun k v => if v = true then PA.elenchusref01_good.l0 k ((i + 1 : Nat) : Int) h (toSL l) else some false) (by simpa using hrec)).step fun k => ?_
    rw [PA.elenchusref01_good.l0, if_pos (by rw [toSL_length]; omega), if_pos (by omega), rdT_nat l i hlt, toS_f0, toS_f1, wrap_next (by omega) (by omega)]; rfl
theorem good_top {t : Tm} (hg : t.good = true) : t.h ≤ 1023 := (good_heads t hg t.h (by rw [Tm.heads_eq]; exact List.mem_cons_self)).2
theorem good_f (n0 : Nat) : ∀ (t : Tm), t.size ≤ n0 → t.good = true → Ev (fun k => PA.elenchusref01_good.f k t.h (toSL t.args)) true := by
  induction n0 with
  | zero => intro t ht; have := t.size_eq; omega
  | succ n0 ih =>
    intro t ht hg
    obtain ⟨hh, hl8, hkids⟩ := good_args hg
    have htop := good_top hg
    have hsz := t.size_eq
    have h0 := good_l0 n0 ih (h := t.h) (l := t.args) hl8 (fun u hu => by
      obtain ⟨i, hi, rfl⟩ := List.getElem_of_mem hu
      have := Tm.size_get t.args i hi
      exact ⟨by omega, hkids i hi⟩) t.args.length 0 (by omega)
    have hj : Ev (fun k => PA.elenchusref01_good.j0 k (decide (((toSL t.args).length : Int) > 8)) t.h (toSL t.args)) true := by
      refine h0.step fun k => ?_
      rw [PA.elenchusref01_good.j0, if_neg (by rw [toSL_length]; simp; omega)]; rfl
    refine hj.step fun k => ?_
    rw [PA.elenchusref01_good.f]
    by_cases hneg : t.h < 0
    · have ha : t.args = [] := by cases t; exact good_var hg hneg
      rw [if_pos hneg, if_neg (by rw [toSL_length, ha]; simp), if_neg (by omega), if_neg (by omega)]
    · rw [if_neg hneg, if_neg (by omega), if_neg (by omega)]
theorem refcheck {t : Tm} (hg : t.good = true) (hs : t.size ≤ 9000000000000000000) : Ev (fun k => PA.elenchusref01_Check.f k t.h (toSL t.args)) (chk t) := by
  unfold PA.elenchusref01_Check.f
  refine (size_f _ t (Nat.le_refl _) hs).bind (g := fun k v => if v > 400 then some 2 else (PA.elenchusref01_Depth.f k t.h (toSL t.args)).bind fun t336 => if t336 > 40 then some 7 else (PA.elenchusref01_good.f k t.h (toSL t.args)).bind fun t337 => if t337 = true then some 0 else some 1) ?_
  unfold chk
  by_cases h1 : 400 < t.size
  · rw [if_pos h1]
    exact Ev.const.congr fun k => by rw [if_pos (by omega)]
  · rw [if_neg h1]
    refine Ev.congr (f := fun k => (PA.elenchusref01_Depth.f k t.h (toSL t.args)).bind fun t336 => if t336 > 40 then some 7 else (PA.elenchusref01_good.f k t.h (toSL t.args)).bind fun t337 => if t337 = true then some 0 else some 1) ?_ fun k => by rw [if_neg (by omega)]
    refine (depth_f _ t (Nat.le_refl _) (by omega)).bind (g := fun k v => if v > 40 then some 7 else (PA.elenchusref01_good.f k t.h (toSL t.args)).bind fun t337 => if t337 = true then some 0 else some 1) ?_
    by_cases h2 : 40 < t.depth
    · rw [if_pos h2]
      exact Ev.const.congr fun k => by rw [if_pos (by omega)]
    · rw [if_neg h2, if_pos hg]
      refine Ev.congr (f := fun k => (PA.elenchusref01_good.f k t.h (toSL t.args)).bind fun t337 => if t337 = true then some 0 else some 1) ?_ fun k => by rw [if_neg (by omega)]
      exact (good_f _ t (Nat.le_refl _) hg).bind (g := fun k v => if v = true then some 0 else some 1) Ev.const
theorem cntL_drop2 (l : List Tm) (k : Nat) (h : k < l.length) (m x : Int) : cntL (l.drop k) m x = if x ≤ m then cntL (l.drop (k + 1)) m (x + cntT l[k] (m - x)) else x := by
  rw [List.drop_eq_getElem_cons h]; simp [cntL]
theorem count_l0 (n0 : Nat) (ih : ∀ (t : Tm) (m : Int), t.size ≤ n0 → 0 ≤ m → m ≤ 1000000 → Ev (fun k => PA.elenchusref01_Count.f k t.h (toSL t.args) m) (cntT t m)) {h m : Int} {l : List Tm} (hm : 0 ≤ m) (hm1 : m ≤ 1000000) (hk : ∀ t, t ∈ l → t.size ≤ n0) :
    ∀ (d i : Nat) (x : Int), i + d = l.length → (i : Int) + 1 ≤ x → x ≤ m + 1 → Ev (fun k => PA.elenchusref01_Count.l0 k m x (i : Int) h (toSL l)) (cntL (l.drop i) m x)
  | 0, i, x, hi, h0, h1 => by
    rw [List.drop_eq_nil_of_le (by omega), cntL]
    refine (Ev.const.step (g := fun k => PA.elenchusref01_Count.j1 k m x (i : Int) false h (toSL l)) fun k => ?_).step fun k => ?_
    · rw [PA.elenchusref01_Count.j1]; simp
    · rw [PA.elenchusref01_Count.l0, if_neg (by rw [toSL_length]; omega)]
  | d + 1, i, x, hi, h0, h1 => by
    have hlt : i < l.length := by omega
    rw [cntL_drop2 l i hlt]
    refine Ev.step (f := fun k => PA.elenchusref01_Count.j1 k m x (i : Int) (decide (x ≤ m)) h (toSL l)) ?_ fun k => by rw [PA.elenchusref01_Count.l0, if_pos (by rw [toSL_length]; omega)]
    by_cases hx : x ≤ m
    · rw [if_pos hx]
      have hr := cntT_range l[i] (m - x) (by omega)
      have hrec := count_l0 n0 ih (h := h) hm hm1 hk d (i + 1) (x + cntT l[i] (m - x)) (by omega) (by push_cast; omega) (by omega)
      have e1 : wrap64 (m - x) = m - x := by unfold wrap64; omega
      have e2 : wrap64 (x + cntT l[i] (m - x)) = x + cntT l[i] (m - x) := by unfold wrap64; omega
      have hi2 := ih l[i] (m - x) (hk _ (List.getElem_mem hlt)) (by omega) (by omega)
      refine (hi2.bind (g := fun k v => PA.elenchusref01_Count.l0 k m (wrap64 (x + v)) ((i + 1 : Nat) : Int) h (toSL l)) (by rw [e2]; exact hrec)).step fun k => ?_
      rw [PA.elenchusref01_Count.j1, if_pos (by simpa using hx), if_pos (by omega), if_pos (by rw [toSL_length]; omega), rdT_nat l i hlt, toS_f0, toS_f1, wrap_next (by omega) (by omega), e1]; rfl
    · rw [if_neg hx]
      refine Ev.const.step fun k => ?_
      rw [PA.elenchusref01_Count.j1, if_neg (by simpa using hx)]
theorem count_f (n0 : Nat) : ∀ (t : Tm) (m : Int), t.size ≤ n0 → 0 ≤ m → m ≤ 1000000 → Ev (fun k => PA.elenchusref01_Count.f k t.h (toSL t.args) m) (cntT t m) := by
  induction n0 with
  | zero => intro t m ht; have := t.size_eq; omega
  | succ n0 ih =>
    intro t m ht hm hm1
    have hsz := t.size_eq
    have h0 := count_l0 n0 ih (h := t.h) (l := t.args) hm hm1 (fun u hu => by
      obtain ⟨i, hi, rfl⟩ := List.getElem_of_mem hu
      have := Tm.size_get t.args i hi
      omega) t.args.length 0 1 (by omega) (by omega) (by omega)
    rw [List.drop_zero, ← cntT_eq] at h0
    exact h0.step fun k => by rw [PA.elenchusref01_Count.f]; rfl
def cntR (n : Int) : List Tm → Int
  | [] => n
  | t :: ts => if n ≤ 60 then cntR (n + cntT t 60) ts else n
def fewR (ts : List Tm) : Bool := decide (cntR 0 ts ≤ 60)
theorem cntR_drop (l : List Tm) (k : Nat) (h : k < l.length) (n : Int) : cntR n (l.drop k) = if n ≤ 60 then cntR (n + cntT l[k] 60) (l.drop (k + 1)) else n := by
  rw [List.drop_eq_getElem_cons h]; simp [cntR]
theorem cntR_le : ∀ (ts : List Tm) (n : Int), 0 ≤ n → n ≤ cntR n ts
  | [], n, _ => by simp [cntR]
  | t :: ts, n, h => by
    simp only [cntR]
    split
    · have := cntT_range t 60 (by omega)
      have := cntR_le ts (n + cntT t 60) (by omega)
      omega
    · omega
theorem cntR_sizes : ∀ (ts : List Tm) (n : Int), 0 ≤ n → cntR n ts ≤ 60 → n + Tm.sizes ts ≤ 60
  | [], n, _, h => by simpa [cntR, Tm.sizes] using h
  | t :: ts, n, h0, h => by
    simp only [cntR] at h
    split at h
    · have hr := cntT_range t 60 (by omega)
      have hz := cntT_size t 60 (by omega)
      have hle := cntR_le ts (n + cntT t 60) (by omega)
      have := cntR_sizes ts _ (by omega) h
      have h5 := hz.2 (by omega)
      have h6 := hz.1 (by omega)
      simp only [Tm.sizes]; push_cast; omega
    · omega
theorem fewR_sizes {ts : List Tm} (h : fewR ts = true) : Tm.sizes ts ≤ 60 := by
  have := cntR_sizes ts 0 (by omega) (by simpa [fewR] using h); omega
theorem few4_l0 (l : List Tm) : ∀ (d i : Nat) (x : Int), i + d = l.length → (i : Int) ≤ x → x ≤ 200 → Ev (fun k => PA.elenchusref04_Few.l0 k (toSL l) x (i : Int)) (decide (cntR x (l.drop i) ≤ 60))
  | 0, i, x, hi, h0, h1 => by
    rw [List.drop_eq_nil_of_le (by omega), cntR]
    refine (Ev.const.step (g := fun k => PA.elenchusref04_Few.j1 k (toSL l) x (i : Int) false) fun k => ?_).step fun k => ?_
    · rw [PA.elenchusref04_Few.j1]; simp
    · rw [PA.elenchusref04_Few.l0, if_neg (by rw [toSL_length]; omega)]
  | d + 1, i, x, hi, h0, h1 => by
    have hlt : i < l.length := by omega
    rw [cntR_drop l i hlt]
    refine Ev.step (f := fun k => PA.elenchusref04_Few.j1 k (toSL l) x (i : Int) (decide (x ≤ 60))) ?_ fun k => by rw [PA.elenchusref04_Few.l0, if_pos (by rw [toSL_length]; omega)]
    by_cases hx : x ≤ 60
    · rw [if_pos hx]
      have hr := cntT_range l[i] 60 (by omega)
      have hrec := few4_l0 l d (i + 1) (x + cntT l[i] 60) (by omega) (by push_cast; omega) (by omega)
      have e2 : wrap64 (x + cntT l[i] 60) = x + cntT l[i] 60 := by unfold wrap64; omega
      have hi2 := count_f _ l[i] 60 (Nat.le_refl _) (by omega) (by omega)
      refine (hi2.bind (g := fun k v => PA.elenchusref04_Few.l0 k (toSL l) (wrap64 (x + v)) ((i + 1 : Nat) : Int)) (by rw [e2]; exact hrec)).step fun k => ?_
      rw [PA.elenchusref04_Few.j1, if_pos (by simpa using hx), if_pos (by omega), if_pos (by rw [toSL_length]; omega), rdT_nat l i hlt, toS_f0, toS_f1, wrap_next (by omega) (by omega)]; rfl
    · rw [if_neg hx]
      refine Ev.const.step fun k => ?_
      rw [PA.elenchusref04_Few.j1, if_neg (by simpa using hx)]
theorem few4_f (l : List Tm) : Ev (fun k => PA.elenchusref04_Few.f k (toSL l)) (fewR l) := by
  have := few4_l0 l l.length 0 0 (by omega) (by omega) (by omega)
  rw [List.drop_zero] at this
  exact this
theorem wrap_var {v : Int} (h0 : 0 ≤ v) (h1 : v ≤ 1000000000) : wrap64 (-1 - v) = -1 - v := by unfold wrap64; omega
theorem refof_l0 (bs : List Bd) (hl : bs.length ≤ 1000000) {v : Int} (h0 : 0 ≤ v) (h1 : v ≤ 1000000000) : ∀ (d i : Nat), i + d = bs.length → Ev (fun k => PA.elenchusref03_Of.l0 k (toBL bs) v (i : Int)) ((ofBs v (bs.drop i)).h, toSL (ofBs v (bs.drop i)).args)
  | 0, i, hi => by
    rw [List.drop_eq_nil_of_le (by omega)]
    refine Ev.const.step fun k => ?_
    rw [PA.elenchusref03_Of.l0, if_neg (by rw [toBL_length]; omega)]
    simp only [PA.elenchusref01_Var.f, Option.bind_some, ofBs, Tm.h, Tm.args, toSL, wrap_var h0 h1]
  | d + 1, i, hi => by
    have hlt : i < bs.length := by omega
    have hrec := refof_l0 bs hl h0 h1 d (i + 1) (by omega)
    rw [ofBs_drop bs i hlt]
    by_cases hv : bs[i].v = v
    · rw [if_pos hv]
      refine Ev.const.step fun k => ?_
      rw [PA.elenchusref03_Of.l0, if_pos (by rw [toBL_length]; omega), if_pos (by omega), rdB_nat bs i hlt, if_pos (by exact hv)]
      simp only [toB, toS_f0, toS_f1]
    · rw [if_neg hv]
      refine hrec.step fun k => ?_
      rw [PA.elenchusref03_Of.l0, if_pos (by rw [toBL_length]; omega), if_pos (by omega), rdB_nat bs i hlt, if_neg (by exact hv), wrap_next (by omega) (by omega)]; rfl
theorem refof (bs : List Bd) (hl : bs.length ≤ 1000000) {v : Int} (h0 : 0 ≤ v) (h1 : v ≤ 1000000000) : Ev (fun k => PA.elenchusref03_Of.f k (toBL bs) v) ((ofBs v bs).h, toSL (ofBs v bs).args) := by
  have := refof_l0 bs hl h0 h1 bs.length 0 (by omega)
  rw [List.drop_zero] at this
  exact this
theorem bothL_succ (s u : List Bd) (i : Nat) : bothL s u (upto (i + 1)) = bothL s u (upto i) ++ if movesB s u (i : Int) = true then [⟨(i : Int), bothT s u (i : Int)⟩] else [] := by
  rw [upto_succ]
  unfold bothL
  rw [List.filter_append, List.map_append]
  congr 1
  by_cases h : movesB s u (i : Int) = true
  · rw [if_pos h, List.filter_cons, if_pos h]; rfl
  · rw [if_neg h, List.filter_cons, if_neg h]; rfl
theorem bothL_len (s u : List Bd) (i : Nat) : (bothL s u (upto i)).length ≤ i := by
  unfold bothL
  rw [List.length_map]
  exact Nat.le_trans (List.length_filter_le _ _) (by simp [upto])
theorem both_l0 (s u : List Bd) (hl : s.length ≤ 1000000) (hg : ∀ v, 0 ≤ v → v ≤ 255 → (ofBs v s).good = true) :
    ∀ (d i : Nat), i + d = 256 → Ev (fun k => PA.elenchusref03_Both.l0 k (toBL s) (toBL u) (toBL (bothL s u (upto i))) (i : Int)) (toBL (bothL s u (upto 256)))
  | 0, i, hi => by
    obtain rfl : i = 256 := by omega
    refine Ev.const.step fun k => ?_
    rw [PA.elenchusref03_Both.l0, if_neg (by omega)]
  | d + 1, i, hi => by
    have hrec := both_l0 s u hl hg d (i + 1) (by omega)
    have hgo := hg (i : Int) (by omega) (by omega)
    refine ((refof s hl (v := (i : Int)) (by omega) (by omega)).bind (g := fun k b => (PA.elenchusref03_Put.f (toBL u) b.1 b.2).bind fun b2 => if b2.1 = wrap64 (-1 - (i : Int)) then PA.elenchusref03_Both.l0 k (toBL s) (toBL u) (toBL (bothL s u (upto i))) (wrap64 ((i : Int) + 1)) else if (toBL (bothL s u (upto i))).length < 3518437208883 then PA.elenchusref03_Both.l0 k (toBL s) (toBL u) (toBL (bothL s u (upto i)) ++ [⟨(i : Int), ⟨b2.1, b2.2⟩⟩]) (wrap64 ((i : Int) + 1)) else none) ?_).step fun k => ?_
    · have e : PA.elenchusref03_Put.f (toBL u) (ofBs (i : Int) s).h (toSL (ofBs (i : Int) s).args) = some ((bothT s u (i : Int)).h, toSL (bothT s u (i : Int)).args) := by
        unfold PA.elenchusref03_Put.f
        rw [ofS_mk, ofBL_toBL, if_pos hgo]; rfl
      simp only [e, Option.bind_some]
      rw [wrap_next (by omega) (by omega), wrap_var (by omega) (by omega)]
      have hlen := bothL_len s u i
      rw [bothL_succ s u i] at hrec
      by_cases hm : (bothT s u (i : Int)).h = -1 - (i : Int)
      · have hmv : ¬ movesB s u (i : Int) = true := by simp [movesB, hm]
        rw [if_neg hmv, List.append_nil] at hrec
        exact hrec.congr fun k => by rw [if_pos hm]; rfl
      · have hmv : movesB s u (i : Int) = true := by simpa [movesB] using hm
        rw [if_pos hmv] at hrec
        refine hrec.congr fun k => ?_
        rw [if_neg hm, if_pos (by rw [toBL_length]; omega)]
        have e3 : (⟨(bothT s u (i : Int)).h, toSL (bothT s u (i : Int)).args⟩ : TS) = toS (bothT s u (i : Int)) := by
          cases h9 : bothT s u (i : Int); simp only [toS, Tm.h, Tm.args]
        rw [e3]
        simp only [toBL, List.map_append, List.map_cons, List.map_nil, toB]; rfl
    · rw [PA.elenchusref03_Both.l0, if_pos (by omega)]
theorem refboth (s u : List Bd) (hl : s.length ≤ 1000000) (hg : ∀ v, 0 ≤ v → v ≤ 255 → (ofBs v s).good = true) : Ev (fun k => PA.elenchusref03_Both.f k (toBL s) (toBL u)) (toBL (bothL s u (upto 256))) := by
  have := both_l0 s u hl hg 256 0 (by omega)
  exact this
end Go.Proofs.Ythplndalbfcbbaa
set_option linter.unusedSimpArgs false
set_option linter.unusedVariables false
namespace Go.Proofs.Ythplndalbfcbbaa
open Go.RowKit Go.Proofs.YthplndalbfcbbaaW.PrintWords
abbrev PS := PA.S135
def toP (p : Tm × Tm) : PS := ⟨toS p.1, toS p.2⟩
def toPL (L : Pairs) : List PS := L.map toP
theorem toPL_length (L : Pairs) : (toPL L).length = L.length := by simp [toPL]
theorem rdP_nat (L : Pairs) (i : Nat) (h : i < L.length) : PA.rd_T135 (toPL L) (i : Int) = toP L[i] := by simp [PA.rd_T135, toPL, h]
theorem mkS (t : Tm) : (⟨t.h, toSL t.args⟩ : TS) = toS t := by cases t; simp only [toS, Tm.h, Tm.args]
def bsOf (S : Sub) : List Bd := ((upto 256).filter (movesS S)).map fun v => ⟨v, S v⟩
theorem bsOf_len (S : Sub) : (bsOf S).length ≤ 256 := by
  unfold bsOf
  rw [List.length_map]
  exact Nat.le_trans (List.length_filter_le _ _) (by simp [upto])
section
variable {f : Env} {S : Sub}
theorem ofBs_bsOf (hS : Solved f S) {v : Int} (h0 : 0 ≤ v) (h1 : v ≤ 255) : ofBs v (bsOf S) = S v := by
  unfold bsOf
  rw [ofBs_map]
  by_cases hm : v ∈ (upto 256).filter (movesS S)
  · rw [if_pos hm]
  · rw [if_neg hm]
    have hmv : movesS S v = false := by
      cases h : movesS S v
      · rfl
      · exact absurd (List.mem_filter.2 ⟨mem_upto.2 ⟨h0, by omega⟩, h⟩) hm
    rw [moves_iff hS h0 h1] at hmv
    cases hf : f v with
    | none => rw [hS.free v hf]; rfl
    | some t => rw [hf] at hmv; cases hmv
theorem put_bsOf (hS : Solved f S) {t : Tm} (hg : t.good = true) : putT (bsOf S) t = app S t := by
  rw [app_put]
  exact app_congr t fun v hv => ofBs_bsOf hS (occ_range hg hv).1 (occ_range hg hv).2
theorem both_bsOf (hS : Solved f S) (v : Int) (y : Tm) : bothL (bsOf S) [⟨v, y⟩] (upto 256) = bsOf (fun w => app (oneS v y) (S w)) := by
  have key : ∀ w, w ∈ upto 256 → bothT (bsOf S) [⟨v, y⟩] w = app (oneS v y) (S w) := fun w hw => by
    have hw := mem_upto.1 hw
    unfold bothT
    rw [ofBs_bsOf hS hw.1 (by omega), app_put]
    refine app_congr _ fun u hu => ?_
    simp only [ofBs, oneS]
    by_cases e : v = u
    · rw [if_pos e, if_pos e.symm]
    · rw [if_neg e, if_neg (fun e' => e e'.symm)]; rfl
  have e : (upto 256).filter (movesB (bsOf S) [⟨v, y⟩]) = (upto 256).filter (movesS fun w => app (oneS v y) (S w)) := List.filter_congr fun w hw => by unfold movesB movesS; rw [key w hw]
  show ((upto 256).filter (movesB (bsOf S) [⟨v, y⟩])).map (fun w => (⟨w, bothT (bsOf S) [⟨v, y⟩] w⟩ : Bd)) = _
  rw [e]
  exact List.map_congr_left fun w hw => by rw [key w (List.mem_filter.1 hw).1]
end
def outU : Option Sub → List BS × Bool
  | some S => (toBL (bsOf S), true)
  | none => ([], false)
theorem bound_ev {a b : Int} {l m : List TS} : Ev (fun k => PA.elenchusref04_bound.f k a l b m) (if a < 0 ∧ (b < 0 → a < b) then (1 : Int) else if b < 0 then 2 else 0) := by
  unfold PA.elenchusref04_bound.f
  by_cases ha : a < 0
  · refine Ev.congr (f := fun k => PA.elenchusref04_bound.j0 k (decide (b < 0)) a l b m) ?_ fun k => by rw [if_pos ha]
    refine Ev.const.step fun k => ?_
    rw [PA.elenchusref04_bound.j0]
    by_cases hb : b < 0
    · rw [if_pos (by simpa using hb)]
      by_cases hab : a < b
      · rw [if_pos hab, if_pos ⟨ha, fun _ => hab⟩]
      · rw [if_neg hab, if_neg (show ¬ (a < 0 ∧ (b < 0 → a < b)) from fun h => hab (h.2 hb)), if_pos hb]
    · rw [if_neg (by simpa using hb), if_pos ha, if_pos ⟨ha, fun h => absurd h hb⟩]
  · refine Ev.congr (f := fun k => PA.elenchusref04_bound.j0 k false a l b m) ?_ fun k => by rw [if_neg ha]
    refine Ev.const.step fun k => ?_
    rw [PA.elenchusref04_bound.j0, if_neg (by simp), if_neg ha, if_neg (show ¬ (a < 0 ∧ (b < 0 → a < b)) from fun h => ha h.1)]
    by_cases hb : b < 0
    · rw [if_pos hb, if_pos hb]
    · rw [if_neg hb, if_neg hb]
def goodP (L : Pairs) : Prop := ∀ p, p ∈ L → p.1.good = true ∧ p.2.good = true
theorem goodP_zip {a b : List Tm} (ha : Tm.goods a = true) (hb : Tm.goods b = true) : goodP (a.zip b) := fun p hp => ⟨goods_mem ha _ (List.of_mem_zip hp).1, goods_mem hb _ (List.of_mem_zip hp).2⟩
theorem solve_l1 {x y : Tm} {L : Pairs} {s : List BS} (hx8 : x.args.length ≤ 8) (hl : x.args.length = y.args.length) (hL : L.length ≤ 1000000) {r : List BS × Bool} (hr : Ev (fun k => PA.elenchusref04_solve.l0 k (toPL (x.args.zip y.args ++ L)) s) r) :
    ∀ (d i : Nat), i + d = x.args.length → Ev (fun k => PA.elenchusref04_solve.l1 k (toPL L) s (toPL ((x.args.zip y.args).take i)) (i : Int) x.h (toSL x.args) y.h (toSL y.args)) r
  | 0, i, hi => by
    have hz : (x.args.zip y.args).length = x.args.length := by rw [List.length_zip]; omega
    refine hr.step fun k => ?_
    rw [PA.elenchusref04_solve.l1, if_neg (by rw [toSL_length]; omega), List.take_of_length_le (by omega), if_pos (by rw [toPL_length, toPL_length]; omega)]
    simp only [toPL, List.map_append]
  | d + 1, i, hi => by
    have hz : (x.args.zip y.args).length = x.args.length := by rw [List.length_zip]; omega
    have hlt : i < x.args.length := by omega
    have hlt2 : i < y.args.length := by omega
    have hrec := solve_l1 hx8 hl hL hr d (i + 1) (by omega)
    refine hrec.step fun k => ?_
    rw [PA.elenchusref04_solve.l1, if_pos (by rw [toSL_length]; omega), if_pos (by omega), if_pos (by rw [toSL_length]; omega), if_pos (by rw [toPL_length, List.length_take]; omega), wrap_next (by omega) (by omega), rdT_nat x.args i hlt, rdT_nat y.args i hlt2]
    rw [List.take_succ_eq_append_getElem (by omega : i < (x.args.zip y.args).length)]
    simp only [toPL, List.map_append, List.map_cons, List.map_nil, List.getElem_zip, toP, toS_f0, toS_f1, mkS]; rfl
theorem solve_ev {D : List Tm} {L0 : Pairs} (hD : Closed D) (hDl : D.length ≤ 10000) (hb : gB (degs D) ≤ 9000000000000000000) : ∀ (n : Nat) (f : Env) (S : Sub) (L L' : Pairs), SState D L0 f S L → RelL S L' L → goodP L' → meas D f S L < n →
    ∃ r, unS n S L' = some r ∧ Ev (fun k => PA.elenchusref04_solve.l0 k (toPL L') (toBL (bsOf S))) (outU r)
  | 0, _, _, _, _, _, _, _, h => absurd h (by omega)
  | n + 1, f, S, _, _, h, .nil, _, hm => ⟨some S, rfl, Ev.const.step fun k => by rw [PA.elenchusref04_solve.l0, if_neg (by rw [toPL_length]; simp)]; rfl⟩
  | n + 1, f, S, (a, b) :: L, (a', b') :: L', h, .cons ⟨ha, hb2⟩ hr, hg, hm => by
    have hin := h.ind (a, b) (by simp)
    have hga := (hg (a', b') (by simp)).1
    have hgb := (hg (a', b') (by simp)).2
    have hgL : goodP L' := fun p hp => hg p (by simp [hp])
    have hlL : L'.length ≤ 1000000 := by
      have h1 := h.length hD
      have h2 : L'.length = L.length := All2.length hr
      simp only [List.length_cons] at h1
      omega
    have hsa : (app S a').size ≤ 9000000000000000000 := by rw [ha]; exact Nat.le_trans (dag_bound hD h.sv h.fd hin.1) hb
    have hsb : (app S b').size ≤ 9000000000000000000 := by rw [hb2]; exact Nat.le_trans (dag_bound hD h.sv h.fd hin.2) hb
    have hSg : ∀ t : Tm, t.good = true → (app S t).good = true := fun t ht => app_good t ht fun v hv => h.sv.good v (occ_range ht hv).1 (occ_range ht hv).2
    have gx := hSg a' hga
    have gy := hSg b' hgb
    have p1 : PA.elenchusref03_Put.f (toBL (bsOf S)) a'.h (toSL a'.args) = some ((app S a').h, toSL (app S a').args) := by
      unfold PA.elenchusref03_Put.f
      rw [ofS_mk, ofBL_toBL, if_pos hga, put_bsOf h.sv hga]
    have p2 : PA.elenchusref03_Put.f (toBL (bsOf S)) b'.h (toSL b'.args) = some ((app S b').h, toSL (app S b').args) := by
      unfold PA.elenchusref03_Put.f
      rw [ofS_mk, ofBL_toBL, if_pos hgb, put_bsOf h.sv hgb]
    have hu := u_step hD h ha hb2 hr
    have hof : ∀ v, 0 ≤ v → v ≤ 255 → (ofBs v (bsOf S)).good = true := fun v h0 h1 => by rw [ofBs_bsOf h.sv h0 h1]; exact h.sv.good v h0 h1
    generalize hX : app S a' = x at *
    generalize hY : app S b' = y at *
    have ps := same_pureG hsa hsb
    -- the head of a round
    have head : ∀ r : List BS × Bool, Ev (fun k => if sameB x y = true then PA.elenchusref04_solve.l0 k (toPL L') (toBL (bsOf S)) else (PA.elenchusref04_bound.f k x.h (toSL x.args) y.h (toSL y.args)).bind fun q => if q = 2 then PA.elenchusref04_solve.j1 k (toPL L') (toBL (bsOf S)) q y.h (toSL y.args) x.h (toSL x.args) else PA.elenchusref04_solve.j1 k (toPL L') (toBL (bsOf S)) q x.h (toSL x.args) y.h (toSL y.args)) r →
        Ev (fun k => PA.elenchusref04_solve.l0 k (toPL ((a', b') :: L')) (toBL (bsOf S))) r := fun r hr' => by
      refine hr'.step fun k => ?_
      rw [PA.elenchusref04_solve.l0, if_pos (by rw [toPL_length, List.length_cons]; omega), if_pos (by rw [toPL_length, List.length_cons]; omega)]
      have hrd : PA.rd_T135 (toPL ((a', b') :: L')) 0 = toP (a', b') := rdP_nat ((a', b') :: L') 0 (by simp)
      rw [hrd]
      simp only [toP, toS_f0, toS_f1, p1, p2, Option.bind_some, ps]
      rw [if_pos (by rw [toPL_length, List.length_cons]; omega)]
      rfl
    -- one more bound
    have hbind : ∀ (v : Int) (u t : Tm), u.h = -1 - v → t.good = true → BindTo D L0 (meas D f S ((a, b) :: L)) S L L' v t → ∀ q : Int, q > 0 →
        ∃ r, (if v ∈ varsT t then some none else unS n (fun w => app (oneS v t) (S w)) L') = some r ∧ Ev (fun k => PA.elenchusref04_solve.j1 k (toPL L') (toBL (bsOf S)) q u.h (toSL u.args) t.h (toSL t.args)) (outU r) := by
      rintro v u t hu' ht ⟨h0, h1, hor⟩ q hq
      have hwr : wrap64 (-1 - u.h) = v := by rw [hu']; unfold wrap64; omega
      have core : ∀ r, Ev (fun k => (PA.elenchusref01_In.f v (varsT t)).bind fun b1 => if b1 = true then some (([] : List BS), false) else (PA.elenchusref03_Both.f k (toBL (bsOf S)) (toBL [⟨v, t⟩])).bind fun s' => PA.elenchusref04_solve.l0 k (toPL L') s') r →
          Ev (fun k => PA.elenchusref04_solve.j1 k (toPL L') (toBL (bsOf S)) q u.h (toSL u.args) t.h (toSL t.args)) r := fun r hr' => by
        refine ((refvars ht).bind (g := fun k vs => (PA.elenchusref01_In.f v vs).bind fun b1 => if b1 = true then some (([] : List BS), false) else (PA.elenchusref03_Both.f k (toBL (bsOf S)) (toBL [⟨v, t⟩])).bind fun s' => PA.elenchusref04_solve.l0 k (toPL L') s') hr').step fun k => ?_
        rw [PA.elenchusref04_solve.j1, if_pos hq, hwr, mkS]
        rfl
      rcases hor with ⟨h2, -⟩ | ⟨h2, f', h3, h4, h5⟩
      · refine ⟨none, by rw [if_pos h2], core _ (Ev.const.congr fun k => ?_)⟩
        unfold PA.elenchusref01_In.f
        rw [Option.bind_some, if_pos (hasB_iff.2 h2)]; rfl
      · obtain ⟨r, g1, g2⟩ := solve_ev hD hDl hb n f' _ L L' h3 h5 hgL (by omega)
        refine ⟨r, by rw [if_neg h2]; exact g1, core _ ?_⟩
        refine Ev.congr (f := fun k => (PA.elenchusref03_Both.f k (toBL (bsOf S)) (toBL [⟨v, t⟩])).bind fun s' => PA.elenchusref04_solve.l0 k (toPL L') s') ?_ fun k => by
          unfold PA.elenchusref01_In.f
          rw [Option.bind_some, if_neg (fun e => h2 (hasB_iff.1 e))]
        refine (refboth (bsOf S) [⟨v, t⟩] (by have := bsOf_len S; omega) hof).bind (g := fun k s' => PA.elenchusref04_solve.l0 k (toPL L') s') ?_
        rw [both_bsOf h.sv]
        exact g2
    -- nothing bound
    have hno : ∀ r, ¬ x.h < 0 → ¬ y.h < 0 → x ≠ y → Ev (fun k => PA.elenchusref04_solve.j1 k (toPL L') (toBL (bsOf S)) 0 x.h (toSL x.args) y.h (toSL y.args)) r →
        Ev (fun k => PA.elenchusref04_solve.l0 k (toPL ((a', b') :: L')) (toBL (bsOf S))) r := fun r q1 q2 q3 hr' => by
      refine head r ?_
      have hbd := bound_ev (a := x.h) (b := y.h) (l := toSL x.args) (m := toSL y.args)
      rw [if_neg (fun e => q1 e.1), if_neg q2] at hbd
      refine Ev.congr (f := fun k => (PA.elenchusref04_bound.f k x.h (toSL x.args) y.h (toSL y.args)).bind fun q => if q = 2 then PA.elenchusref04_solve.j1 k (toPL L') (toBL (bsOf S)) q y.h (toSL y.args) x.h (toSL x.args) else PA.elenchusref04_solve.j1 k (toPL L') (toBL (bsOf S)) q x.h (toSL x.args) y.h (toSL y.args)) ?_ fun k => by rw [if_neg (fun e => q3 (sameB_iff.1 e))]
      exact hbd.bind (g := fun k q => if q = 2 then PA.elenchusref04_solve.j1 k (toPL L') (toBL (bsOf S)) q y.h (toSL y.args) x.h (toSL x.args) else PA.elenchusref04_solve.j1 k (toPL L') (toBL (bsOf S)) q x.h (toSL x.args) y.h (toSL y.args)) (by simpa using hr')
    simp only [unS, hX, hY]
    cases hu with
    | skip e h1 h2 h3 =>
      rw [if_pos (sameB_iff.2 e)]
      obtain ⟨r, g1, g2⟩ := solve_ev hD hDl hb n f S L L' h1 h3 hgL (by omega)
      exact ⟨r, g1, head _ (g2.congr fun k => by rw [if_pos (sameB_iff.2 e)])⟩
    | left e h1 h2 h3 =>
      rw [if_neg (fun q => e (sameB_iff.1 q)), if_pos ⟨h1, h2⟩]
      obtain ⟨r, g1, g2⟩ := hbind (-1 - x.h) x y (by omega) gy h3 1 (by omega)
      refine ⟨r, g1, head _ ?_⟩
      have hbd := bound_ev (a := x.h) (b := y.h) (l := toSL x.args) (m := toSL y.args)
      rw [if_pos ⟨h1, h2⟩] at hbd
      refine Ev.congr (f := fun k => (PA.elenchusref04_bound.f k x.h (toSL x.args) y.h (toSL y.args)).bind fun q => if q = 2 then PA.elenchusref04_solve.j1 k (toPL L') (toBL (bsOf S)) q y.h (toSL y.args) x.h (toSL x.args) else PA.elenchusref04_solve.j1 k (toPL L') (toBL (bsOf S)) q x.h (toSL x.args) y.h (toSL y.args)) ?_ fun k => by rw [if_neg (fun q => e (sameB_iff.1 q))]
      exact hbd.bind (g := fun k q => if q = 2 then PA.elenchusref04_solve.j1 k (toPL L') (toBL (bsOf S)) q y.h (toSL y.args) x.h (toSL x.args) else PA.elenchusref04_solve.j1 k (toPL L') (toBL (bsOf S)) q x.h (toSL x.args) y.h (toSL y.args)) (by simpa using g2)
    | right e h1 h2 h3 =>
      rw [if_neg (fun q => e (sameB_iff.1 q)), if_neg h1, if_pos h2]
      obtain ⟨r, g1, g2⟩ := hbind (-1 - y.h) y x (by omega) gx h3 2 (by omega)
      refine ⟨r, g1, head _ ?_⟩
      have hbd := bound_ev (a := x.h) (b := y.h) (l := toSL x.args) (m := toSL y.args)
      rw [if_neg h1, if_pos h2] at hbd
      refine Ev.congr (f := fun k => (PA.elenchusref04_bound.f k x.h (toSL x.args) y.h (toSL y.args)).bind fun q => if q = 2 then PA.elenchusref04_solve.j1 k (toPL L') (toBL (bsOf S)) q y.h (toSL y.args) x.h (toSL x.args) else PA.elenchusref04_solve.j1 k (toPL L') (toBL (bsOf S)) q x.h (toSL x.args) y.h (toSL y.args)) ?_ fun k => by rw [if_neg (fun q => e (sameB_iff.1 q))]
      exact hbd.bind (g := fun k q => if q = 2 then PA.elenchusref04_solve.j1 k (toPL L') (toBL (bsOf S)) q y.h (toSL y.args) x.h (toSL x.args) else PA.elenchusref04_solve.j1 k (toPL L') (toBL (bsOf S)) q x.h (toSL x.args) y.h (toSL y.args)) (by simpa using g2)
    | args M e h1 h2 h3 h4 h5 h6 h7 =>
      rw [if_neg (fun q => e (sameB_iff.1 q)), if_neg (fun q => h1 q.1), if_neg h2, if_pos ⟨h3, h4⟩]
      have hgM : goodP (x.args.zip y.args ++ L') := fun p hp => by
        rcases List.mem_append.1 hp with hp | hp
        · exact goodP_zip (goodsOf gx) (goodsOf gy) p hp
        · exact hgL p hp
      obtain ⟨r, g1, g2⟩ := solve_ev hD hDl hb n f S M _ h5 h7 hgM (by omega)
      refine ⟨r, g1, hno _ h1 h2 e ?_⟩
      have hl1 := solve_l1 (x := x) (y := y) (L := L') (s := toBL (bsOf S)) (good_args gx).2.1 h4 hlL g2 x.args.length 0 (by omega)
      have hj2 : Ev (fun k => PA.elenchusref04_solve.j2 k (toPL L') (toBL (bsOf S)) (((toSL x.args).length : Int) != ((toSL y.args).length : Int)) x.h (toSL x.args) y.h (toSL y.args)) (outU r) := by
        refine hl1.step fun k => ?_
        rw [PA.elenchusref04_solve.j2, if_neg (by rw [toSL_length, toSL_length, h4]; simp)]
        rfl
      refine hj2.step fun k => ?_
      rw [PA.elenchusref04_solve.j1, if_neg (by omega), if_pos h3]
    | clash e h1 h2 h3 h4 =>
      rw [if_neg (fun q => e (sameB_iff.1 q)), if_neg (fun q => h1 q.1), if_neg h2, if_neg h3]
      refine ⟨none, rfl, hno _ h1 h2 e ?_⟩
      have hj2 : Ev (fun k => PA.elenchusref04_solve.j2 k (toPL L') (toBL (bsOf S)) true x.h (toSL x.args) y.h (toSL y.args)) (outU none) := Ev.const.step fun k => by rw [PA.elenchusref04_solve.j2, if_pos rfl]; rfl
      refine hj2.step fun k => ?_
      rw [PA.elenchusref04_solve.j1, if_neg (by omega)]
      by_cases hh : x.h = y.h
      · rw [if_pos hh, toSL_length, toSL_length, show ((x.args.length : Int) != (y.args.length : Int)) = true by
          have : x.args.length ≠ y.args.length := fun q => h3 ⟨hh, q⟩
          simp; omega]
      · rw [if_neg hh]
end Go.Proofs.Ythplndalbfcbbaa
set_option linter.unusedSimpArgs false
set_option linter.unusedVariables false
namespace Go.Proofs.Ythplndalbfcbbaa
open Go.RowKit Go.Proofs.YthplndalbfcbbaaW.PrintWords
def EndB (L0 : Pairs) : Option Sub → Prop
  | some S => (∃ f, Solved f S ∧ UState L0 f []) ∧ ∀ v, 0 ≤ v → v ≤ 255 → (S v).size ≤ 9000000000000000000
  | none => ∀ τ, ¬ Sol τ L0
theorem bsOf_start : bsOf varT = [] := by
  unfold bsOf
  have : (upto 256).filter (movesS varT) = [] := List.filter_eq_nil_iff.2 fun v _ => by simp [movesS, varT, Tm.h]
  rw [this]; rfl
theorem solve_rows {ps ts : List Tm} (hl : ps.length = ts.length) (h10 : ps.length ≤ 10) (hp : Tm.goods ps = true) (ht : Tm.goods ts = true) (hz : Tm.sizes ps + Tm.sizes ts ≤ 10000) (hdeg : degs (nsubsL (ps ++ ts)) ≤ 116) :
    ∃ r, EndB (ps.zip ts) r ∧ Ev (fun k => PA.elenchusref04_solve.l0 k (toPL (ps.zip ts)) []) (outU r) := by
  have hg : Tm.goods (ps ++ ts) = true := goods_of_mem fun t h => by
    rcases List.mem_append.1 h with h | h
    · exact goods_mem hp t h
    · exact goods_mem ht t h
  have hD := closedL hg
  have hDl : (nsubsL (ps ++ ts)).length ≤ 10000 := by
    have := nsubsL_length (ps ++ ts)
    rw [Tm.sizes_append] at this; omega
  have hb : gB (degs (nsubsL (ps ++ ts))) ≤ 9000000000000000000 := Nat.le_trans (gB_mono hdeg) gB_116
  have hst := sstate_start hD hl h10 (fun t h => inD_nsubsL hg (by simp [h])) (fun t h => inD_nsubsL hg (by simp [h]))
  obtain ⟨r, h1, h2⟩ := solve_ev (L0 := ps.zip ts) hD hDl hb _ _ _ _ _ hst (RelL.refl _) (goodP_zip hp ht) (Nat.lt_succ_self _)
  obtain ⟨r', h3, h4⟩ := unS_law hD _ _ _ _ _ hst (RelL.refl _) (Nat.lt_succ_self _)
  rw [h1] at h3
  cases h3
  refine ⟨r, ?_, ?_⟩
  · cases r with
    | none => exact h4
    | some S =>
      obtain ⟨f, g1, g2, g3⟩ := h4
      exact ⟨⟨f, g1, g2⟩, fun v h0 h1 => Nat.le_trans (dag_bound_sub hD g1 g3 h0 h1) hb⟩
  · rw [bsOf_start] at h2
    exact h2
theorem sol_one {a b : Tm} (ha : ¬ a.h < 0) (hb : ¬ b.h < 0) (hh : a.h = b.h) (hl : a.args.length = b.args.length) (τ : Sub) : Sol τ [(a, b)] ↔ Sol τ (a.args.zip b.args) := by
  rw [sol_zip hl, sol_cons]
  simp only [app_pos ha, app_pos hb, Tm.node.injEq, hh, true_and]
  exact ⟨fun h => h.1, fun h => ⟨h, fun p hp => by cases hp⟩⟩
theorem solve_one {a b : Tm} (ga : a.good = true) (gb : b.good = true) (sa : a.size ≤ 60) (sb : b.size ≤ 60) : ∃ r, EndB [(a, b)] r ∧ Ev (fun k => PA.elenchusref04_solve.l0 k (toPL [(a, b)]) []) (outU r) := by
  have hgo : ∀ t : Tm, t.good = true → Tm.goods [t] = true := fun t h => goods_of_mem fun u hu => by simp at hu; rw [hu]; exact h
  have e1 : ∀ t : Tm, Tm.sizes [t] = t.size := fun t => by simp [Tm.sizes]
  have hvar : ∀ t : Tm, t.good = true → t.h < 0 → t.size = 1 := fun t hg hn => by
    have := good_is_var hg hn
    rw [this]; simp [varT, Tm.size, Tm.sizes]
  by_cases hv : a.h < 0 ∨ b.h < 0
  · refine solve_rows (ps := [a]) (ts := [b]) rfl (by simp) (hgo a ga) (hgo b gb) (by rw [e1, e1]; omega) ?_
    have hdg := degs_nsubsL ([a] ++ [b]) (goods_of_mem fun u hu => by simp at hu; rcases hu with rfl | rfl <;> assumption)
    rw [Tm.sizes_append, e1, e1] at hdg
    rcases hv with hv | hv
    · have := hvar a ga hv; omega
    · have := hvar b gb hv; omega
  · have ha : ¬ a.h < 0 := fun h => hv (.inl h)
    have hb : ¬ b.h < 0 := fun h => hv (.inr h)
    have p0 : ∀ t : Tm, t.good = true → PA.elenchusref03_Put.f (toBL []) t.h (toSL t.args) = some (t.h, toSL t.args) := fun t ht => by
      unfold PA.elenchusref03_Put.f
      rw [ofS_mk, ofBL_toBL, if_pos ht, app_put]
      have : app (fun v => ofBs v []) t = t := app_id t ht
      rw [this]
    have p1 := p0 a ga
    have p2 := p0 b gb
    have ps := same_pureG (p := a) (t := b) (by omega) (by omega)
    have head : ∀ r : List BS × Bool, Ev (fun k => if sameB a b = true then PA.elenchusref04_solve.l0 k [] [] else (PA.elenchusref04_bound.f k a.h (toSL a.args) b.h (toSL b.args)).bind fun q => if q = 2 then PA.elenchusref04_solve.j1 k [] [] q b.h (toSL b.args) a.h (toSL a.args) else PA.elenchusref04_solve.j1 k [] [] q a.h (toSL a.args) b.h (toSL b.args)) r →
        Ev (fun k => PA.elenchusref04_solve.l0 k (toPL [(a, b)]) []) r := fun r hr' => by
      refine hr'.step fun k => ?_
      rw [PA.elenchusref04_solve.l0, if_pos (by rw [toPL_length, List.length_cons]; omega), if_pos (by rw [toPL_length, List.length_cons]; omega)]
      have hrd : PA.rd_T135 (toPL [(a, b)]) 0 = toP (a, b) := rdP_nat [(a, b)] 0 (by simp)
      rw [hrd]
      have q1 : PA.elenchusref03_Put.f [] a.h (toSL a.args) = some (a.h, toSL a.args) := p1
      have q2 : PA.elenchusref03_Put.f [] b.h (toSL b.args) = some (b.h, toSL b.args) := p2
      simp only [toP, toS_f0, toS_f1, q1, q2, Option.bind_some, ps]
      rw [if_pos (by rw [toPL_length, List.length_cons]; omega)]
      rfl
    by_cases he : sameB a b = true
    · refine ⟨some varT, ⟨⟨noE, solved_start, fun τ => ?_⟩, fun v h0 h1 => by simp [varT, Tm.size, Tm.sizes]⟩, head _ ?_⟩
      · have := sameB_iff.1 he
        subst this
        exact ⟨fun _ => ⟨fun p hp => (by cases hp), fun v t h => (by cases h)⟩, fun _ p hp => (by simp at hp; rw [hp])⟩
      · have h0 : outU (some varT) = ([], true) := by show (toBL (bsOf varT), true) = _; rw [bsOf_start]; rfl
        rw [h0]
        refine Ev.congr (f := fun k => PA.elenchusref04_solve.l0 k [] []) ?_ fun k => by rw [if_pos he]
        refine Ev.const.step fun k => ?_
        rw [PA.elenchusref04_solve.l0, if_neg (by simp)]
    · have hno : ∀ r, Ev (fun k => PA.elenchusref04_solve.j1 k [] [] 0 a.h (toSL a.args) b.h (toSL b.args)) r → Ev (fun k => PA.elenchusref04_solve.l0 k (toPL [(a, b)]) []) r := fun r hr' => by
        refine head r ?_
        have hbd := bound_ev (a := a.h) (b := b.h) (l := toSL a.args) (m := toSL b.args)
        rw [if_neg (show ¬ (a.h < 0 ∧ (b.h < 0 → a.h < b.h)) from fun e => ha e.1), if_neg hb] at hbd
        refine Ev.congr (f := fun k => (PA.elenchusref04_bound.f k a.h (toSL a.args) b.h (toSL b.args)).bind fun q => if q = 2 then PA.elenchusref04_solve.j1 k [] [] q b.h (toSL b.args) a.h (toSL a.args) else PA.elenchusref04_solve.j1 k [] [] q a.h (toSL a.args) b.h (toSL b.args)) ?_ fun k => by rw [if_neg he]
        exact hbd.bind (g := fun k q => if q = 2 then PA.elenchusref04_solve.j1 k [] [] q b.h (toSL b.args) a.h (toSL a.args) else PA.elenchusref04_solve.j1 k [] [] q a.h (toSL a.args) b.h (toSL b.args)) (by simpa using hr')
      by_cases h3 : a.h = b.h ∧ a.args.length = b.args.length
      · have ha8 := (good_args ga).2.1
        have za := a.size_eq
        have zb := b.size_eq
        have hdg := degs_nsubsL (a.args ++ b.args) (goods_of_mem fun u hu => by
          rcases List.mem_append.1 hu with hu | hu
          · exact goods_mem (goodsOf ga) u hu
          · exact goods_mem (goodsOf gb) u hu)
        rw [Tm.sizes_append, List.length_append] at hdg
        have hdeg : degs (nsubsL (a.args ++ b.args)) ≤ 116 := by
          rcases Nat.eq_zero_or_pos a.args.length with h0 | h0
          · have e2 : a.args = [] := List.length_eq_zero_iff.1 h0
            have e3 : b.args = [] := List.length_eq_zero_iff.1 (by omega)
            rw [e2, e3]; simp [nsubsL, degs]
          · omega
        obtain ⟨r, h1, h2⟩ := solve_rows h3.2 (by omega) (goodsOf ga) (goodsOf gb) (by omega) hdeg
        refine ⟨r, ?_, hno _ ?_⟩
        · cases r with
          | none => exact fun τ hτ => h1 τ ((sol_one ha hb h3.1 h3.2 τ).1 hτ)
          | some S =>
            obtain ⟨⟨f, g1, g2⟩, g3⟩ := h1
            exact ⟨⟨f, g1, fun τ => (sol_one ha hb h3.1 h3.2 τ).trans (g2 τ)⟩, g3⟩
        · have hl1 := solve_l1 (x := a) (y := b) (L := []) (s := []) ha8 h3.2 (by simp) (by rw [List.append_nil]; exact h2) a.args.length 0 (by omega)
          have hj2 : Ev (fun k => PA.elenchusref04_solve.j2 k [] [] (((toSL a.args).length : Int) != ((toSL b.args).length : Int)) a.h (toSL a.args) b.h (toSL b.args)) (outU r) := by
            refine hl1.step fun k => ?_
            rw [PA.elenchusref04_solve.j2, if_neg (by rw [toSL_length, toSL_length, h3.2]; simp)]
            rfl
          refine hj2.step fun k => ?_
          rw [PA.elenchusref04_solve.j1, if_neg (by omega), if_pos h3.1]
      · refine ⟨none, fun τ hτ => ?_, hno _ ?_⟩
        · have h9 := (sol_cons.1 hτ).1
          rw [app_pos ha, app_pos hb, Tm.node.injEq] at h9
          exact h3 ⟨h9.1, by have := congrArg List.length h9.2; rwa [appL_length, appL_length] at this⟩
        · have hj2 : Ev (fun k => PA.elenchusref04_solve.j2 k [] [] true a.h (toSL a.args) b.h (toSL b.args)) (outU none) := Ev.const.step fun k => by rw [PA.elenchusref04_solve.j2, if_pos rfl]; rfl
          refine hj2.step fun k => ?_
          rw [PA.elenchusref04_solve.j1, if_neg (by omega)]
          by_cases hh : a.h = b.h
          · rw [if_pos hh, toSL_length, toSL_length, show ((a.args.length : Int) != (b.args.length : Int)) = true by
              have : a.args.length ≠ b.args.length := fun q => h3 ⟨hh, q⟩
              simp; omega]
          · rw [if_neg hh]
theorem solve_few {ps ts : List Tm} (hl : ps.length = ts.length) (h10 : ps.length ≤ 10) (hp : Tm.goods ps = true) (ht : Tm.goods ts = true) (sp : Tm.sizes ps ≤ 60) (st : Tm.sizes ts ≤ 60) :
    ∃ r, EndB (ps.zip ts) r ∧ Ev (fun k => PA.elenchusref04_solve.l0 k (toPL (ps.zip ts)) []) (outU r) := by
  have hdg := degs_nsubsL (ps ++ ts) (goods_of_mem fun u hu => by
    rcases List.mem_append.1 hu with hu | hu
    · exact goods_mem hp u hu
    · exact goods_mem ht u hu)
  rw [Tm.sizes_append, List.length_append] at hdg
  rcases Nat.lt_trichotomy ps.length 1 with h | h | h
  · have e1 : ps = [] := List.length_eq_zero_iff.1 (by omega)
    have e2 : ts = [] := List.length_eq_zero_iff.1 (by omega)
    subst e1; subst e2
    exact solve_rows rfl (by simp) hp ht (by omega) (by simp [nsubsL, degs])
  · obtain ⟨a, rfl⟩ : ∃ a, ps = [a] := List.length_eq_one_iff.1 h
    obtain ⟨b, rfl⟩ : ∃ b, ts = [b] := List.length_eq_one_iff.1 (by omega)
    exact solve_one (goods_mem hp a (by simp)) (goods_mem ht b (by simp)) (by simpa [Tm.sizes] using sp) (by simpa [Tm.sizes] using st)
  · exact solve_rows hl h10 hp ht (by omega) (by omega)
theorem endL_cons (S : Sub) (v : Int) (vs : List Int) (acc : List Bd) (hg : (S v).good = true) : endL S (v :: vs) acc = if chk (S v) = 0 then endL S vs (acc ++ [⟨v, S v⟩]) else ([], chk (S v)) := by
  by_cases h1 : 400 < (S v).size
  · simp [endL, chk, h1]
  · by_cases h2 : 40 < (S v).depth
    · simp [endL, chk, h1, h2]
    · simp [endL, chk, h1, h2, hg]
theorem all_l1 (S : Sub) (vs : List Int) (hv : vs.length ≤ 256) (hg : ∀ v, v ∈ vs → (S v).good = true ∧ (S v).size ≤ 9000000000000000000) :
    ∀ (d i : Nat), i + d = vs.length → Ev (fun k => PA.elenchusref04_All.l1 k (toBL (vs.map fun v => ⟨v, S v⟩)) true (i : Int))
      (toBL (endL S (vs.drop i) ((vs.take i).map fun v => ⟨v, S v⟩)).1, (endL S (vs.drop i) ((vs.take i).map fun v => ⟨v, S v⟩)).2 == 0, (endL S (vs.drop i) ((vs.take i).map fun v => ⟨v, S v⟩)).2)
  | 0, i, hi => by
    rw [List.drop_eq_nil_of_le (by omega), List.take_of_length_le (by omega), endL]
    refine Ev.const.step fun k => ?_
    rw [PA.elenchusref04_All.l1, if_neg (by rw [toBL_length, List.length_map]; omega)]
    rfl
  | d + 1, i, hi => by
    have hlt : i < vs.length := by omega
    have hm := hg _ (List.getElem_mem hlt)
    have hrec := all_l1 S vs hv hg d (i + 1) (by omega)
    have hb : PA.rd_T60 (toBL (vs.map fun v => ⟨v, S v⟩)) (i : Int) = toB ⟨vs[i], S vs[i]⟩ := by
      rw [rdB_nat _ i (by rw [List.length_map]; omega), List.getElem_map]
    rw [List.drop_eq_getElem_cons hlt, endL_cons S _ _ _ hm.1]
    refine ((refcheck hm.1 hm.2).bind (g := fun k e => if e = 0 then PA.elenchusref04_All.l1 k (toBL (vs.map fun v => ⟨v, S v⟩)) true ((i + 1 : Nat) : Int) else some (([] : List BS), false, e)) ?_).step fun k => ?_
    · by_cases hc : chk (S vs[i]) = 0
      · rw [if_pos hc]
        rw [List.take_succ_eq_append_getElem hlt, List.map_append] at hrec
        exact hrec.congr fun k => by rw [if_pos hc]
      · rw [if_neg hc]
        have e9 : (chk (S vs[i]) == 0) = false := by simpa using hc
        simp only [e9]
        exact Ev.const.congr fun k => by rw [if_neg hc]; rfl
    · rw [PA.elenchusref04_All.l1, if_pos (by rw [toBL_length, List.length_map]; omega), if_pos (by omega), hb, wrap_next (by omega) (by omega)]
      simp only [toB, toS_f0, toS_f1]; rfl
theorem all_l0 {ps ts : List Tm} (hl : ps.length = ts.length) (h10 : ps.length ≤ 10) {r : List BS × Bool × Int} {q : List BS × Bool} (hs : Ev (fun k => PA.elenchusref04_solve.l0 k (toPL (ps.zip ts)) []) q) (hr : Ev (fun k => PA.elenchusref04_All.l1 k q.1 q.2 0) r) :
    ∀ (d i : Nat), i + d = ps.length → Ev (fun k => PA.elenchusref04_All.l0 k (toSL ps) (toSL ts) (toPL ((ps.zip ts).take i)) (i : Int)) r
  | 0, i, hi => by
    have hz : (ps.zip ts).length = ps.length := by rw [List.length_zip]; omega
    refine (hs.bind (g := fun k q => PA.elenchusref04_All.l1 k q.1 q.2 0) hr).step fun k => ?_
    rw [PA.elenchusref04_All.l0, if_neg (by rw [toSL_length]; omega), List.take_of_length_le (by omega)]
    rfl
  | d + 1, i, hi => by
    have hz : (ps.zip ts).length = ps.length := by rw [List.length_zip]; omega
    have hlt : i < ps.length := by omega
    have hlt2 : i < ts.length := by omega
    have hrec := all_l0 hl h10 hs hr d (i + 1) (by omega)
    refine hrec.step fun k => ?_
    rw [PA.elenchusref04_All.l0, if_pos (by rw [toSL_length]; omega), if_pos (by omega), if_pos (by rw [toSL_length]; omega), if_pos (by rw [toPL_length, List.length_take]; omega), wrap_next (by omega) (by omega), rdT_nat ps i hlt, rdT_nat ts i hlt2]
    rw [List.take_succ_eq_append_getElem (by omega : i < (ps.zip ts).length)]
    simp only [toPL, List.map_append, List.map_cons, List.map_nil, List.getElem_zip, toP, toS_f0, toS_f1, mkS]; rfl
theorem refall {ps ts : List Tm} (h10 : ps.length ≤ 10) (sp : Tm.sizes ps ≤ 60) (st : Tm.sizes ts ≤ 60) :
    Ev (fun k => PA.elenchusref04_All.f k (toSL ps) (toSL ts)) (toBL (unifyT ps ts).1, (unifyT ps ts).2.1, (unifyT ps ts).2.2) := by
  have hall : ∀ l : List Tm, Tm.sizes l ≤ 60 → PA.elenchusref01_All.f (toSL l) = some (l.all rightB) := fun l hl => by
    unfold PA.elenchusref01_All.f
    rw [ofSL_toSL, if_pos]
    rw [List.all_eq_true]
    intro t ht
    obtain ⟨i, hi, rfl⟩ := List.getElem_of_mem ht
    have := Tm.size_get l i hi
    simp; omega
  unfold PA.elenchusref04_All.f
  rw [hall ps sp, hall ts st]
  simp only [Option.bind_some, toSL_length]
  have hwrong : ∀ b : Bool, b = true → (∀ x, unifyT ps ts = x → x = ([], false, 1)) → Ev (fun k => PA.elenchusref04_All.j0 k (toSL ps) (toSL ts) b) (toBL (unifyT ps ts).1, (unifyT ps ts).2.1, (unifyT ps ts).2.2) := fun b hb hx => by
    rw [hx _ rfl, hb]
    refine Ev.const.step fun k => ?_
    rw [PA.elenchusref04_All.j0, if_pos rfl]; rfl
  cases hp : ps.all rightB
  · simp only [Bool.false_eq_true, if_false]
    exact hwrong true rfl fun x hx => hx ▸ unify_wrong (fun h => by rw [hp] at h; exact absurd h.2.1 (by simp))
  cases ht : ts.all rightB
  · simp only [Bool.false_eq_true, if_false, if_true]
    exact hwrong true rfl fun x hx => hx ▸ unify_wrong (fun h => by rw [ht] at h; exact absurd h.2.2 (by simp))
  simp only [if_true]
  by_cases hl : ps.length = ts.length
  rotate_left
  · exact hwrong _ (by simp; omega) fun x hx => hx ▸ unify_wrong (fun h => hl h.1)
  have hgp := goods_of_right hp
  have hgt := goods_of_right ht
  obtain ⟨r, h1, h2⟩ := solve_few hl h10 hgp hgt sp st
  have fin : ∀ q : List BS × Bool × Int, Ev (fun k => PA.elenchusref04_All.l1 k (outU r).1 (outU r).2 0) q → Ev (fun k => PA.elenchusref04_All.j0 k (toSL ps) (toSL ts) ((ps.length : Int) != (ts.length : Int))) q := fun q hq => by
    have := all_l0 hl h10 h2 hq ps.length 0 (by omega)
    refine this.step fun k => ?_
    rw [PA.elenchusref04_All.j0, if_neg (by rw [hl]; simp)]
    rfl
  refine fin _ ?_
  cases r with
  | none =>
    rw [unify_none hl h10 hp ht h1]
    refine Ev.const.step fun k => ?_
    simp only [outU]
    rw [PA.elenchusref04_All.l1, if_neg (by simp)]
    rfl
  | some S =>
    obtain ⟨⟨f, g1, g2⟩, g3⟩ := h1
    rw [unify_some hl h10 hp ht (mgu_of g1 g2)]
    have := all_l1 S ((upto 256).filter (movesS S)) (Nat.le_trans (List.length_filter_le _ _) (by simp [upto])) (fun v hv => by
      have hv := mem_upto.1 (List.mem_filter.1 hv).1
      exact ⟨g1.good v hv.1 (by omega), g3 v hv.1 (by omega)⟩) ((upto 256).filter (movesS S)).length 0 (by omega)
    simp only [List.drop_zero, List.take_zero, List.map_nil] at this
    exact this
end Go.Proofs.Ythplndalbfcbbaa
set_option linter.unusedSimpArgs false
set_option linter.unusedVariables false
namespace Go.Proofs.Ythplndalbfcbbaa
open Go.RowKit Go.Proofs.YthplndalbfcbbaaW.PrintWords
theorem endL_no {S : Sub} : ∀ (vs : List Int) (acc : List Bd), (endL S vs acc).2 ≠ 0 → (endL S vs acc).1 = []
  | [], acc, h => absurd rfl h
  | v :: vs, acc, h => by
    simp only [endL] at h ⊢
    split
    · rfl
    · rename_i h1
      rw [if_neg h1] at h
      split
      · rfl
      · rename_i h2
        rw [if_neg h2] at h
        exact endL_no vs _ h
theorem endL_yes {S : Sub} : ∀ (vs : List Int) (acc : List Bd), (∀ v, v ∈ vs → (S v).good = true) → (endL S vs acc).2 = 0 → (endL S vs acc).1 = acc ++ vs.map (fun v => ⟨v, S v⟩) ∧ ∀ v, v ∈ vs → chk (S v) = 0
  | [], acc, _, _ => ⟨by simp [endL], by simp⟩
  | v :: vs, acc, hg, h => by
    simp only [endL] at h ⊢
    by_cases h1 : 400 < (S v).size
    · rw [if_pos h1] at h; cases h
    · rw [if_neg h1] at h ⊢
      by_cases h2 : 40 < (S v).depth
      · rw [if_pos h2] at h; cases h
      · rw [if_neg h2] at h ⊢
        obtain ⟨g1, g2⟩ := endL_yes vs _ (fun u hu => hg u (by simp [hu])) h
        refine ⟨by rw [g1]; simp, fun u hu => ?_⟩
        rcases List.mem_cons.1 hu with rfl | hu
        · simp [chk, h1, h2, hg u (by simp)]
        · exact g2 u hu
inductive UCase (ps ts : List Tm) : Prop
  | wrong : ¬ (ps.length = ts.length ∧ ps.all rightB = true ∧ ts.all rightB = true) → unifyT ps ts = ([], false, 1) → UCase ps ts
  | none : ps.length = ts.length → ps.all rightB = true → ts.all rightB = true → (∀ τ, ¬ Sol τ (ps.zip ts)) → unifyT ps ts = ([], false, 0) → UCase ps ts
  | long (f : Env) (S : Sub) (e : Int) : ps.length = ts.length → ps.all rightB = true → ts.all rightB = true → Solved f S → UState (ps.zip ts) f [] → e = 2 ∨ e = 7 → unifyT ps ts = ([], false, e) → UCase ps ts
  | ok (f : Env) (S : Sub) : ps.length = ts.length → ps.all rightB = true → ts.all rightB = true → Solved f S → UState (ps.zip ts) f [] → (∀ v, 0 ≤ v → v ≤ 255 → chk (S v) = 0) → unifyT ps ts = (tidyF S, true, 0) → UCase ps ts
theorem endL_err {S : Sub} : ∀ (vs : List Int) (acc : List Bd), (endL S vs acc).2 = 0 ∨ (endL S vs acc).2 = 2 ∨ (endL S vs acc).2 = 7
  | [], acc => .inl rfl
  | v :: vs, acc => by
    simp only [endL]
    split
    · exact .inr (.inl rfl)
    · split
      · exact .inr (.inr rfl)
      · exact endL_err vs _
theorem ucase {ps ts : List Tm} (h10 : ps.length ≤ 10) : UCase ps ts := by
  by_cases hc : ps.length = ts.length ∧ ps.all rightB = true ∧ ts.all rightB = true
  rotate_left
  · exact .wrong hc (unify_wrong hc)
  obtain ⟨hl, hp, ht⟩ := hc
  obtain ⟨r, h1, h2⟩ := unify_ends hl h10 hp ht
  cases r with
  | none => exact .none hl hp ht h2 (unify_none hl h10 hp ht h2)
  | some S =>
    obtain ⟨f, g1, g2, g3⟩ := h2
    have hs := unify_some hl h10 hp ht (mgu_of g1 g2)
    have hgd : ∀ v, v ∈ (upto 256).filter (movesS S) → (S v).good = true := fun v hv => by
      have := mem_upto.1 (List.mem_filter.1 hv).1
      exact g1.good v this.1 (by omega)
    by_cases he : (tidyS S).2 = 0
    · have hy := endL_yes ((upto 256).filter (movesS S)) [] hgd he
      refine .ok f S hl hp ht g1 g2 (fun v h0 h1 => ?_) ?_
      · by_cases hm : movesS S v = true
        · exact hy.2 v (List.mem_filter.2 ⟨mem_upto.2 ⟨h0, by omega⟩, hm⟩)
        · rw [moves_iff g1 h0 h1] at hm
          have hf : f v = none := by
            cases hf : f v with
            | none => rfl
            | some t => rw [hf] at hm; exact absurd rfl hm
          rw [g1.free v hf]
          exact rightB_chk.1 (rightB_var h0 h1)
      · rw [hs, he]
        have e1 : (tidyS S).1 = tidyF S := by
          have := hy.1
          rw [List.nil_append] at this
          exact this
        rw [e1]; rfl
    · have hn := endL_no ((upto 256).filter (movesS S)) [] he
      have hr : (tidyS S).2 = 2 ∨ (tidyS S).2 = 7 := (endL_err ((upto 256).filter (movesS S)) []).resolve_left he
      refine .long f S (tidyS S).2 hl hp ht g1 g2 hr ?_
      rw [hs]
      have e1 : (tidyS S).1 = [] := hn
      have e2 : ((tidyS S).2 == 0) = false := by simpa using he
      rw [e1, e2]
theorem unifyT_sizes {ps ts : List Tm} (h10 : ps.length ≤ 10) : ∀ b, b ∈ (unifyT ps ts).1 → b.t.size ≤ 400 := by
  intro b hb
  cases ucase (ts := ts) h10 with
  | wrong _ e => rw [e] at hb; cases hb
  | none _ _ _ _ e => rw [e] at hb; cases hb
  | long _ _ _ _ _ _ _ _ _ e => rw [e] at hb; cases hb
  | ok f S _ _ _ _ _ h e =>
    rw [e] at hb
    obtain ⟨h1, h2, h3⟩ := tidyF_mem.1 hb
    rw [h2]
    exact right_size (h _ h1.1 h1.2)
theorem unifyall_pure {ps ts : List Tm} (ha : Tm.sizes ps ≤ 1000000000) (hb : Tm.sizes ts ≤ 1000000000) (h10 : ps.length ≤ 10) : PA.unify_All.f (toSL ps) (toSL ts) = some (toBL (unifyT ps ts).1, (unifyT ps ts).2.1, (unifyT ps ts).2.2) := by
  unfold PA.unify_All.f
  rw [ofSL_toSL, ofSL_toSL, if_pos ⟨ha, hb, h10⟩]
theorem same_selfU {l : List Bd} (h : ∀ b, b ∈ l → b.t.size ≤ 1000000000) : PA.elenchusref03_Same.f (toBL l) (toBL l) = some true := by
  unfold PA.elenchusref03_Same.f
  rw [ofBL_toBL, if_pos ⟨eqBL_iff.2 rfl, List.all_eq_true.2 fun b hb => by simpa using h b hb⟩]
end Go.Proofs.Ythplndalbfcbbaa
set_option linter.unusedSimpArgs false
set_option linter.unusedVariables false
namespace Go.Proofs.Ythplndalbfcbbaa
open Go.RowKit Go.Proofs.YthplndalbfcbbaaW.PrintWords
theorem urows_pure (ps ts : List Tm) : Ev (fun k => PA.elenchuslaw04_UnifyRows.f k (toSL ps) (toSL ts)) true := by
  have hj : ∀ b : Bool, (b = false → ps.length ≤ 10 ∧ Tm.sizes ps ≤ 60 ∧ Tm.sizes ts ≤ 60) → Ev (fun k => PA.elenchuslaw04_UnifyRows.j0 k (toSL ps) (toSL ts) b) true := fun b hb => by
    cases b with
    | true => exact Ev.const.step fun k => by rw [PA.elenchuslaw04_UnifyRows.j0, if_pos rfl]
    | false =>
      obtain ⟨h10, sp, st⟩ := hb rfl
      refine Ev.step (f := fun k => (PA.unify_All.f (toSL ps) (toSL ts)).bind fun x => (PA.elenchusref04_All.f k (toSL ps) (toSL ts)).bind fun y => PA.elenchuslaw04_awake.f.bind fun z => if z = true then (PA.elenchusref03_Same.f x.1 y.1).bind fun u => if u = true then if (x.2.1 == y.2.1) = true then some (x.2.2 == y.2.2) else some false else some false else some false) ?_ fun k => by rw [PA.elenchuslaw04_UnifyRows.j0, if_neg (by simp)]
      rw [unifyall_pure (by omega) (by omega) h10]
      simp only [Option.bind_some]
      refine (refall h10 sp st).bind (g := fun k y => PA.elenchuslaw04_awake.f.bind fun z => if z = true then (PA.elenchusref03_Same.f (toBL (unifyT ps ts).1) y.1).bind fun u => if u = true then if ((unifyT ps ts).2.1 == y.2.1) = true then some ((unifyT ps ts).2.2 == y.2.2) else some false else some false else some false) ?_
      refine Ev.const.congr fun k => ?_
      simp [PA.elenchuslaw04_awake.f, same_selfU fun b' hb => Nat.le_trans (unifyT_sizes h10 b' hb) (by omega)]
  unfold PA.elenchuslaw04_UnifyRows.f
  refine (few4_f ps).bind (g := fun k t => if t = true then (PA.elenchusref04_Few.f k (toSL ts)).bind fun u => if u = true then if ((toSL ps).length : Int) > 10 then PA.elenchuslaw04_UnifyRows.j0 k (toSL ps) (toSL ts) true else PA.elenchuslaw04_UnifyRows.j0 k (toSL ps) (toSL ts) (decide (((toSL ts).length : Int) > 10)) else PA.elenchuslaw04_UnifyRows.j0 k (toSL ps) (toSL ts) true else PA.elenchuslaw04_UnifyRows.j0 k (toSL ps) (toSL ts) true) ?_
  cases h1 : fewR ps
  · exact (hj true (fun h => by cases h)).congr fun k => by simp
  refine Ev.congr (f := fun k => (PA.elenchusref04_Few.f k (toSL ts)).bind fun u => if u = true then if ((toSL ps).length : Int) > 10 then PA.elenchuslaw04_UnifyRows.j0 k (toSL ps) (toSL ts) true else PA.elenchuslaw04_UnifyRows.j0 k (toSL ps) (toSL ts) (decide (((toSL ts).length : Int) > 10)) else PA.elenchuslaw04_UnifyRows.j0 k (toSL ps) (toSL ts) true) ?_ fun k => by rw [if_pos rfl]
  refine (few4_f ts).bind (g := fun k u => if u = true then if ((toSL ps).length : Int) > 10 then PA.elenchuslaw04_UnifyRows.j0 k (toSL ps) (toSL ts) true else PA.elenchuslaw04_UnifyRows.j0 k (toSL ps) (toSL ts) (decide (((toSL ts).length : Int) > 10)) else PA.elenchuslaw04_UnifyRows.j0 k (toSL ps) (toSL ts) true) ?_
  cases h2 : fewR ts
  · exact (hj true (fun h => by cases h)).congr fun k => by simp
  by_cases h3 : ((toSL ps).length : Int) > 10
  · exact (hj true (fun h => by cases h)).congr fun k => by rw [if_pos rfl, if_pos h3]
  · refine (hj (decide (((toSL ts).length : Int) > 10)) fun _ => ⟨?_, fewR_sizes h1, fewR_sizes h2⟩).congr fun k => by rw [if_pos rfl, if_neg h3]
    rw [toSL_length] at h3
    omega
theorem urows_calls (ps ts : List Tm) (s1 s2 : Value) (w : World) (hs : Terms (fun _ => False) w s1 ps) (ht : Terms (fun _ => False) w s2 ts) :
    Calls Try.prog 13 #[s1, s2] w fun e w' => e = .returned (.bool true) ∧ Below w.heap.size w w' := by
  obtain ⟨a1, c1, rfl, -, -⟩ := hs.shape
  obtain ⟨a2, c2, rfl, -, -⟩ := ht.shape
  obtain ⟨e1, h1, k1⟩ := c_of hs
  obtain ⟨e2, h2, k2⟩ := c_of ht
  rw [e1, e2]
  obtain ⟨k0, hk⟩ := urows_pure ps ts
  exact PA.elenchuslaw04_UnifyRows.calls k0 a1 c1 (toSL ps) a2 c2 (toSL ts) true w k1 h1 k2 h2 (hk k0 (Nat.le_refl _))
end Go.Proofs.Ythplndalbfcbbaa
