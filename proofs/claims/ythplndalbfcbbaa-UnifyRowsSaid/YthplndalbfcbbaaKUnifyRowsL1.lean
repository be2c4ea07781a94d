/- What the proof of the law rests on: contracts of the functions, plain laws, and words. -/
import Derived.Test.YthplndalbfcbbaaKUnifyRowsL0
namespace Go.Proofs.Ythplndalbfcbbaa.PA
open Go.RowKit Go.Proofs.YthplndalbfcbbaaW.PrintWords Go.Proofs.YthplndalbfcbbaaW.PrintLast Go.Proofs.YthplndalbfcbbaaW.PrintMore
attribute [local go_sem] max2_int min2_int max_two min_two max_three min_three max_four min_four   -- for this text's walks alone
set_option linter.unusedVariables false
set_option linter.unusedSimpArgs false
mutual
def elenchusref04_solve.l0 : Nat → List (S135) → List (S60) → Option ((List (S60)) × Bool)
  | 0, _, _ => none
  | k + 1, x0, x4 => if (x0.length : Int) > 0 then (if 0 < (x0.length : Int) then ((elenchusref03_Put.f x4 ((rd_T135 x0 0).f0.f0) ((rd_T135 x0 0).f0.f1)).bind fun bt360 => ((elenchusref03_Put.f x4 ((rd_T135 x0 0).f1.f0) ((rd_T135 x0 0).f1.f1)).bind fun bt366 => (if 1 ≤ (x0.length : Int) then ((some (x0.drop 1 : List (S135))).bind fun y371 => ((elenchusref01_Same.f bt360.1 bt360.2 bt366.1 bt366.2).bind fun t376 => (if t376 = true then (elenchusref04_solve.l0 k y371 x4) else ((elenchusref04_bound.f k bt360.1 bt360.2 bt366.1 bt366.2).bind fun t377 => (if t377 = 2 then (elenchusref04_solve.j1 k y371 x4 t377 bt366.1 bt366.2 bt360.1 bt360.2) else (elenchusref04_solve.j1 k y371 x4 t377 bt360.1 bt360.2 bt366.1 bt366.2)))))) else (none)))) else (none)) else (some (x4, true))
def elenchusref04_solve.j1 : Nat → List (S135) → List (S60) → Int → Int → List (S25) → Int → List (S25) → Option ((List (S60)) × Bool)
  | 0, _, _, _, _, _, _, _ => none
  | k + 1, x0, x4, x7, x365000, x365001, x371000, x371001 => if x7 > 0 then ((elenchusref01_Vars.f k x371000 x371001).bind fun t379 => ((elenchusref01_In.f (wrap64 ((-1) - x365000)) t379).bind fun t382 => (if t382 = true then (some (([] : List (S60)), false)) else ((elenchusref03_Both.f k x4 (([(⟨wrap64 ((-1) - x365000), (⟨x371000, x371001⟩ : S25)⟩ : S60)] : List (S60)))).bind fun t386 => (elenchusref04_solve.l0 k x0 t386))))) else (if x365000 = x371000 then (elenchusref04_solve.j2 k x0 x4 ((x365001.length : Int) != (x371001.length : Int)) x365000 x365001 x371000 x371001) else (elenchusref04_solve.j2 k x0 x4 true x365000 x365001 x371000 x371001))
def elenchusref04_solve.j2 : Nat → List (S135) → List (S60) → Bool → Int → List (S25) → Int → List (S25) → Option ((List (S60)) × Bool)
  | 0, _, _, _, _, _, _, _ => none
  | k + 1, x0, x4, x68, x365000, x365001, x371000, x371001 => if x68 = true then (some (([] : List (S60)), false)) else (elenchusref04_solve.l1 k x0 x4 ([] : List (S135)) 0 x365000 x365001 x371000 x371001)
def elenchusref04_solve.l1 : Nat → List (S135) → List (S60) → List (S135) → Int → Int → List (S25) → Int → List (S25) → Option ((List (S60)) × Bool)
  | 0, _, _, _, _, _, _, _, _ => none
  | k + 1, x0, x4, x10, x11, x365000, x365001, x371000, x371001 => if x11 < (x365001.length : Int) then (if 0 ≤ x11 then (if x11 < (x371001.length : Int) then (if x10.length < 2199023255552 then (elenchusref04_solve.l1 k x0 x4 (x10 ++ [(⟨(⟨(rd_T25 x365001 x11).f0, (rd_T25 x365001 x11).f1⟩ : S25), (⟨(rd_T25 x371001 x11).f0, (rd_T25 x371001 x11).f1⟩ : S25)⟩ : S135)]) (wrap64 (x11 + 1)) x365000 x365001 x371000 x371001) else (none)) else (none)) else (none)) else (if x10.length + x0.length < 2199023255552 then (elenchusref04_solve.l0 k (x10 ++ x0) x4) else (none))
end
def elenchusref04_solve.f (k : Nat) (l0 : List (S135)) : Option ((List (S60)) × Bool) := elenchusref04_solve.l0 k l0 ([] : List (S60))
def elenchusref04_solve.T23 : Bool × List (List Nat × List Nat) := (true, [([], []), ([], []), ([1], [1]), ([], []), ([2, 3], [2, 3]), ([4], [4]), ([], []), ([6], [6]), ([], []), ([7, 8], [7, 8]), ([9], [9]), ([5, 10], [5, 10]), ([11], [11]), ([0, 12], [0, 12]), ([13, 13, 0, 1, 2, 3, 4, 5, 6, 7, 8, 9, 10, 11, 12, 13], [0, 13])])
def elenchusref04_solve.B23 : List Nat := [0, 0, 2, 0, 14, 30, 0, 64, 0, 448, 960, 2046, 4094, 8191, 16383]
theorem elenchusref04_solve.tab23 : rtab .any (opsOf Try.f117 23) = elenchusref04_solve.T23 := by kernel_rfl
theorem elenchusref04_solve.bits23 : waitsOk elenchusref04_solve.T23.2 elenchusref04_solve.B23 = true := by kernel_rfl
set_option maxHeartbeats 8000000 in
set_option maxRecDepth 100000 in
theorem elenchusref04_solve.calls (k : Nat) (P0_ : Nat → Prop) (A0 : Option Addr) (c0 : Nat) (l0 : List (S135)) (r1 : List (S60)) (r2 : Bool) (w : World) (hs0 : Kd.V k135 135 w w.heap.size (fun k_ => P0_ k_) (.slice A0 l0.length c0) l0) (h : elenchusref04_solve.f k l0 = some (r1, r2)) :
    Calls Try.prog 117 #[.slice A0 l0.length c0] w fun e w' => ∃ v0_ : Value, e = .returned (.tuple #[v0_, .bool r2]) ∧ Kd.N k60 60 w' w.heap.size (fun k_ => (P0_ k_ ∨ w.heap.size ≤ k_)) v0_ r1 ∧ Below w.heap.size w w' := by
  have hu25 := Try.underlying25
  have hu60 := Try.underlying60
  have hu135 := Try.underlying135
  have HO0 := Aside0.mk (show Kd.V k135 135 w w.heap.size (fun k_ => (P0_ k_ ∨ w.heap.size ≤ k_)) (.slice A0 l0.length c0) l0 from Kd.V_mono hs0 (fun k_ hk => .inl hk))
  have HB := Aside0.mk (Below.refl w.heap.size w)
  have H : (elenchusref04_solve.l0 k l0 ([] : List (S60))) = some (r1, r2) := h
  clear h
  have H' := Aside0.mk H
  clear H
  go_enter Try.func117, Try.ntmps117
  go_wp2
  go_loopg [0, 4] k (fun kq v0 v4 w' => ∃ (x0_1 : List (S135)) (x4_1 : List (S60)), Aside0 (elenchusref04_solve.l0 kq x0_1 x4_1 = some (r1, r2)) ∧ Aside0 (kq ≤ k) ∧ Aside0 (Kd.V k135 135 w' w.heap.size (fun k_ => (P0_ k_ ∨ w.heap.size ≤ k_)) v0 x0_1) ∧ Aside0 (Kd.N k60 60 w' w.heap.size (fun k_ => (P0_ k_ ∨ w.heap.size ≤ k_)) v4 x4_1) ∧ Aside0 (Below w.heap.size w w'))
  case atStart => exact ⟨(l0), (([] : List (S60))), H', ⟨Nat.le_refl _⟩, ⟨by (with_reducible repeat (first | apply Kd.V_alloc | apply Kd.V_drewN | apply Kd.V_drew)); exact HO0.out⟩, ⟨by first | exact Kd.R_nil _ _ _ _ _ | exact Kd.N_nil _ _ _ _ _ | exact Kd.V_nil _ _ _ _ _ | exact Kd.Q_nil _ _ _ _ _ | exact Kd.S_nil _ _ _ _ _⟩, ⟨by repeat (first | (with_reducible first | exact HB.out | apply below_alloc | apply pw_below_drewN | apply below_drew1) | exact HB.out)⟩⟩
  case round =>
    clear H'
    try clear c1
    obtain ⟨x0_1, x4_1, HA, HK1, HO_0, HO_4, HB⟩ := hrel
    cases gk with
    | zero => exact absurd HA.out (by simp [elenchusref04_solve.l0])
    | succ k1 =>
      have H := HA.out
      clear HA
      simp only [elenchusref04_solve.l0] at H
      by_cases c2 : (x0_1.length : Int) > 0
      · rw [if_pos c2] at H
        have c2b0 : decide (0 < (x0_1.length : Int)) = true := decide_eq_true c2
        have c2b1 : decide (0 < x0_1.length) = true := decide_eq_true (by omega)
        clear c2
        by_cases c3 : 0 < (x0_1.length : Int)
        · rw [if_pos c3] at H
          have c3b0 : decide (0 < (x0_1.length : Int)) = true := decide_eq_true c3
          have c3b1 : decide (0 < x0_1.length) = true := decide_eq_true (by omega)
          clear c3
          replace H := Option.bind_eq_some_iff.mp H
          obtain ⟨⟨t360, t361⟩, A40, H⟩ := H
          replace H : ((elenchusref03_Put.f x4_1 ((rd_T135 x0_1 0).f1.f0) ((rd_T135 x0_1 0).f1.f1)).bind fun bt366 => (if 1 ≤ (x0_1.length : Int) then ((some (x0_1.drop 1 : List (S135))).bind fun y371 => ((elenchusref01_Same.f t360 t361 bt366.1 bt366.2).bind fun t376 => (if t376 = true then (elenchusref04_solve.l0 k1 y371 x4_1) else ((elenchusref04_bound.f k1 t360 t361 bt366.1 bt366.2).bind fun t377 => (if t377 = 2 then (elenchusref04_solve.j1 k1 y371 x4_1 t377 bt366.1 bt366.2 t360 t361) else (elenchusref04_solve.j1 k1 y371 x4_1 t377 t360 t361 bt366.1 bt366.2)))))) else (none))) = some (r1, r2) := H
          have A4 := Aside0.mk A40
          clear A40
          replace H := Option.bind_eq_some_iff.mp H
          obtain ⟨⟨t366, t367⟩, A50, H⟩ := H
          replace H : (if 1 ≤ (x0_1.length : Int) then ((some (x0_1.drop 1 : List (S135))).bind fun y371 => ((elenchusref01_Same.f t360 t361 t366 t367).bind fun t376 => (if t376 = true then (elenchusref04_solve.l0 k1 y371 x4_1) else ((elenchusref04_bound.f k1 t360 t361 t366 t367).bind fun t377 => (if t377 = 2 then (elenchusref04_solve.j1 k1 y371 x4_1 t377 t366 t367 t360 t361) else (elenchusref04_solve.j1 k1 y371 x4_1 t377 t360 t361 t366 t367)))))) else (none)) = some (r1, r2) := H
          have A5 := Aside0.mk A50
          clear A50
          by_cases c6 : 1 ≤ (x0_1.length : Int)
          · rw [if_pos c6] at H
            have c6b0 := eq_true c6
            have c6b1 : decide (1 ≤ (x0_1.length : Int)) = true := decide_eq_true c6
            clear c6
            obtain ⟨y371, hy371⟩ : ∃ y_ : List (S135), y_ = (x0_1.drop 1) := ⟨_, rfl⟩
            replace H : ((elenchusref01_Same.f t360 t361 t366 t367).bind fun t376 => (if t376 = true then (elenchusref04_solve.l0 k1 y371 x4_1) else ((elenchusref04_bound.f k1 t360 t361 t366 t367).bind fun t377 => (if t377 = 2 then (elenchusref04_solve.j1 k1 y371 x4_1 t377 t366 t367 t360 t361) else (elenchusref04_solve.j1 k1 y371 x4_1 t377 t360 t361 t366 t367))))) = some (r1, r2) := by first | (rw [hy371]; with_reducible exact H) | (have H2_ := (Option.bind_some _ _).symm.trans H; rw [hy371]; with_reducible exact H2_) | (have H2_ := (Option.bind_some _ _).symm.trans H; with_reducible exact H2_) | with_reducible exact H | (rw [hy371]; exact H) | exact H
            have Ny371 := Aside0.mk hy371
            clear hy371
            replace H := Option.bind_eq_some_iff.mp H
            obtain ⟨t376, A70, H⟩ := H
            replace H : (if t376 = true then (elenchusref04_solve.l0 k1 y371 x4_1) else ((elenchusref04_bound.f k1 t360 t361 t366 t367).bind fun t377 => (if t377 = 2 then (elenchusref04_solve.j1 k1 y371 x4_1 t377 t366 t367 t360 t361) else (elenchusref04_solve.j1 k1 y371 x4_1 t377 t360 t361 t366 t367)))) = some (r1, r2) := H
            have A7 := Aside0.mk A70
            clear A70
            by_cases c8 : t376 = true
            · subst c8
              have H1 : (elenchusref04_solve.l0 k1 y371 x4_1) = some (r1, r2) := by rw [if_pos rfl] at H; exact H
              clear H
              have H := H1
              clear H1
              have H' := Aside0.mk H
              clear H
              obtain ⟨Ao9, co9, eo9⟩ := Kd.V_slice HO_0.out
              subst eo9
              have p359 : 0 ≤ (0 : Int) := (by omega)
              have q359 : 0 < (x0_1.length : Int) := of_decide_eq_true (by first | (with_reducible assumption) | assumption)
              obtain ⟨ad359, A359_1, c359_1, A359_3, c359_3, e359, hx359_0, hx359_1, hx359_2, hx359_3, hl359_1, hi359_1, hl359_3, hi359_3⟩ := at_T135 (Kd.V_reads' HO_0.out).2.2 0 p359 q359
              cases e359
              obtain ⟨ce359, hce359, hMe359, hcc359⟩ := Kd.V_get HO_0.out z135 0 p359 (by first | exact q359 | exact of_decide_eq_true (by first | (with_reducible assumption) | assumption) | (have e_ := (Kd.V_reads' HO_0.out).1; omega))
              obtain ⟨ua359_1, uc359_1, ua359_3, uc359_3, rfl, ul359_1, ge359_1, ul359_3, ge359_3⟩ := k135_openF hMe359
              have hv359_1 := hcc359 1 _ rfl
              rw [add_field _ _ 1 (by omega)] at hv359_1
              replace hv359_1 := Option.some.inj (hv359_1.symm.trans hx359_1)
              injection hv359_1 with hva_ hvn_ hvc_
              rw [hva_] at ge359_1
              rw [hvc_] at ul359_1
              have HL359_1 := Aside0.mk (show Kd.V k25 25 _ w.heap.size _ _ ((rd_T135 x0_1 0).f0.f1) from Kd.V_mk ul359_1 ge359_1)
              clear hva_ hvn_ hvc_ ge359_1 ul359_1
              have hv359_3 := hcc359 3 _ rfl
              rw [add_field _ _ 3 (by omega)] at hv359_3
              replace hv359_3 := Option.some.inj (hv359_3.symm.trans hx359_3)
              injection hv359_3 with hva_ hvn_ hvc_
              rw [hva_] at ge359_3
              rw [hvc_] at ul359_3
              have HL359_3 := Aside0.mk (show Kd.V k25 25 _ w.heap.size _ _ ((rd_T135 x0_1 0).f1.f1) from Kd.V_mk ul359_3 ge359_3)
              clear hva_ hvn_ hvc_ ge359_3 ul359_3
              clear hcc359 hce359
              have qi359 : (0 < x0_1.length) = True := eq_true (by omega)
              (try rw [show ((0 : Int)).toNat = 0 from rfl] at hx359_0)
              (try rw [show 0 * 4 = 0 from rfl] at hx359_0)
              (try rw [Addr.add_zero'] at hx359_0)
              (try rw [show ((0 : Int)).toNat = 0 from rfl] at hx359_1)
              (try rw [show 0 * 4 = 0 from rfl] at hx359_1)
              (try rw [Addr.add_zero'] at hx359_1)
              (try rw [show ((0 : Int)).toNat = 0 from rfl] at hx359_2)
              (try rw [show 0 * 4 = 0 from rfl] at hx359_2)
              (try rw [Addr.add_zero'] at hx359_2)
              (try rw [show ((0 : Int)).toNat = 0 from rfl] at hx359_3)
              (try rw [show 0 * 4 = 0 from rfl] at hx359_3)
              (try rw [Addr.add_zero'] at hx359_3)
              have HR359_1 := Aside0.mk hi359_1
              have HC359_1 := Aside0.mk hl359_1
              clear hi359_1 hl359_1
              have HR359_3 := Aside0.mk hi359_3
              have HC359_3 := Aside0.mk hl359_3
              clear hi359_3 hl359_3
              replace p359 := eq_true p359
              replace q359 := eq_true q359
              obtain ⟨Ao10, co10, eo10⟩ := Kd.N_slice HO_4.out
              subst eo10
              go_wp2_with (first | ((with_reducible refine gate_callee (f := 89) rfl ?_); refine goesL_ (some 20) rfl rfl Try.func89 (by kernel_rfl) rfl #[.slice Ao10 x4_1.length co10, .agg #[.int .i64 ((rd_T135 x0_1 0).f0.f0), .slice A359_1 ((rd_T135 x0_1 0).f0.f1).length c359_1]] rfl (by (try simp only [List.map_toArray, List.map_cons, List.map_nil]); first | done | rfl | (simp only [List.length_drop, List.length_take]; rfl)) ?_; (with_reducible refine (elenchusref03_Put.calls (fun k_ => (P0_ k_ ∨ w.heap.size ≤ k_)) _ _ x4_1 ((rd_T135 x0_1 0).f0.f0) (fun k_ => (P0_ k_ ∨ w.heap.size ≤ k_)) _ _ ((rd_T135 x0_1 0).f0.f1) t360 t361 _ ?side1 ?side2 A4.out).mono ?_); (case side1 => exact Kd.N_V (HO_4.out)); (case side2 => exact HL359_1.out); rintro e w11 ⟨v362, rfl, ho0, hb⟩; refine ⟨_, rfl, ?_⟩; have n0_ := Aside0.mk (Kd.V_below (by (with_reducible repeat (first | apply Kd.V_alloc | apply Kd.V_drewN | apply Kd.V_drew)); exact HO_0.out) hb); have n1_ := Aside0.mk (Kd.N_below (by (with_reducible repeat (first | apply Kd.N_alloc | apply Kd.N_drewN | apply Kd.N_drew)); exact HO_4.out) hb); have n2_ := Aside0.mk (Kd.V_below (by (with_reducible repeat (first | apply Kd.V_alloc | apply Kd.V_drewN | apply Kd.V_drew)); exact HL359_1.out) hb); have n3_ := Aside0.mk (Kd.V_below (by (with_reducible repeat (first | apply Kd.V_alloc | apply Kd.V_drewN | apply Kd.V_drew)); exact HL359_3.out) hb); have n4_ := Aside0.mk (Kd.V_lower (Kd.V_mono (ok' := fun k_ => (P0_ k_ ∨ w.heap.size ≤ k_)) ho0 (fun k_ hk_ => Or.elim hk_ (fun hs_ => Or.elim hs_ (fun hs_ => hs_) (fun hs_ => hs_)) (fun hn_ => (.inr (Nat.le_trans (below_size (by repeat (first | (with_reducible first | exact HB.out | apply below_alloc | apply pw_below_drewN | apply below_drew1) | exact HB.out))) hn_))))) (below_size (by repeat (first | (with_reducible first | exact HB.out | apply below_alloc | apply pw_below_drewN | apply below_drew1) | exact HB.out)))); have n7_ := Aside0.mk (below_step (by repeat (first | (with_reducible first | exact HB.out | apply below_alloc | apply pw_below_drewN | apply below_drew1) | exact HB.out)) hb); clear HO_0; clear HO_4; clear HL359_1; clear HL359_3; clear HB; have HO_0 := n0_; have HO_4 := n1_; have HL359_1 := n2_; have HL359_3 := n3_; have HO363 := n4_; have HB := n7_; clear n0_ n1_ n2_ n3_ n4_ n7_; (try clear hb); (try clear hb2); (try clear hk); (try clear hi); (try clear ho0)) | ((with_reducible refine gate_dst (N := 5) rfl ?_); (try (refine gate_guard (by rfl) ?_; dsimp only)); refine box_event ?hg (N := 5) ?hd (cs := #[.int .i64 0, .slice none 0 0]) (t := 25) ?hr ?_; (case hd => rfl); (case hg => rfl); (case hr => first | (go_simp; done) | (go_simp; rfl)); intro gb364 hg w12 hbox hb; have n0_ := Aside0.mk (Kd.V_below (Kd.V_elderB (by (with_reducible repeat (first | apply Kd.V_alloc | apply Kd.V_drewN | apply Kd.V_drew)); exact HO_0.out) gb364 (Nat.le_of_eq hg.symm)) hb); have n1_ := Aside0.mk (Kd.N_below (Kd.N_elderB (by (with_reducible repeat (first | apply Kd.N_alloc | apply Kd.N_drewN | apply Kd.N_drew)); exact HO_4.out) gb364 (Nat.le_of_eq hg.symm)) hb); have n2_ := Aside0.mk (Kd.V_below (Kd.V_elderB (by (with_reducible repeat (first | apply Kd.V_alloc | apply Kd.V_drewN | apply Kd.V_drew)); exact HL359_1.out) gb364 (Nat.le_of_eq hg.symm)) hb); have n3_ := Aside0.mk (Kd.V_below (Kd.V_elderB (by (with_reducible repeat (first | apply Kd.V_alloc | apply Kd.V_drewN | apply Kd.V_drew)); exact HL359_3.out) gb364 (Nat.le_of_eq hg.symm)) hb); have n4_ := Aside0.mk (Kd.V_below (Kd.V_elderB (by (with_reducible repeat (first | apply Kd.V_alloc | apply Kd.V_drewN | apply Kd.V_drew)); exact HO363.out) gb364 (Nat.le_of_eq hg.symm)) hb); have n7_ := Aside0.mk (below_step (by repeat (first | (with_reducible first | exact HB.out | apply below_alloc | apply pw_below_drewN | apply below_drew1) | exact HB.out)) hb); have n8_ := Aside0.mk (hbox); have n9_ := Aside0.mk ((by rw [hg]; exact (below_size (by repeat (first | (with_reducible first | exact HB.out | apply below_alloc | apply pw_below_drewN | apply below_drew1) | exact HB.out))) : w.heap.size ≤ gb364)); have n10_ := Aside0.mk ((by rw [hg]; exact (below_size (by repeat (first | (with_reducible first | exact HB.out | apply below_alloc | apply pw_below_drewN | apply below_drew1) | exact HB.out))) : w.heap.size ≤ gb364)); clear HO_0; clear HO_4; clear HL359_1; clear HL359_3; clear HO363; clear HB; have HO_0 := n0_; have HO_4 := n1_; have HL359_1 := n2_; have HL359_3 := n3_; have HO363 := n4_; have HB := n7_; have BK364 := n8_; have GW364 := n9_; have GE364 := n10_; clear n0_ n1_ n2_ n3_ n4_ n7_ n8_ n9_ n10_; clear hb hbox hg; have hcz13_0 : w12.cell? ⟨gb364, 0, none⟩ = some (.int .i64 0) := (blk_cell BK364.out 0).trans rfl; have hcz13_1 : w12.cell? ⟨gb364, 1, none⟩ = some (.slice none 0 0) := (blk_cell BK364.out 1).trans rfl; have hfz13_0 := blk_frozen BK364.out 0; have hfz13_1 := blk_frozen BK364.out 1; obtain ⟨Ao14, co14, eo14⟩ := Kd.V_slice HO363.out; subst eo14) | ((with_reducible refine gate_store (t := 25) (p := 5) rfl ?_); refine store_event (t := 25) (p := 5) (v := ?vo_w15) (w1 := ((w12.setCell ⟨gb364, 0, none⟩ (.int .i64 t360)).setCell ⟨gb364, 1, none⟩ (.slice Ao14 t361.length co14))) ?hg ?ho ?hn ?hr ?_; (case ho => rfl); (case hg => rfl); (case hn => rfl); (case hr => first | (go_simp; done) | (go_simp; rfl)); intro w15 hw; have n0_ : Aside0 (Kd.V k135 135 w15 w.heap.size (fun k_ => (P0_ k_ ∨ w.heap.size ≤ k_) ∧ k_ ≠ gb364) (.slice (some ad359) x0_1.length co9) x0_1) := ⟨(by rw [hw]; exact (by (with_reducible repeat (first | apply Kd.V_alloc | apply Kd.V_drewN | apply Kd.V_drew)); exact Kd.V_mono (Kd.V_far (p := ⟨gb364, 1, none⟩) (Kd.V_far (p := ⟨gb364, 0, none⟩) (Kd.V_mono HO_0.out (fun k_ hk => (⟨hk, hk.2⟩ : _ ∧ k_ ≠ gb364))) (fun _ hk => hk.2) (.int .i64 t360)) (fun _ hk => hk.2) (.slice Ao14 t361.length co14)) (fun _ hk => ⟨hk.1.1, hk.1.2⟩)))⟩; have n1_ : Aside0 (Kd.N k60 60 w15 w.heap.size (fun k_ => (P0_ k_ ∨ w.heap.size ≤ k_) ∧ k_ ≠ gb364) (.slice Ao10 x4_1.length co10) x4_1) := ⟨(by rw [hw]; exact (by (with_reducible repeat (first | apply Kd.N_alloc | apply Kd.N_drewN | apply Kd.N_drew)); exact Kd.N_mono (Kd.N_far (p := ⟨gb364, 1, none⟩) (Kd.N_far (p := ⟨gb364, 0, none⟩) (Kd.N_mono HO_4.out (fun k_ hk => (⟨hk, hk.2⟩ : _ ∧ k_ ≠ gb364))) (fun _ hk => hk.2) (.int .i64 t360)) (fun _ hk => hk.2) (.slice Ao14 t361.length co14)) (fun _ hk => ⟨hk.1.1, hk.1.2⟩)))⟩; have n2_ : Aside0 (Kd.V k25 25 w15 w.heap.size (fun k_ => (P0_ k_ ∨ w.heap.size ≤ k_) ∧ k_ ≠ gb364) (.slice A359_1 ((rd_T135 x0_1 0).f0.f1).length c359_1) ((rd_T135 x0_1 0).f0.f1)) := ⟨(by rw [hw]; exact (by (with_reducible repeat (first | apply Kd.V_alloc | apply Kd.V_drewN | apply Kd.V_drew)); exact Kd.V_mono (Kd.V_far (p := ⟨gb364, 1, none⟩) (Kd.V_far (p := ⟨gb364, 0, none⟩) (Kd.V_mono HL359_1.out (fun k_ hk => (⟨hk, hk.2⟩ : _ ∧ k_ ≠ gb364))) (fun _ hk => hk.2) (.int .i64 t360)) (fun _ hk => hk.2) (.slice Ao14 t361.length co14)) (fun _ hk => ⟨hk.1.1, hk.1.2⟩)))⟩; have n3_ : Aside0 (Kd.V k25 25 w15 w.heap.size (fun k_ => (P0_ k_ ∨ w.heap.size ≤ k_) ∧ k_ ≠ gb364) (.slice A359_3 ((rd_T135 x0_1 0).f1.f1).length c359_3) ((rd_T135 x0_1 0).f1.f1)) := ⟨(by rw [hw]; exact (by (with_reducible repeat (first | apply Kd.V_alloc | apply Kd.V_drewN | apply Kd.V_drew)); exact Kd.V_mono (Kd.V_far (p := ⟨gb364, 1, none⟩) (Kd.V_far (p := ⟨gb364, 0, none⟩) (Kd.V_mono HL359_3.out (fun k_ hk => (⟨hk, hk.2⟩ : _ ∧ k_ ≠ gb364))) (fun _ hk => hk.2) (.int .i64 t360)) (fun _ hk => hk.2) (.slice Ao14 t361.length co14)) (fun _ hk => ⟨hk.1.1, hk.1.2⟩)))⟩; have n4_ : Aside0 (Kd.V k25 25 w15 w.heap.size (fun k_ => (P0_ k_ ∨ w.heap.size ≤ k_) ∧ k_ ≠ gb364) (.slice Ao14 t361.length co14) t361) := ⟨(by rw [hw]; exact (by (with_reducible repeat (first | apply Kd.V_alloc | apply Kd.V_drewN | apply Kd.V_drew)); exact Kd.V_mono (Kd.V_far (p := ⟨gb364, 1, none⟩) (Kd.V_far (p := ⟨gb364, 0, none⟩) (Kd.V_mono HO363.out (fun k_ hk => (⟨hk, hk.2⟩ : _ ∧ k_ ≠ gb364))) (fun _ hk => hk.2) (.int .i64 t360)) (fun _ hk => hk.2) (.slice Ao14 t361.length co14)) (fun _ hk => ⟨hk.1.1, hk.1.2⟩)))⟩; have n5_ : Aside0 (w15.heap[gb364]? = some (.cells #[.int .i64 t360, .slice Ao14 t361.length co14] 25 (0, 0))) := ⟨(by rw [hw]; exact (by (with_reducible repeat (first | refine blk_drewN ?_ _ | refine blk_drew ?_ | refine blk_alloc ?_ _)); refine blk_put (cs := #[.int .i64 t360, .slice none 0 0]) ?_ 1 _ rfl; (with_reducible repeat (first | refine blk_drewN ?_ _ | refine blk_drew ?_ | refine blk_alloc ?_ _)); refine blk_put (cs := #[.int .i64 0, .slice none 0 0]) ?_ 0 _ rfl; (with_reducible repeat (first | refine blk_drewN ?_ _ | refine blk_drew ?_ | refine blk_alloc ?_ _)); exact BK364.out))⟩; have n6_ : Aside0 (Below w.heap.size w w15) := ⟨(by rw [hw]; exact (by repeat (first | (with_reducible first | exact HB.out | apply below_alloc | apply pw_below_drewN | apply below_drew1 | refine below_set ?_ GE364.out) | exact HB.out)))⟩; clear hw; clear HO_0; clear HO_4; clear HL359_1; clear HL359_3; clear HO363; clear BK364; clear HB; have HO_0 := n0_; have HO_4 := n1_; have HL359_1 := n2_; have HL359_3 := n3_; have HO363 := n4_; have BK364 := n5_; have HB := n6_; clear n0_ n1_ n2_ n3_ n4_ n5_ n6_; have p365 : 0 ≤ (0 : Int) := (by omega); have q365 : 0 < (x0_1.length : Int) := of_decide_eq_true (by first | (with_reducible assumption) | assumption); obtain ⟨ad365, A365_1, c365_1, A365_3, c365_3, e365, hx365_0, hx365_1, hx365_2, hx365_3, hl365_1, hi365_1, hl365_3, hi365_3⟩ := at_T135 (Kd.V_reads' HO_0.out).2.2 0 p365 q365; obtain rfl : ad359 = ad365 := (by injection e365); obtain ⟨ce365, hce365, hMe365, hcc365⟩ := Kd.V_get HO_0.out z135 0 p365 (by first | exact q365 | exact of_decide_eq_true (by first | (with_reducible assumption) | assumption) | (have e_ := (Kd.V_reads' HO_0.out).1; omega)); obtain ⟨ua365_1, uc365_1, ua365_3, uc365_3, rfl, ul365_1, ge365_1, ul365_3, ge365_3⟩ := k135_openF hMe365; have hv365_1 := hcc365 1 _ rfl; rw [add_field _ _ 1 (by omega)] at hv365_1; replace hv365_1 := Option.some.inj (hv365_1.symm.trans hx365_1); injection hv365_1 with hva_ hvn_ hvc_; rw [hva_] at ge365_1; rw [hvc_] at ul365_1; have HL365_1 := Aside0.mk (show Kd.V k25 25 _ w.heap.size _ _ ((rd_T135 x0_1 0).f0.f1) from Kd.V_mk ul365_1 ge365_1); clear hva_ hvn_ hvc_ ge365_1 ul365_1; have hv365_3 := hcc365 3 _ rfl; rw [add_field _ _ 3 (by omega)] at hv365_3; replace hv365_3 := Option.some.inj (hv365_3.symm.trans hx365_3); injection hv365_3 with hva_ hvn_ hvc_; rw [hva_] at ge365_3; rw [hvc_] at ul365_3; have HL365_3 := Aside0.mk (show Kd.V k25 25 _ w.heap.size _ _ ((rd_T135 x0_1 0).f1.f1) from Kd.V_mk ul365_3 ge365_3); clear hva_ hvn_ hvc_ ge365_3 ul365_3; clear hcc365 hce365; have qi365 : (0 < x0_1.length) = True := eq_true (by omega); (try rw [show ((0 : Int)).toNat = 0 from rfl] at hx365_0); (try rw [show 0 * 4 = 0 from rfl] at hx365_0); (try rw [Addr.add_zero'] at hx365_0); (try rw [show ((0 : Int)).toNat = 0 from rfl] at hx365_1); (try rw [show 0 * 4 = 0 from rfl] at hx365_1); (try rw [Addr.add_zero'] at hx365_1); (try rw [show ((0 : Int)).toNat = 0 from rfl] at hx365_2); (try rw [show 0 * 4 = 0 from rfl] at hx365_2); (try rw [Addr.add_zero'] at hx365_2); (try rw [show ((0 : Int)).toNat = 0 from rfl] at hx365_3); (try rw [show 0 * 4 = 0 from rfl] at hx365_3); (try rw [Addr.add_zero'] at hx365_3); have HR365_1 := Aside0.mk hi365_1; have HC365_1 := Aside0.mk hl365_1; clear hi365_1 hl365_1; have HR365_3 := Aside0.mk hi365_3; have HC365_3 := Aside0.mk hl365_3; clear hi365_3 hl365_3; replace p365 := eq_true p365; replace q365 := eq_true q365) | ((with_reducible refine gate_callee (f := 89) rfl ?_); refine goesL_ (some 26) rfl rfl Try.func89 (by kernel_rfl) rfl #[.slice Ao10 x4_1.length co10, .agg #[.int .i64 ((rd_T135 x0_1 0).f1.f0), .slice A365_3 ((rd_T135 x0_1 0).f1.f1).length c365_3]] rfl (by (try simp only [List.map_toArray, List.map_cons, List.map_nil]); first | done | rfl | (simp only [List.length_drop, List.length_take]; rfl)) ?_; (with_reducible refine (elenchusref03_Put.calls (fun k_ => ((P0_ k_ ∨ w.heap.size ≤ k_) ∧ k_ ≠ gb364)) _ _ x4_1 ((rd_T135 x0_1 0).f1.f0) (fun k_ => ((P0_ k_ ∨ w.heap.size ≤ k_) ∧ k_ ≠ gb364)) _ _ ((rd_T135 x0_1 0).f1.f1) t366 t367 _ ?side1 ?side2 A5.out).mono ?_); (case side1 => exact Kd.N_V (HO_4.out)); (case side2 => exact HL365_3.out); rintro e w16 ⟨v368, rfl, ho0, hb⟩; refine ⟨_, rfl, ?_⟩; have n0_ := Aside0.mk (Kd.V_below (by (with_reducible repeat (first | apply Kd.V_alloc | apply Kd.V_drewN | apply Kd.V_drew)); exact HO_0.out) hb); have n1_ := Aside0.mk (Kd.N_below (by (with_reducible repeat (first | apply Kd.N_alloc | apply Kd.N_drewN | apply Kd.N_drew)); exact HO_4.out) hb); have n2_ := Aside0.mk (Kd.V_below (by (with_reducible repeat (first | apply Kd.V_alloc | apply Kd.V_drewN | apply Kd.V_drew)); exact HL359_1.out) hb); have n3_ := Aside0.mk (Kd.V_below (by (with_reducible repeat (first | apply Kd.V_alloc | apply Kd.V_drewN | apply Kd.V_drew)); exact HL359_3.out) hb); have n4_ := Aside0.mk (Kd.V_below (by (with_reducible repeat (first | apply Kd.V_alloc | apply Kd.V_drewN | apply Kd.V_drew)); exact HO363.out) hb); have n5_ := Aside0.mk (Kd.V_below (by (with_reducible repeat (first | apply Kd.V_alloc | apply Kd.V_drewN | apply Kd.V_drew)); exact HL365_1.out) hb); have n6_ := Aside0.mk (Kd.V_below (by (with_reducible repeat (first | apply Kd.V_alloc | apply Kd.V_drewN | apply Kd.V_drew)); exact HL365_3.out) hb); have n7_ := Aside0.mk (Kd.V_lower (Kd.V_mono (ok' := fun k_ => (P0_ k_ ∨ w.heap.size ≤ k_) ∧ k_ ≠ gb364) ho0 (fun k_ hk_ => ⟨Or.elim hk_ (fun hs_ => Or.elim hs_ (fun hs_ => hs_.1) (fun hs_ => hs_.1)) (fun hn_ => (.inr (Nat.le_trans (below_size (by repeat (first | (with_reducible first | exact HB.out | apply below_alloc | apply pw_below_drewN | apply below_drew1 | refine below_set ?_ GE364.out) | exact HB.out))) hn_))), Or.elim hk_ (fun hs_ => Or.elim hs_ (fun hs_ => hs_.2) (fun hs_ => hs_.2)) (fun hn_ => (Kd.freshB (g := gb364) (o := .cells #[.int .i64 t360, .slice Ao14 t361.length co14] 25 (0, 0)) (by (with_reducible repeat (first | refine blk_drewN ?_ _ | refine blk_drew ?_ | refine blk_alloc ?_ _)); exact BK364.out) k_ hn_))⟩)) (below_size (by repeat (first | (with_reducible first | exact HB.out | apply below_alloc | apply pw_below_drewN | apply below_drew1 | refine below_set ?_ GE364.out) | exact HB.out)))); have n10_ := Aside0.mk (blk_below (g := gb364) (o := .cells #[.int .i64 t360, .slice Ao14 t361.length co14] 25 (0, 0)) (by (with_reducible repeat (first | refine blk_drewN ?_ _ | refine blk_drew ?_ | refine blk_alloc ?_ _)); exact BK364.out) hb); have n13_ := Aside0.mk (below_step (by repeat (first | (with_reducible first | exact HB.out | apply below_alloc | apply pw_below_drewN | apply below_drew1 | refine below_set ?_ GE364.out) | exact HB.out)) hb); clear HO_0; clear HO_4; clear HL359_1; clear HL359_3; clear HO363; clear HL365_1; clear HL365_3; clear BK364; clear HB; have HO_0 := n0_; have HO_4 := n1_; have HL359_1 := n2_; have HL359_3 := n3_; have HO363 := n4_; have HL365_1 := n5_; have HL365_3 := n6_; have HO369 := n7_; have BK364 := n10_; have HB := n13_; clear n0_ n1_ n2_ n3_ n4_ n5_ n6_ n7_ n10_ n13_; (try clear hb); (try clear hb2); (try clear hk); (try clear hi); (try clear ho0)) | ((with_reducible refine gate_dst (N := 6) rfl ?_); (try (refine gate_guard (by rfl) ?_; dsimp only)); refine box_event ?hg (N := 6) ?hd (cs := #[.int .i64 0, .slice none 0 0]) (t := 25) ?hr ?_; (case hd => rfl); (case hg => rfl); (case hr => first | (go_simp; done) | (go_simp; rfl)); intro gb370 hg w17 hbox hb; have n0_ := Aside0.mk (Kd.V_below (Kd.V_elderB (by (with_reducible repeat (first | apply Kd.V_alloc | apply Kd.V_drewN | apply Kd.V_drew)); exact HO_0.out) gb370 (Nat.le_of_eq hg.symm)) hb); have n1_ := Aside0.mk (Kd.N_below (Kd.N_elderB (by (with_reducible repeat (first | apply Kd.N_alloc | apply Kd.N_drewN | apply Kd.N_drew)); exact HO_4.out) gb370 (Nat.le_of_eq hg.symm)) hb); have n2_ := Aside0.mk (Kd.V_below (Kd.V_elderB (by (with_reducible repeat (first | apply Kd.V_alloc | apply Kd.V_drewN | apply Kd.V_drew)); exact HL359_1.out) gb370 (Nat.le_of_eq hg.symm)) hb); have n3_ := Aside0.mk (Kd.V_below (Kd.V_elderB (by (with_reducible repeat (first | apply Kd.V_alloc | apply Kd.V_drewN | apply Kd.V_drew)); exact HL359_3.out) gb370 (Nat.le_of_eq hg.symm)) hb); have n4_ := Aside0.mk (Kd.V_below (Kd.V_elderB (by (with_reducible repeat (first | apply Kd.V_alloc | apply Kd.V_drewN | apply Kd.V_drew)); exact HO363.out) gb370 (Nat.le_of_eq hg.symm)) hb); have n5_ := Aside0.mk (Kd.V_below (Kd.V_elderB (by (with_reducible repeat (first | apply Kd.V_alloc | apply Kd.V_drewN | apply Kd.V_drew)); exact HL365_1.out) gb370 (Nat.le_of_eq hg.symm)) hb); have n6_ := Aside0.mk (Kd.V_below (Kd.V_elderB (by (with_reducible repeat (first | apply Kd.V_alloc | apply Kd.V_drewN | apply Kd.V_drew)); exact HL365_3.out) gb370 (Nat.le_of_eq hg.symm)) hb); have n7_ := Aside0.mk (Kd.V_below (Kd.V_elderB (by (with_reducible repeat (first | apply Kd.V_alloc | apply Kd.V_drewN | apply Kd.V_drew)); exact HO369.out) gb370 (Nat.le_of_eq hg.symm)) hb); have n10_ := Aside0.mk (blk_below (g := gb364) (o := .cells #[.int .i64 t360, .slice Ao14 t361.length co14] 25 (0, 0)) (by (with_reducible repeat (first | refine blk_drewN ?_ _ | refine blk_drew ?_ | refine blk_alloc ?_ _)); exact BK364.out) hb); have n13_ := Aside0.mk (below_step (by repeat (first | (with_reducible first | exact HB.out | apply below_alloc | apply pw_below_drewN | apply below_drew1 | refine below_set ?_ GE364.out) | exact HB.out)) hb); have n14_ := Aside0.mk (hbox); have n15_ := Aside0.mk ((by rw [hg]; exact (below_size (by repeat (first | (with_reducible first | exact HB.out | apply below_alloc | apply pw_below_drewN | apply below_drew1 | refine below_set ?_ GE364.out) | exact HB.out))) : w.heap.size ≤ gb370)); have n16_ := Aside0.mk ((by rw [hg]; exact (below_size (by repeat (first | (with_reducible first | exact HB.out | apply below_alloc | apply pw_below_drewN | apply below_drew1 | refine below_set ?_ GE364.out) | exact HB.out))) : w.heap.size ≤ gb370)); have n17_ := Aside0.mk ((by rw [hg]; exact Nat.ne_of_lt (blk_lt (g := gb364) (o := .cells #[.int .i64 t360, .slice Ao14 t361.length co14] 25 (0, 0)) (by (with_reducible repeat (first | refine blk_drewN ?_ _ | refine blk_drew ?_ | refine blk_alloc ?_ _)); exact BK364.out)) : gb364 ≠ gb370)); have n18_ := Aside0.mk ((by rw [hg]; exact Nat.ne_of_gt (blk_lt (g := gb364) (o := .cells #[.int .i64 t360, .slice Ao14 t361.length co14] 25 (0, 0)) (by (with_reducible repeat (first | refine blk_drewN ?_ _ | refine blk_drew ?_ | refine blk_alloc ?_ _)); exact BK364.out)) : gb370 ≠ gb364)); clear HO_0; clear HO_4; clear HL359_1; clear HL359_3; clear HO363; clear HL365_1; clear HL365_3; clear HO369; clear BK364; clear HB; have HO_0 := n0_; have HO_4 := n1_; have HL359_1 := n2_; have HL359_3 := n3_; have HO363 := n4_; have HL365_1 := n5_; have HL365_3 := n6_; have HO369 := n7_; have BK364 := n10_; have HB := n13_; have BK370 := n14_; have GW370 := n15_; have GE370 := n16_; have NB364_370 := n17_; have NB370_364 := n18_; clear n0_ n1_ n2_ n3_ n4_ n5_ n6_ n7_ n10_ n13_ n14_ n15_ n16_ n17_ n18_; clear hb hbox hg; have hnb18 := NB370_364.out; have hnc18 := NB364_370.out; have hcz19_0 : w17.cell? ⟨gb370, 0, none⟩ = some (.int .i64 0) := (blk_cell BK370.out 0).trans rfl; have hcz19_1 : w17.cell? ⟨gb370, 1, none⟩ = some (.slice none 0 0) := (blk_cell BK370.out 1).trans rfl; have hfz19_0 := blk_frozen BK370.out 0; have hfz19_1 := blk_frozen BK370.out 1; obtain ⟨Ao20, co20, eo20⟩ := Kd.V_slice HO369.out; subst eo20) | ((with_reducible refine gate_store (t := 25) (p := 6) rfl ?_); refine store_event (t := 25) (p := 6) (v := ?vo_w21) (w1 := ((w17.setCell ⟨gb370, 0, none⟩ (.int .i64 t366)).setCell ⟨gb370, 1, none⟩ (.slice Ao20 t367.length co20))) ?hg ?ho ?hn ?hr ?_; (case ho => rfl); (case hg => rfl); (case hn => rfl); (case hr => first | (go_simp; done) | (go_simp; rfl)); intro w21 hw; have n0_ : Aside0 (Kd.V k135 135 w21 w.heap.size (fun k_ => (P0_ k_ ∨ w.heap.size ≤ k_) ∧ k_ ≠ gb364 ∧ k_ ≠ gb370) (.slice (some ad359) x0_1.length co9) x0_1) := ⟨(by rw [hw]; exact (by (with_reducible repeat (first | apply Kd.V_alloc | apply Kd.V_drewN | apply Kd.V_drew)); exact Kd.V_mono (Kd.V_far (p := ⟨gb370, 1, none⟩) (Kd.V_far (p := ⟨gb370, 0, none⟩) (Kd.V_mono HO_0.out (fun k_ hk => (⟨hk, hk.2⟩ : _ ∧ k_ ≠ gb370))) (fun _ hk => hk.2) (.int .i64 t366)) (fun _ hk => hk.2) (.slice Ao20 t367.length co20)) (fun _ hk => ⟨hk.1.1.1, ⟨hk.1.1.2, hk.1.2⟩⟩)))⟩; have n1_ : Aside0 (Kd.N k60 60 w21 w.heap.size (fun k_ => (P0_ k_ ∨ w.heap.size ≤ k_) ∧ k_ ≠ gb364 ∧ k_ ≠ gb370) (.slice Ao10 x4_1.length co10) x4_1) := ⟨(by rw [hw]; exact (by (with_reducible repeat (first | apply Kd.N_alloc | apply Kd.N_drewN | apply Kd.N_drew)); exact Kd.N_mono (Kd.N_far (p := ⟨gb370, 1, none⟩) (Kd.N_far (p := ⟨gb370, 0, none⟩) (Kd.N_mono HO_4.out (fun k_ hk => (⟨hk, hk.2⟩ : _ ∧ k_ ≠ gb370))) (fun _ hk => hk.2) (.int .i64 t366)) (fun _ hk => hk.2) (.slice Ao20 t367.length co20)) (fun _ hk => ⟨hk.1.1.1, ⟨hk.1.1.2, hk.1.2⟩⟩)))⟩; have n2_ : Aside0 (Kd.V k25 25 w21 w.heap.size (fun k_ => (P0_ k_ ∨ w.heap.size ≤ k_) ∧ k_ ≠ gb364 ∧ k_ ≠ gb370) (.slice A359_1 ((rd_T135 x0_1 0).f0.f1).length c359_1) ((rd_T135 x0_1 0).f0.f1)) := ⟨(by rw [hw]; exact (by (with_reducible repeat (first | apply Kd.V_alloc | apply Kd.V_drewN | apply Kd.V_drew)); exact Kd.V_mono (Kd.V_far (p := ⟨gb370, 1, none⟩) (Kd.V_far (p := ⟨gb370, 0, none⟩) (Kd.V_mono HL359_1.out (fun k_ hk => (⟨hk, hk.2⟩ : _ ∧ k_ ≠ gb370))) (fun _ hk => hk.2) (.int .i64 t366)) (fun _ hk => hk.2) (.slice Ao20 t367.length co20)) (fun _ hk => ⟨hk.1.1.1, ⟨hk.1.1.2, hk.1.2⟩⟩)))⟩; have n3_ : Aside0 (Kd.V k25 25 w21 w.heap.size (fun k_ => (P0_ k_ ∨ w.heap.size ≤ k_) ∧ k_ ≠ gb364 ∧ k_ ≠ gb370) (.slice A359_3 ((rd_T135 x0_1 0).f1.f1).length c359_3) ((rd_T135 x0_1 0).f1.f1)) := ⟨(by rw [hw]; exact (by (with_reducible repeat (first | apply Kd.V_alloc | apply Kd.V_drewN | apply Kd.V_drew)); exact Kd.V_mono (Kd.V_far (p := ⟨gb370, 1, none⟩) (Kd.V_far (p := ⟨gb370, 0, none⟩) (Kd.V_mono HL359_3.out (fun k_ hk => (⟨hk, hk.2⟩ : _ ∧ k_ ≠ gb370))) (fun _ hk => hk.2) (.int .i64 t366)) (fun _ hk => hk.2) (.slice Ao20 t367.length co20)) (fun _ hk => ⟨hk.1.1.1, ⟨hk.1.1.2, hk.1.2⟩⟩)))⟩; have n4_ : Aside0 (Kd.V k25 25 w21 w.heap.size (fun k_ => (P0_ k_ ∨ w.heap.size ≤ k_) ∧ k_ ≠ gb364 ∧ k_ ≠ gb370) (.slice Ao14 t361.length co14) t361) := ⟨(by rw [hw]; exact (by (with_reducible repeat (first | apply Kd.V_alloc | apply Kd.V_drewN | apply Kd.V_drew)); exact Kd.V_mono (Kd.V_far (p := ⟨gb370, 1, none⟩) (Kd.V_far (p := ⟨gb370, 0, none⟩) (Kd.V_mono HO363.out (fun k_ hk => (⟨hk, hk.2⟩ : _ ∧ k_ ≠ gb370))) (fun _ hk => hk.2) (.int .i64 t366)) (fun _ hk => hk.2) (.slice Ao20 t367.length co20)) (fun _ hk => ⟨hk.1.1.1, ⟨hk.1.1.2, hk.1.2⟩⟩)))⟩; have n5_ : Aside0 (Kd.V k25 25 w21 w.heap.size (fun k_ => (P0_ k_ ∨ w.heap.size ≤ k_) ∧ k_ ≠ gb364 ∧ k_ ≠ gb370) (.slice A365_1 ((rd_T135 x0_1 0).f0.f1).length c365_1) ((rd_T135 x0_1 0).f0.f1)) := ⟨(by rw [hw]; exact (by (with_reducible repeat (first | apply Kd.V_alloc | apply Kd.V_drewN | apply Kd.V_drew)); exact Kd.V_mono (Kd.V_far (p := ⟨gb370, 1, none⟩) (Kd.V_far (p := ⟨gb370, 0, none⟩) (Kd.V_mono HL365_1.out (fun k_ hk => (⟨hk, hk.2⟩ : _ ∧ k_ ≠ gb370))) (fun _ hk => hk.2) (.int .i64 t366)) (fun _ hk => hk.2) (.slice Ao20 t367.length co20)) (fun _ hk => ⟨hk.1.1.1, ⟨hk.1.1.2, hk.1.2⟩⟩)))⟩; have n6_ : Aside0 (Kd.V k25 25 w21 w.heap.size (fun k_ => (P0_ k_ ∨ w.heap.size ≤ k_) ∧ k_ ≠ gb364 ∧ k_ ≠ gb370) (.slice A365_3 ((rd_T135 x0_1 0).f1.f1).length c365_3) ((rd_T135 x0_1 0).f1.f1)) := ⟨(by rw [hw]; exact (by (with_reducible repeat (first | apply Kd.V_alloc | apply Kd.V_drewN | apply Kd.V_drew)); exact Kd.V_mono (Kd.V_far (p := ⟨gb370, 1, none⟩) (Kd.V_far (p := ⟨gb370, 0, none⟩) (Kd.V_mono HL365_3.out (fun k_ hk => (⟨hk, hk.2⟩ : _ ∧ k_ ≠ gb370))) (fun _ hk => hk.2) (.int .i64 t366)) (fun _ hk => hk.2) (.slice Ao20 t367.length co20)) (fun _ hk => ⟨hk.1.1.1, ⟨hk.1.1.2, hk.1.2⟩⟩)))⟩; have n7_ : Aside0 (Kd.V k25 25 w21 w.heap.size (fun k_ => (P0_ k_ ∨ w.heap.size ≤ k_) ∧ k_ ≠ gb364 ∧ k_ ≠ gb370) (.slice Ao20 t367.length co20) t367) := ⟨(by rw [hw]; exact (by (with_reducible repeat (first | apply Kd.V_alloc | apply Kd.V_drewN | apply Kd.V_drew)); exact Kd.V_mono (Kd.V_far (p := ⟨gb370, 1, none⟩) (Kd.V_far (p := ⟨gb370, 0, none⟩) (Kd.V_mono HO369.out (fun k_ hk => (⟨hk, hk.2⟩ : _ ∧ k_ ≠ gb370))) (fun _ hk => hk.2) (.int .i64 t366)) (fun _ hk => hk.2) (.slice Ao20 t367.length co20)) (fun _ hk => ⟨hk.1.1.1, ⟨hk.1.1.2, hk.1.2⟩⟩)))⟩; have n8_ : Aside0 (w21.heap[gb364]? = some (.cells #[.int .i64 t360, .slice Ao14 t361.length co14] 25 (0, 0))) := ⟨(by rw [hw]; exact (by (with_reducible repeat (first | refine blk_drewN ?_ _ | refine blk_drew ?_ | refine blk_alloc ?_ _)); refine blk_far ?_ NB364_370.out _; (with_reducible repeat (first | refine blk_drewN ?_ _ | refine blk_drew ?_ | refine blk_alloc ?_ _)); refine blk_far ?_ NB364_370.out _; (with_reducible repeat (first | refine blk_drewN ?_ _ | refine blk_drew ?_ | refine blk_alloc ?_ _)); exact BK364.out))⟩; have n9_ : Aside0 (w21.heap[gb370]? = some (.cells #[.int .i64 t366, .slice Ao20 t367.length co20] 25 (0, 0))) := ⟨(by rw [hw]; exact (by (with_reducible repeat (first | refine blk_drewN ?_ _ | refine blk_drew ?_ | refine blk_alloc ?_ _)); refine blk_put (cs := #[.int .i64 t366, .slice none 0 0]) ?_ 1 _ rfl; (with_reducible repeat (first | refine blk_drewN ?_ _ | refine blk_drew ?_ | refine blk_alloc ?_ _)); refine blk_put (cs := #[.int .i64 0, .slice none 0 0]) ?_ 0 _ rfl; (with_reducible repeat (first | refine blk_drewN ?_ _ | refine blk_drew ?_ | refine blk_alloc ?_ _)); exact BK370.out))⟩; have n10_ : Aside0 (Below w.heap.size w w21) := ⟨(by rw [hw]; exact (by repeat (first | (with_reducible first | exact HB.out | apply below_alloc | apply pw_below_drewN | apply below_drew1 | refine below_set ?_ GE364.out | refine below_set ?_ GE370.out) | exact HB.out)))⟩; clear hw; clear HO_0; clear HO_4; clear HL359_1; clear HL359_3; clear HO363; clear HL365_1; clear HL365_3; clear HO369; clear BK364; clear BK370; clear HB; have HO_0 := n0_; have HO_4 := n1_; have HL359_1 := n2_; have HL359_3 := n3_; have HO363 := n4_; have HL365_1 := n5_; have HL365_3 := n6_; have HO369 := n7_; have BK364 := n8_; have BK370 := n9_; have HB := n10_; clear n0_ n1_ n2_ n3_ n4_ n5_ n6_ n7_ n8_ n9_ n10_; have q22 : (1 : Int) ≤ ((x0_1.length : Int) : Int) := of_decide_eq_true (by first | (with_reducible assumption) | assumption); obtain ⟨i022, hi022, _, hsz22, _⟩ := info_parts info135; have hroom22 : x0_1.length ≤ co9 := (Kd.V_reads' HO_0.out).2.1; have hC22 : Kd.F k135 _ _ (some ad359) x0_1.length x0_1 := (Kd.V_at (base := w.heap.size) HO_0.out).2.2; have hcut22 := cut_from (P := Try.prog) 133 135 .i64 Try.underlying133 hi022 4 hsz22 (some ad359) x0_1.length co9 1 (by omega) q22; have hr22 := Kd.F_cut (m := (1 : Int).toNat) (c := co9) hC22 (by omega) hroom22; obtain ⟨A22, hA22⟩ : ∃ A1, A1 = (if co9 = (1 : Int).toNat then (some ad359) else ((some ad359) : Option Addr).map (·.add ((1 : Int).toNat * 4))) := ⟨_, rfl⟩; obtain ⟨c22, hc22⟩ : ∃ c1, c1 = co9 - (1 : Int).toNat := ⟨_, rfl⟩; have hy22 : y371.length = x0_1.length - (1 : Int).toNat := (by rw [Ny371.out, List.length_drop] <;> omega); rw [show (x0_1).drop (1 : Int).toNat = y371 from Ny371.out.symm] at hr22; replace hr22 : Kd.F k135 _ _ A22 y371.length y371 := (by rw [hA22]; exact hr22); rw [← hy22, ← hA22, ← hc22] at hcut22; have HO375 := Aside0.mk (show Kd.V k135 135 _ w.heap.size _ (.slice A22 y371.length c22) y371 from Kd.V_mk (by rw [hy22, hc22]; exact Nat.sub_le_sub_right hroom22 _) hr22); have HC375 := Aside0.mk (show y371.length ≤ c22 from by rw [hy22, hc22]; exact Nat.sub_le_sub_right hroom22 _); clear hr22 hC22 hroom22 hi022 hsz22 hc22; have KY22 := Aside0.mk hy22; have KA22 := Aside0.mk hA22; clear hy22 hA22; replace q22 := eq_true q22; have hcz23_0 : w21.cell? ⟨gb364, 0, none⟩ = some (.int .i64 t360) := (blk_cell BK364.out 0).trans rfl; have hcz23_1 : w21.cell? ⟨gb364, 1, none⟩ = some (.slice Ao14 t361.length co14) := (blk_cell BK364.out 1).trans rfl; have hfz23_0 := blk_frozen BK364.out 0; have hfz23_1 := blk_frozen BK364.out 1; have hcz24_0 : w21.cell? ⟨gb370, 0, none⟩ = some (.int .i64 t366) := (blk_cell BK370.out 0).trans rfl; have hcz24_1 : w21.cell? ⟨gb370, 1, none⟩ = some (.slice Ao20 t367.length co20) := (blk_cell BK370.out 1).trans rfl; have hfz24_0 := blk_frozen BK370.out 0; have hfz24_1 := blk_frozen BK370.out 1) | ((with_reducible refine gate_callee (f := 34) rfl ?_); refine goesL_ (some 31) rfl rfl Try.func34 (by kernel_rfl) rfl #[.agg #[.int .i64 t360, .slice Ao14 t361.length co14], .agg #[.int .i64 t366, .slice Ao20 t367.length co20]] rfl (by (try simp only [List.map_toArray, List.map_cons, List.map_nil]); first | done | rfl | (simp only [List.length_drop, List.length_take]; rfl)) ?_; (with_reducible refine (elenchusref01_Same.calls t360 _ _ t361 t366 _ _ t367 true _ ?side1 ?side2 ?side3 ?side4 A7.out).mono ?_); (case side1 => repeat (first | exact (Kd.V_reads' HO363.out).2.2 | (with_reducible refine Kd.C_alloc ?_ _) | (with_reducible refine Kd.C_drewN ?_ _) | (with_reducible refine Kd.C_drew ?_))); (case side2 => exact (Kd.V_reads' HO363.out).2.1); (case side3 => repeat (first | exact (Kd.V_reads' HO369.out).2.2 | (with_reducible refine Kd.C_alloc ?_ _) | (with_reducible refine Kd.C_drewN ?_ _) | (with_reducible refine Kd.C_drew ?_))); (case side4 => exact (Kd.V_reads' HO369.out).2.1); rintro e w25 ⟨rfl, hb⟩; refine ⟨_, rfl, ?_⟩; have n0_ := Aside0.mk (Kd.V_below (by (with_reducible repeat (first | apply Kd.V_alloc | apply Kd.V_drewN | apply Kd.V_drew)); exact HO_0.out) hb); have n1_ := Aside0.mk (Kd.N_below (by (with_reducible repeat (first | apply Kd.N_alloc | apply Kd.N_drewN | apply Kd.N_drew)); exact HO_4.out) hb); have n2_ := Aside0.mk (Kd.V_below (by (with_reducible repeat (first | apply Kd.V_alloc | apply Kd.V_drewN | apply Kd.V_drew)); exact HL359_1.out) hb); have n3_ := Aside0.mk (Kd.V_below (by (with_reducible repeat (first | apply Kd.V_alloc | apply Kd.V_drewN | apply Kd.V_drew)); exact HL359_3.out) hb); have n4_ := Aside0.mk (Kd.V_below (by (with_reducible repeat (first | apply Kd.V_alloc | apply Kd.V_drewN | apply Kd.V_drew)); exact HO363.out) hb); have n5_ := Aside0.mk (Kd.V_below (by (with_reducible repeat (first | apply Kd.V_alloc | apply Kd.V_drewN | apply Kd.V_drew)); exact HL365_1.out) hb); have n6_ := Aside0.mk (Kd.V_below (by (with_reducible repeat (first | apply Kd.V_alloc | apply Kd.V_drewN | apply Kd.V_drew)); exact HL365_3.out) hb); have n7_ := Aside0.mk (Kd.V_below (by (with_reducible repeat (first | apply Kd.V_alloc | apply Kd.V_drewN | apply Kd.V_drew)); exact HO369.out) hb); have n8_ := Aside0.mk (Kd.V_below (by (with_reducible repeat (first | apply Kd.V_alloc | apply Kd.V_drewN | apply Kd.V_drew)); exact HO375.out) hb); have n11_ := Aside0.mk (blk_below (g := gb364) (o := .cells #[.int .i64 t360, .slice Ao14 t361.length co14] 25 (0, 0)) (by (with_reducible repeat (first | refine blk_drewN ?_ _ | refine blk_drew ?_ | refine blk_alloc ?_ _)); exact BK364.out) hb); have n14_ := Aside0.mk (blk_below (g := gb370) (o := .cells #[.int .i64 t366, .slice Ao20 t367.length co20] 25 (0, 0)) (by (with_reducible repeat (first | refine blk_drewN ?_ _ | refine blk_drew ?_ | refine blk_alloc ?_ _)); exact BK370.out) hb); have n15_ := Aside0.mk (below_step (by repeat (first | (with_reducible first | exact HB.out | apply below_alloc | apply pw_below_drewN | apply below_drew1 | refine below_set ?_ GE364.out | refine below_set ?_ GE370.out) | exact HB.out)) hb); clear HO_0; clear HO_4; clear HL359_1; clear HL359_3; clear HO363; clear HL365_1; clear HL365_3; clear HO369; clear HO375; clear BK364; clear BK370; clear HB; have HO_0 := n0_; have HO_4 := n1_; have HL359_1 := n2_; have HL359_3 := n3_; have HO363 := n4_; have HL365_1 := n5_; have HL365_3 := n6_; have HO369 := n7_; have HO375 := n8_; have BK364 := n11_; have BK370 := n14_; have HB := n15_; clear n0_ n1_ n2_ n3_ n4_ n5_ n6_ n7_ n8_ n11_ n14_ n15_; (try clear hb); (try clear hb2); (try clear hk); (try clear hi)) )
              go_roundg k1
              case measure => have := HK1.out; omega
              case rel => exact ⟨(y371), (x4_1), H', ⟨by have := HK1.out; omega⟩, ⟨by (with_reducible repeat (first | apply Kd.V_alloc | apply Kd.V_drewN | apply Kd.V_drew)); exact Kd.V_mono HO375.out (fun _ hk => hk.1)⟩, ⟨by (with_reducible repeat (first | apply Kd.N_alloc | apply Kd.N_drewN | apply Kd.N_drew)); exact Kd.N_mono HO_4.out (fun _ hk => hk.1)⟩, ⟨by repeat (first | (with_reducible first | exact HB.out | apply below_alloc | apply pw_below_drewN | apply below_drew1 | refine below_set ?_ GE364.out | refine below_set ?_ GE370.out) | exact HB.out)⟩⟩
            · replace c8 := Bool.eq_false_iff.mpr c8
              subst c8
              have H1 : ((elenchusref04_bound.f k1 t360 t361 t366 t367).bind fun t377 => (if t377 = 2 then (elenchusref04_solve.j1 k1 y371 x4_1 t377 t366 t367 t360 t361) else (elenchusref04_solve.j1 k1 y371 x4_1 t377 t360 t361 t366 t367))) = some (r1, r2) := by rw [if_neg (show ¬ (false = true) by decide)] at H; exact H
              clear H
              have H := H1
              clear H1
              replace H := Option.bind_eq_some_iff.mp H
              obtain ⟨t377, A260, H⟩ := H
              replace H : (if t377 = 2 then (elenchusref04_solve.j1 k1 y371 x4_1 t377 t366 t367 t360 t361) else (elenchusref04_solve.j1 k1 y371 x4_1 t377 t360 t361 t366 t367)) = some (r1, r2) := H
              have A26 := Aside0.mk A260
              clear A260
              have HC27 := Aside0.mk H
              clear H
              obtain ⟨Ao28, co28, eo28⟩ := Kd.V_slice HO_0.out
              subst eo28
              have p359 : 0 ≤ (0 : Int) := (by omega)
              have q359 : 0 < (x0_1.length : Int) := of_decide_eq_true (by first | (with_reducible assumption) | assumption)
              obtain ⟨ad359, A359_1, c359_1, A359_3, c359_3, e359, hx359_0, hx359_1, hx359_2, hx359_3, hl359_1, hi359_1, hl359_3, hi359_3⟩ := at_T135 (Kd.V_reads' HO_0.out).2.2 0 p359 q359
              cases e359
              obtain ⟨ce359, hce359, hMe359, hcc359⟩ := Kd.V_get HO_0.out z135 0 p359 (by first | exact q359 | exact of_decide_eq_true (by first | (with_reducible assumption) | assumption) | (have e_ := (Kd.V_reads' HO_0.out).1; omega))
              obtain ⟨ua359_1, uc359_1, ua359_3, uc359_3, rfl, ul359_1, ge359_1, ul359_3, ge359_3⟩ := k135_openF hMe359
              have hv359_1 := hcc359 1 _ rfl
              rw [add_field _ _ 1 (by omega)] at hv359_1
              replace hv359_1 := Option.some.inj (hv359_1.symm.trans hx359_1)
              injection hv359_1 with hva_ hvn_ hvc_
              rw [hva_] at ge359_1
              rw [hvc_] at ul359_1
              have HL359_1 := Aside0.mk (show Kd.V k25 25 _ w.heap.size _ _ ((rd_T135 x0_1 0).f0.f1) from Kd.V_mk ul359_1 ge359_1)
              clear hva_ hvn_ hvc_ ge359_1 ul359_1
              have hv359_3 := hcc359 3 _ rfl
              rw [add_field _ _ 3 (by omega)] at hv359_3
              replace hv359_3 := Option.some.inj (hv359_3.symm.trans hx359_3)
              injection hv359_3 with hva_ hvn_ hvc_
              rw [hva_] at ge359_3
              rw [hvc_] at ul359_3
              have HL359_3 := Aside0.mk (show Kd.V k25 25 _ w.heap.size _ _ ((rd_T135 x0_1 0).f1.f1) from Kd.V_mk ul359_3 ge359_3)
              clear hva_ hvn_ hvc_ ge359_3 ul359_3
              clear hcc359 hce359
              have qi359 : (0 < x0_1.length) = True := eq_true (by omega)
              (try rw [show ((0 : Int)).toNat = 0 from rfl] at hx359_0)
              (try rw [show 0 * 4 = 0 from rfl] at hx359_0)
              (try rw [Addr.add_zero'] at hx359_0)
              (try rw [show ((0 : Int)).toNat = 0 from rfl] at hx359_1)
              (try rw [show 0 * 4 = 0 from rfl] at hx359_1)
              (try rw [Addr.add_zero'] at hx359_1)
              (try rw [show ((0 : Int)).toNat = 0 from rfl] at hx359_2)
              (try rw [show 0 * 4 = 0 from rfl] at hx359_2)
              (try rw [Addr.add_zero'] at hx359_2)
              (try rw [show ((0 : Int)).toNat = 0 from rfl] at hx359_3)
              (try rw [show 0 * 4 = 0 from rfl] at hx359_3)
              (try rw [Addr.add_zero'] at hx359_3)
              have HR359_1 := Aside0.mk hi359_1
              have HC359_1 := Aside0.mk hl359_1
              clear hi359_1 hl359_1
              have HR359_3 := Aside0.mk hi359_3
              have HC359_3 := Aside0.mk hl359_3
              clear hi359_3 hl359_3
              replace p359 := eq_true p359
              replace q359 := eq_true q359
              obtain ⟨Ao29, co29, eo29⟩ := Kd.N_slice HO_4.out
              subst eo29
              go_upto_if 36 with (first | ((with_reducible refine gate_callee (f := 89) rfl ?_); refine goesL_ (some 20) rfl rfl Try.func89 (by kernel_rfl) rfl #[.slice Ao29 x4_1.length co29, .agg #[.int .i64 ((rd_T135 x0_1 0).f0.f0), .slice A359_1 ((rd_T135 x0_1 0).f0.f1).length c359_1]] rfl (by (try simp only [List.map_toArray, List.map_cons, List.map_nil]); first | done | rfl | (simp only [List.length_drop, List.length_take]; rfl)) ?_; (with_reducible refine (elenchusref03_Put.calls (fun k_ => (P0_ k_ ∨ w.heap.size ≤ k_)) _ _ x4_1 ((rd_T135 x0_1 0).f0.f0) (fun k_ => (P0_ k_ ∨ w.heap.size ≤ k_)) _ _ ((rd_T135 x0_1 0).f0.f1) t360 t361 _ ?side1 ?side2 A4.out).mono ?_); (case side1 => exact Kd.N_V (HO_4.out)); (case side2 => exact HL359_1.out); rintro e w30 ⟨v362, rfl, ho0, hb⟩; refine ⟨_, rfl, ?_⟩; have n0_ := Aside0.mk (Kd.V_below (by (with_reducible repeat (first | apply Kd.V_alloc | apply Kd.V_drewN | apply Kd.V_drew)); exact HO_0.out) hb); have n1_ := Aside0.mk (Kd.N_below (by (with_reducible repeat (first | apply Kd.N_alloc | apply Kd.N_drewN | apply Kd.N_drew)); exact HO_4.out) hb); have n2_ := Aside0.mk (Kd.V_below (by (with_reducible repeat (first | apply Kd.V_alloc | apply Kd.V_drewN | apply Kd.V_drew)); exact HL359_1.out) hb); have n3_ := Aside0.mk (Kd.V_below (by (with_reducible repeat (first | apply Kd.V_alloc | apply Kd.V_drewN | apply Kd.V_drew)); exact HL359_3.out) hb); have n4_ := Aside0.mk (Kd.V_lower (Kd.V_mono (ok' := fun k_ => (P0_ k_ ∨ w.heap.size ≤ k_)) ho0 (fun k_ hk_ => Or.elim hk_ (fun hs_ => Or.elim hs_ (fun hs_ => hs_) (fun hs_ => hs_)) (fun hn_ => (.inr (Nat.le_trans (below_size (by repeat (first | (with_reducible first | exact HB.out | apply below_alloc | apply pw_below_drewN | apply below_drew1) | exact HB.out))) hn_))))) (below_size (by repeat (first | (with_reducible first | exact HB.out | apply below_alloc | apply pw_below_drewN | apply below_drew1) | exact HB.out)))); have n7_ := Aside0.mk (below_step (by repeat (first | (with_reducible first | exact HB.out | apply below_alloc | apply pw_below_drewN | apply below_drew1) | exact HB.out)) hb); clear HO_0; clear HO_4; clear HL359_1; clear HL359_3; clear HB; have HO_0 := n0_; have HO_4 := n1_; have HL359_1 := n2_; have HL359_3 := n3_; have HO363 := n4_; have HB := n7_; clear n0_ n1_ n2_ n3_ n4_ n7_; (try clear hb); (try clear hb2); (try clear hk); (try clear hi); (try clear ho0)) | ((with_reducible refine gate_dst (N := 5) rfl ?_); (try (refine gate_guard (by rfl) ?_; dsimp only)); refine box_event ?hg (N := 5) ?hd (cs := #[.int .i64 0, .slice none 0 0]) (t := 25) ?hr ?_; (case hd => rfl); (case hg => rfl); (case hr => first | (go_simp; done) | (go_simp; rfl)); intro gb364 hg w31 hbox hb; have n0_ := Aside0.mk (Kd.V_below (Kd.V_elderB (by (with_reducible repeat (first | apply Kd.V_alloc | apply Kd.V_drewN | apply Kd.V_drew)); exact HO_0.out) gb364 (Nat.le_of_eq hg.symm)) hb); have n1_ := Aside0.mk (Kd.N_below (Kd.N_elderB (by (with_reducible repeat (first | apply Kd.N_alloc | apply Kd.N_drewN | apply Kd.N_drew)); exact HO_4.out) gb364 (Nat.le_of_eq hg.symm)) hb); have n2_ := Aside0.mk (Kd.V_below (Kd.V_elderB (by (with_reducible repeat (first | apply Kd.V_alloc | apply Kd.V_drewN | apply Kd.V_drew)); exact HL359_1.out) gb364 (Nat.le_of_eq hg.symm)) hb); have n3_ := Aside0.mk (Kd.V_below (Kd.V_elderB (by (with_reducible repeat (first | apply Kd.V_alloc | apply Kd.V_drewN | apply Kd.V_drew)); exact HL359_3.out) gb364 (Nat.le_of_eq hg.symm)) hb); have n4_ := Aside0.mk (Kd.V_below (Kd.V_elderB (by (with_reducible repeat (first | apply Kd.V_alloc | apply Kd.V_drewN | apply Kd.V_drew)); exact HO363.out) gb364 (Nat.le_of_eq hg.symm)) hb); have n7_ := Aside0.mk (below_step (by repeat (first | (with_reducible first | exact HB.out | apply below_alloc | apply pw_below_drewN | apply below_drew1) | exact HB.out)) hb); have n8_ := Aside0.mk (hbox); have n9_ := Aside0.mk ((by rw [hg]; exact (below_size (by repeat (first | (with_reducible first | exact HB.out | apply below_alloc | apply pw_below_drewN | apply below_drew1) | exact HB.out))) : w.heap.size ≤ gb364)); have n10_ := Aside0.mk ((by rw [hg]; exact (below_size (by repeat (first | (with_reducible first | exact HB.out | apply below_alloc | apply pw_below_drewN | apply below_drew1) | exact HB.out))) : w.heap.size ≤ gb364)); clear HO_0; clear HO_4; clear HL359_1; clear HL359_3; clear HO363; clear HB; have HO_0 := n0_; have HO_4 := n1_; have HL359_1 := n2_; have HL359_3 := n3_; have HO363 := n4_; have HB := n7_; have BK364 := n8_; have GW364 := n9_; have GE364 := n10_; clear n0_ n1_ n2_ n3_ n4_ n7_ n8_ n9_ n10_; clear hb hbox hg; have hcz32_0 : w31.cell? ⟨gb364, 0, none⟩ = some (.int .i64 0) := (blk_cell BK364.out 0).trans rfl; have hcz32_1 : w31.cell? ⟨gb364, 1, none⟩ = some (.slice none 0 0) := (blk_cell BK364.out 1).trans rfl; have hfz32_0 := blk_frozen BK364.out 0; have hfz32_1 := blk_frozen BK364.out 1; obtain ⟨Ao33, co33, eo33⟩ := Kd.V_slice HO363.out; subst eo33) | ((with_reducible refine gate_store (t := 25) (p := 5) rfl ?_); refine store_event (t := 25) (p := 5) (v := ?vo_w34) (w1 := ((w31.setCell ⟨gb364, 0, none⟩ (.int .i64 t360)).setCell ⟨gb364, 1, none⟩ (.slice Ao33 t361.length co33))) ?hg ?ho ?hn ?hr ?_; (case ho => rfl); (case hg => rfl); (case hn => rfl); (case hr => first | (go_simp; done) | (go_simp; rfl)); intro w34 hw; have n0_ : Aside0 (Kd.V k135 135 w34 w.heap.size (fun k_ => (P0_ k_ ∨ w.heap.size ≤ k_) ∧ k_ ≠ gb364) (.slice (some ad359) x0_1.length co28) x0_1) := ⟨(by rw [hw]; exact (by (with_reducible repeat (first | apply Kd.V_alloc | apply Kd.V_drewN | apply Kd.V_drew)); exact Kd.V_mono (Kd.V_far (p := ⟨gb364, 1, none⟩) (Kd.V_far (p := ⟨gb364, 0, none⟩) (Kd.V_mono HO_0.out (fun k_ hk => (⟨hk, hk.2⟩ : _ ∧ k_ ≠ gb364))) (fun _ hk => hk.2) (.int .i64 t360)) (fun _ hk => hk.2) (.slice Ao33 t361.length co33)) (fun _ hk => ⟨hk.1.1, hk.1.2⟩)))⟩; have n1_ : Aside0 (Kd.N k60 60 w34 w.heap.size (fun k_ => (P0_ k_ ∨ w.heap.size ≤ k_) ∧ k_ ≠ gb364) (.slice Ao29 x4_1.length co29) x4_1) := ⟨(by rw [hw]; exact (by (with_reducible repeat (first | apply Kd.N_alloc | apply Kd.N_drewN | apply Kd.N_drew)); exact Kd.N_mono (Kd.N_far (p := ⟨gb364, 1, none⟩) (Kd.N_far (p := ⟨gb364, 0, none⟩) (Kd.N_mono HO_4.out (fun k_ hk => (⟨hk, hk.2⟩ : _ ∧ k_ ≠ gb364))) (fun _ hk => hk.2) (.int .i64 t360)) (fun _ hk => hk.2) (.slice Ao33 t361.length co33)) (fun _ hk => ⟨hk.1.1, hk.1.2⟩)))⟩; have n2_ : Aside0 (Kd.V k25 25 w34 w.heap.size (fun k_ => (P0_ k_ ∨ w.heap.size ≤ k_) ∧ k_ ≠ gb364) (.slice A359_1 ((rd_T135 x0_1 0).f0.f1).length c359_1) ((rd_T135 x0_1 0).f0.f1)) := ⟨(by rw [hw]; exact (by (with_reducible repeat (first | apply Kd.V_alloc | apply Kd.V_drewN | apply Kd.V_drew)); exact Kd.V_mono (Kd.V_far (p := ⟨gb364, 1, none⟩) (Kd.V_far (p := ⟨gb364, 0, none⟩) (Kd.V_mono HL359_1.out (fun k_ hk => (⟨hk, hk.2⟩ : _ ∧ k_ ≠ gb364))) (fun _ hk => hk.2) (.int .i64 t360)) (fun _ hk => hk.2) (.slice Ao33 t361.length co33)) (fun _ hk => ⟨hk.1.1, hk.1.2⟩)))⟩; have n3_ : Aside0 (Kd.V k25 25 w34 w.heap.size (fun k_ => (P0_ k_ ∨ w.heap.size ≤ k_) ∧ k_ ≠ gb364) (.slice A359_3 ((rd_T135 x0_1 0).f1.f1).length c359_3) ((rd_T135 x0_1 0).f1.f1)) := ⟨(by rw [hw]; exact (by (with_reducible repeat (first | apply Kd.V_alloc | apply Kd.V_drewN | apply Kd.V_drew)); exact Kd.V_mono (Kd.V_far (p := ⟨gb364, 1, none⟩) (Kd.V_far (p := ⟨gb364, 0, none⟩) (Kd.V_mono HL359_3.out (fun k_ hk => (⟨hk, hk.2⟩ : _ ∧ k_ ≠ gb364))) (fun _ hk => hk.2) (.int .i64 t360)) (fun _ hk => hk.2) (.slice Ao33 t361.length co33)) (fun _ hk => ⟨hk.1.1, hk.1.2⟩)))⟩; have n4_ : Aside0 (Kd.V k25 25 w34 w.heap.size (fun k_ => (P0_ k_ ∨ w.heap.size ≤ k_) ∧ k_ ≠ gb364) (.slice Ao33 t361.length co33) t361) := ⟨(by rw [hw]; exact (by (with_reducible repeat (first | apply Kd.V_alloc | apply Kd.V_drewN | apply Kd.V_drew)); exact Kd.V_mono (Kd.V_far (p := ⟨gb364, 1, none⟩) (Kd.V_far (p := ⟨gb364, 0, none⟩) (Kd.V_mono HO363.out (fun k_ hk => (⟨hk, hk.2⟩ : _ ∧ k_ ≠ gb364))) (fun _ hk => hk.2) (.int .i64 t360)) (fun _ hk => hk.2) (.slice Ao33 t361.length co33)) (fun _ hk => ⟨hk.1.1, hk.1.2⟩)))⟩; have n5_ : Aside0 (w34.heap[gb364]? = some (.cells #[.int .i64 t360, .slice Ao33 t361.length co33] 25 (0, 0))) := ⟨(by rw [hw]; exact (by (with_reducible repeat (first | refine blk_drewN ?_ _ | refine blk_drew ?_ | refine blk_alloc ?_ _)); refine blk_put (cs := #[.int .i64 t360, .slice none 0 0]) ?_ 1 _ rfl; (with_reducible repeat (first | refine blk_drewN ?_ _ | refine blk_drew ?_ | refine blk_alloc ?_ _)); refine blk_put (cs := #[.int .i64 0, .slice none 0 0]) ?_ 0 _ rfl; (with_reducible repeat (first | refine blk_drewN ?_ _ | refine blk_drew ?_ | refine blk_alloc ?_ _)); exact BK364.out))⟩; have n6_ : Aside0 (Below w.heap.size w w34) := ⟨(by rw [hw]; exact (by repeat (first | (with_reducible first | exact HB.out | apply below_alloc | apply pw_below_drewN | apply below_drew1 | refine below_set ?_ GE364.out) | exact HB.out)))⟩; clear hw; clear HO_0; clear HO_4; clear HL359_1; clear HL359_3; clear HO363; clear BK364; clear HB; have HO_0 := n0_; have HO_4 := n1_; have HL359_1 := n2_; have HL359_3 := n3_; have HO363 := n4_; have BK364 := n5_; have HB := n6_; clear n0_ n1_ n2_ n3_ n4_ n5_ n6_; have p365 : 0 ≤ (0 : Int) := (by omega); have q365 : 0 < (x0_1.length : Int) := of_decide_eq_true (by first | (with_reducible assumption) | assumption); obtain ⟨ad365, A365_1, c365_1, A365_3, c365_3, e365, hx365_0, hx365_1, hx365_2, hx365_3, hl365_1, hi365_1, hl365_3, hi365_3⟩ := at_T135 (Kd.V_reads' HO_0.out).2.2 0 p365 q365; obtain rfl : ad359 = ad365 := (by injection e365); obtain ⟨ce365, hce365, hMe365, hcc365⟩ := Kd.V_get HO_0.out z135 0 p365 (by first | exact q365 | exact of_decide_eq_true (by first | (with_reducible assumption) | assumption) | (have e_ := (Kd.V_reads' HO_0.out).1; omega)); obtain ⟨ua365_1, uc365_1, ua365_3, uc365_3, rfl, ul365_1, ge365_1, ul365_3, ge365_3⟩ := k135_openF hMe365; have hv365_1 := hcc365 1 _ rfl; rw [add_field _ _ 1 (by omega)] at hv365_1; replace hv365_1 := Option.some.inj (hv365_1.symm.trans hx365_1); injection hv365_1 with hva_ hvn_ hvc_; rw [hva_] at ge365_1; rw [hvc_] at ul365_1; have HL365_1 := Aside0.mk (show Kd.V k25 25 _ w.heap.size _ _ ((rd_T135 x0_1 0).f0.f1) from Kd.V_mk ul365_1 ge365_1); clear hva_ hvn_ hvc_ ge365_1 ul365_1; have hv365_3 := hcc365 3 _ rfl; rw [add_field _ _ 3 (by omega)] at hv365_3; replace hv365_3 := Option.some.inj (hv365_3.symm.trans hx365_3); injection hv365_3 with hva_ hvn_ hvc_; rw [hva_] at ge365_3; rw [hvc_] at ul365_3; have HL365_3 := Aside0.mk (show Kd.V k25 25 _ w.heap.size _ _ ((rd_T135 x0_1 0).f1.f1) from Kd.V_mk ul365_3 ge365_3); clear hva_ hvn_ hvc_ ge365_3 ul365_3; clear hcc365 hce365; have qi365 : (0 < x0_1.length) = True := eq_true (by omega); (try rw [show ((0 : Int)).toNat = 0 from rfl] at hx365_0); (try rw [show 0 * 4 = 0 from rfl] at hx365_0); (try rw [Addr.add_zero'] at hx365_0); (try rw [show ((0 : Int)).toNat = 0 from rfl] at hx365_1); (try rw [show 0 * 4 = 0 from rfl] at hx365_1); (try rw [Addr.add_zero'] at hx365_1); (try rw [show ((0 : Int)).toNat = 0 from rfl] at hx365_2); (try rw [show 0 * 4 = 0 from rfl] at hx365_2); (try rw [Addr.add_zero'] at hx365_2); (try rw [show ((0 : Int)).toNat = 0 from rfl] at hx365_3); (try rw [show 0 * 4 = 0 from rfl] at hx365_3); (try rw [Addr.add_zero'] at hx365_3); have HR365_1 := Aside0.mk hi365_1; have HC365_1 := Aside0.mk hl365_1; clear hi365_1 hl365_1; have HR365_3 := Aside0.mk hi365_3; have HC365_3 := Aside0.mk hl365_3; clear hi365_3 hl365_3; replace p365 := eq_true p365; replace q365 := eq_true q365) | ((with_reducible refine gate_callee (f := 89) rfl ?_); refine goesL_ (some 26) rfl rfl Try.func89 (by kernel_rfl) rfl #[.slice Ao29 x4_1.length co29, .agg #[.int .i64 ((rd_T135 x0_1 0).f1.f0), .slice A365_3 ((rd_T135 x0_1 0).f1.f1).length c365_3]] rfl (by (try simp only [List.map_toArray, List.map_cons, List.map_nil]); first | done | rfl | (simp only [List.length_drop, List.length_take]; rfl)) ?_; (with_reducible refine (elenchusref03_Put.calls (fun k_ => ((P0_ k_ ∨ w.heap.size ≤ k_) ∧ k_ ≠ gb364)) _ _ x4_1 ((rd_T135 x0_1 0).f1.f0) (fun k_ => ((P0_ k_ ∨ w.heap.size ≤ k_) ∧ k_ ≠ gb364)) _ _ ((rd_T135 x0_1 0).f1.f1) t366 t367 _ ?side1 ?side2 A5.out).mono ?_); (case side1 => exact Kd.N_V (HO_4.out)); (case side2 => exact HL365_3.out); rintro e w35 ⟨v368, rfl, ho0, hb⟩; refine ⟨_, rfl, ?_⟩; have n0_ := Aside0.mk (Kd.V_below (by (with_reducible repeat (first | apply Kd.V_alloc | apply Kd.V_drewN | apply Kd.V_drew)); exact HO_0.out) hb); have n1_ := Aside0.mk (Kd.N_below (by (with_reducible repeat (first | apply Kd.N_alloc | apply Kd.N_drewN | apply Kd.N_drew)); exact HO_4.out) hb); have n2_ := Aside0.mk (Kd.V_below (by (with_reducible repeat (first | apply Kd.V_alloc | apply Kd.V_drewN | apply Kd.V_drew)); exact HL359_1.out) hb); have n3_ := Aside0.mk (Kd.V_below (by (with_reducible repeat (first | apply Kd.V_alloc | apply Kd.V_drewN | apply Kd.V_drew)); exact HL359_3.out) hb); have n4_ := Aside0.mk (Kd.V_below (by (with_reducible repeat (first | apply Kd.V_alloc | apply Kd.V_drewN | apply Kd.V_drew)); exact HO363.out) hb); have n5_ := Aside0.mk (Kd.V_below (by (with_reducible repeat (first | apply Kd.V_alloc | apply Kd.V_drewN | apply Kd.V_drew)); exact HL365_1.out) hb); have n6_ := Aside0.mk (Kd.V_below (by (with_reducible repeat (first | apply Kd.V_alloc | apply Kd.V_drewN | apply Kd.V_drew)); exact HL365_3.out) hb); have n7_ := Aside0.mk (Kd.V_lower (Kd.V_mono (ok' := fun k_ => (P0_ k_ ∨ w.heap.size ≤ k_) ∧ k_ ≠ gb364) ho0 (fun k_ hk_ => ⟨Or.elim hk_ (fun hs_ => Or.elim hs_ (fun hs_ => hs_.1) (fun hs_ => hs_.1)) (fun hn_ => (.inr (Nat.le_trans (below_size (by repeat (first | (with_reducible first | exact HB.out | apply below_alloc | apply pw_below_drewN | apply below_drew1 | refine below_set ?_ GE364.out) | exact HB.out))) hn_))), Or.elim hk_ (fun hs_ => Or.elim hs_ (fun hs_ => hs_.2) (fun hs_ => hs_.2)) (fun hn_ => (Kd.freshB (g := gb364) (o := .cells #[.int .i64 t360, .slice Ao33 t361.length co33] 25 (0, 0)) (by (with_reducible repeat (first | refine blk_drewN ?_ _ | refine blk_drew ?_ | refine blk_alloc ?_ _)); exact BK364.out) k_ hn_))⟩)) (below_size (by repeat (first | (with_reducible first | exact HB.out | apply below_alloc | apply pw_below_drewN | apply below_drew1 | refine below_set ?_ GE364.out) | exact HB.out)))); have n10_ := Aside0.mk (blk_below (g := gb364) (o := .cells #[.int .i64 t360, .slice Ao33 t361.length co33] 25 (0, 0)) (by (with_reducible repeat (first | refine blk_drewN ?_ _ | refine blk_drew ?_ | refine blk_alloc ?_ _)); exact BK364.out) hb); have n13_ := Aside0.mk (below_step (by repeat (first | (with_reducible first | exact HB.out | apply below_alloc | apply pw_below_drewN | apply below_drew1 | refine below_set ?_ GE364.out) | exact HB.out)) hb); clear HO_0; clear HO_4; clear HL359_1; clear HL359_3; clear HO363; clear HL365_1; clear HL365_3; clear BK364; clear HB; have HO_0 := n0_; have HO_4 := n1_; have HL359_1 := n2_; have HL359_3 := n3_; have HO363 := n4_; have HL365_1 := n5_; have HL365_3 := n6_; have HO369 := n7_; have BK364 := n10_; have HB := n13_; clear n0_ n1_ n2_ n3_ n4_ n5_ n6_ n7_ n10_ n13_; (try clear hb); (try clear hb2); (try clear hk); (try clear hi); (try clear ho0)) | ((with_reducible refine gate_dst (N := 6) rfl ?_); (try (refine gate_guard (by rfl) ?_; dsimp only)); refine box_event ?hg (N := 6) ?hd (cs := #[.int .i64 0, .slice none 0 0]) (t := 25) ?hr ?_; (case hd => rfl); (case hg => rfl); (case hr => first | (go_simp; done) | (go_simp; rfl)); intro gb370 hg w36 hbox hb; have n0_ := Aside0.mk (Kd.V_below (Kd.V_elderB (by (with_reducible repeat (first | apply Kd.V_alloc | apply Kd.V_drewN | apply Kd.V_drew)); exact HO_0.out) gb370 (Nat.le_of_eq hg.symm)) hb); have n1_ := Aside0.mk (Kd.N_below (Kd.N_elderB (by (with_reducible repeat (first | apply Kd.N_alloc | apply Kd.N_drewN | apply Kd.N_drew)); exact HO_4.out) gb370 (Nat.le_of_eq hg.symm)) hb); have n2_ := Aside0.mk (Kd.V_below (Kd.V_elderB (by (with_reducible repeat (first | apply Kd.V_alloc | apply Kd.V_drewN | apply Kd.V_drew)); exact HL359_1.out) gb370 (Nat.le_of_eq hg.symm)) hb); have n3_ := Aside0.mk (Kd.V_below (Kd.V_elderB (by (with_reducible repeat (first | apply Kd.V_alloc | apply Kd.V_drewN | apply Kd.V_drew)); exact HL359_3.out) gb370 (Nat.le_of_eq hg.symm)) hb); have n4_ := Aside0.mk (Kd.V_below (Kd.V_elderB (by (with_reducible repeat (first | apply Kd.V_alloc | apply Kd.V_drewN | apply Kd.V_drew)); exact HO363.out) gb370 (Nat.le_of_eq hg.symm)) hb); have n5_ := Aside0.mk (Kd.V_below (Kd.V_elderB (by (with_reducible repeat (first | apply Kd.V_alloc | apply Kd.V_drewN | apply Kd.V_drew)); exact HL365_1.out) gb370 (Nat.le_of_eq hg.symm)) hb); have n6_ := Aside0.mk (Kd.V_below (Kd.V_elderB (by (with_reducible repeat (first | apply Kd.V_alloc | apply Kd.V_drewN | apply Kd.V_drew)); exact HL365_3.out) gb370 (Nat.le_of_eq hg.symm)) hb); have n7_ := Aside0.mk (Kd.V_below (Kd.V_elderB (by (with_reducible repeat (first | apply Kd.V_alloc | apply Kd.V_drewN | apply Kd.V_drew)); exact HO369.out) gb370 (Nat.le_of_eq hg.symm)) hb); have n10_ := Aside0.mk (blk_below (g := gb364) (o := .cells #[.int .i64 t360, .slice Ao33 t361.length co33] 25 (0, 0)) (by (with_reducible repeat (first | refine blk_drewN ?_ _ | refine blk_drew ?_ | refine blk_alloc ?_ _)); exact BK364.out) hb); have n13_ := Aside0.mk (below_step (by repeat (first | (with_reducible first | exact HB.out | apply below_alloc | apply pw_below_drewN | apply below_drew1 | refine below_set ?_ GE364.out) | exact HB.out)) hb); have n14_ := Aside0.mk (hbox); have n15_ := Aside0.mk ((by rw [hg]; exact (below_size (by repeat (first | (with_reducible first | exact HB.out | apply below_alloc | apply pw_below_drewN | apply below_drew1 | refine below_set ?_ GE364.out) | exact HB.out))) : w.heap.size ≤ gb370)); have n16_ := Aside0.mk ((by rw [hg]; exact (below_size (by repeat (first | (with_reducible first | exact HB.out | apply below_alloc | apply pw_below_drewN | apply below_drew1 | refine below_set ?_ GE364.out) | exact HB.out))) : w.heap.size ≤ gb370)); have n17_ := Aside0.mk ((by rw [hg]; exact Nat.ne_of_lt (blk_lt (g := gb364) (o := .cells #[.int .i64 t360, .slice Ao33 t361.length co33] 25 (0, 0)) (by (with_reducible repeat (first | refine blk_drewN ?_ _ | refine blk_drew ?_ | refine blk_alloc ?_ _)); exact BK364.out)) : gb364 ≠ gb370)); have n18_ := Aside0.mk ((by rw [hg]; exact Nat.ne_of_gt (blk_lt (g := gb364) (o := .cells #[.int .i64 t360, .slice Ao33 t361.length co33] 25 (0, 0)) (by (with_reducible repeat (first | refine blk_drewN ?_ _ | refine blk_drew ?_ | refine blk_alloc ?_ _)); exact BK364.out)) : gb370 ≠ gb364)); clear HO_0; clear HO_4; clear HL359_1; clear HL359_3; clear HO363; clear HL365_1; clear HL365_3; clear HO369; clear BK364; clear HB; have HO_0 := n0_; have HO_4 := n1_; have HL359_1 := n2_; have HL359_3 := n3_; have HO363 := n4_; have HL365_1 := n5_; have HL365_3 := n6_; have HO369 := n7_; have BK364 := n10_; have HB := n13_; have BK370 := n14_; have GW370 := n15_; have GE370 := n16_; have NB364_370 := n17_; have NB370_364 := n18_; clear n0_ n1_ n2_ n3_ n4_ n5_ n6_ n7_ n10_ n13_ n14_ n15_ n16_ n17_ n18_; clear hb hbox hg; have hnb37 := NB370_364.out; have hnc37 := NB364_370.out; have hcz38_0 : w36.cell? ⟨gb370, 0, none⟩ = some (.int .i64 0) := (blk_cell BK370.out 0).trans rfl; have hcz38_1 : w36.cell? ⟨gb370, 1, none⟩ = some (.slice none 0 0) := (blk_cell BK370.out 1).trans rfl; have hfz38_0 := blk_frozen BK370.out 0; have hfz38_1 := blk_frozen BK370.out 1; obtain ⟨Ao39, co39, eo39⟩ := Kd.V_slice HO369.out; subst eo39) | ((with_reducible refine gate_store (t := 25) (p := 6) rfl ?_); refine store_event (t := 25) (p := 6) (v := ?vo_w40) (w1 := ((w36.setCell ⟨gb370, 0, none⟩ (.int .i64 t366)).setCell ⟨gb370, 1, none⟩ (.slice Ao39 t367.length co39))) ?hg ?ho ?hn ?hr ?_; (case ho => rfl); (case hg => rfl); (case hn => rfl); (case hr => first | (go_simp; done) | (go_simp; rfl)); intro w40 hw; have n0_ : Aside0 (Kd.V k135 135 w40 w.heap.size (fun k_ => (P0_ k_ ∨ w.heap.size ≤ k_) ∧ k_ ≠ gb364 ∧ k_ ≠ gb370) (.slice (some ad359) x0_1.length co28) x0_1) := ⟨(by rw [hw]; exact (by (with_reducible repeat (first | apply Kd.V_alloc | apply Kd.V_drewN | apply Kd.V_drew)); exact Kd.V_mono (Kd.V_far (p := ⟨gb370, 1, none⟩) (Kd.V_far (p := ⟨gb370, 0, none⟩) (Kd.V_mono HO_0.out (fun k_ hk => (⟨hk, hk.2⟩ : _ ∧ k_ ≠ gb370))) (fun _ hk => hk.2) (.int .i64 t366)) (fun _ hk => hk.2) (.slice Ao39 t367.length co39)) (fun _ hk => ⟨hk.1.1.1, ⟨hk.1.1.2, hk.1.2⟩⟩)))⟩; have n1_ : Aside0 (Kd.N k60 60 w40 w.heap.size (fun k_ => (P0_ k_ ∨ w.heap.size ≤ k_) ∧ k_ ≠ gb364 ∧ k_ ≠ gb370) (.slice Ao29 x4_1.length co29) x4_1) := ⟨(by rw [hw]; exact (by (with_reducible repeat (first | apply Kd.N_alloc | apply Kd.N_drewN | apply Kd.N_drew)); exact Kd.N_mono (Kd.N_far (p := ⟨gb370, 1, none⟩) (Kd.N_far (p := ⟨gb370, 0, none⟩) (Kd.N_mono HO_4.out (fun k_ hk => (⟨hk, hk.2⟩ : _ ∧ k_ ≠ gb370))) (fun _ hk => hk.2) (.int .i64 t366)) (fun _ hk => hk.2) (.slice Ao39 t367.length co39)) (fun _ hk => ⟨hk.1.1.1, ⟨hk.1.1.2, hk.1.2⟩⟩)))⟩; have n2_ : Aside0 (Kd.V k25 25 w40 w.heap.size (fun k_ => (P0_ k_ ∨ w.heap.size ≤ k_) ∧ k_ ≠ gb364 ∧ k_ ≠ gb370) (.slice A359_1 ((rd_T135 x0_1 0).f0.f1).length c359_1) ((rd_T135 x0_1 0).f0.f1)) := ⟨(by rw [hw]; exact (by (with_reducible repeat (first | apply Kd.V_alloc | apply Kd.V_drewN | apply Kd.V_drew)); exact Kd.V_mono (Kd.V_far (p := ⟨gb370, 1, none⟩) (Kd.V_far (p := ⟨gb370, 0, none⟩) (Kd.V_mono HL359_1.out (fun k_ hk => (⟨hk, hk.2⟩ : _ ∧ k_ ≠ gb370))) (fun _ hk => hk.2) (.int .i64 t366)) (fun _ hk => hk.2) (.slice Ao39 t367.length co39)) (fun _ hk => ⟨hk.1.1.1, ⟨hk.1.1.2, hk.1.2⟩⟩)))⟩; have n3_ : Aside0 (Kd.V k25 25 w40 w.heap.size (fun k_ => (P0_ k_ ∨ w.heap.size ≤ k_) ∧ k_ ≠ gb364 ∧ k_ ≠ gb370) (.slice A359_3 ((rd_T135 x0_1 0).f1.f1).length c359_3) ((rd_T135 x0_1 0).f1.f1)) := ⟨(by rw [hw]; exact (by (with_reducible repeat (first | apply Kd.V_alloc | apply Kd.V_drewN | apply Kd.V_drew)); exact Kd.V_mono (Kd.V_far (p := ⟨gb370, 1, none⟩) (Kd.V_far (p := ⟨gb370, 0, none⟩) (Kd.V_mono HL359_3.out (fun k_ hk => (⟨hk, hk.2⟩ : _ ∧ k_ ≠ gb370))) (fun _ hk => hk.2) (.int .i64 t366)) (fun _ hk => hk.2) (.slice Ao39 t367.length co39)) (fun _ hk => ⟨hk.1.1.1, ⟨hk.1.1.2, hk.1.2⟩⟩)))⟩; have n4_ : Aside0 (Kd.V k25 25 w40 w.heap.size (fun k_ => (P0_ k_ ∨ w.heap.size ≤ k_) ∧ k_ ≠ gb364 ∧ k_ ≠ gb370) (.slice Ao33 t361.length co33) t361) := ⟨(by rw [hw]; exact (by (with_reducible repeat (first | apply Kd.V_alloc | apply Kd.V_drewN | apply Kd.V_drew)); exact Kd.V_mono (Kd.V_far (p := ⟨gb370, 1, none⟩) (Kd.V_far (p := ⟨gb370, 0, none⟩) (Kd.V_mono HO363.out (fun k_ hk => (⟨hk, hk.2⟩ : _ ∧ k_ ≠ gb370))) (fun _ hk => hk.2) (.int .i64 t366)) (fun _ hk => hk.2) (.slice Ao39 t367.length co39)) (fun _ hk => ⟨hk.1.1.1, ⟨hk.1.1.2, hk.1.2⟩⟩)))⟩; have n5_ : Aside0 (Kd.V k25 25 w40 w.heap.size (fun k_ => (P0_ k_ ∨ w.heap.size ≤ k_) ∧ k_ ≠ gb364 ∧ k_ ≠ gb370) (.slice A365_1 ((rd_T135 x0_1 0).f0.f1).length c365_1) ((rd_T135 x0_1 0).f0.f1)) := ⟨(by rw [hw]; exact (by (with_reducible repeat (first | apply Kd.V_alloc | apply Kd.V_drewN | apply Kd.V_drew)); exact Kd.V_mono (Kd.V_far (p := ⟨gb370, 1, none⟩) (Kd.V_far (p := ⟨gb370, 0, none⟩) (Kd.V_mono HL365_1.out (fun k_ hk => (⟨hk, hk.2⟩ : _ ∧ k_ ≠ gb370))) (fun _ hk => hk.2) (.int .i64 t366)) (fun _ hk => hk.2) (.slice Ao39 t367.length co39)) (fun _ hk => ⟨hk.1.1.1, ⟨hk.1.1.2, hk.1.2⟩⟩)))⟩; have n6_ : Aside0 (Kd.V k25 25 w40 w.heap.size (fun k_ => (P0_ k_ ∨ w.heap.size ≤ k_) ∧ k_ ≠ gb364 ∧ k_ ≠ gb370) (.slice A365_3 ((rd_T135 x0_1 0).f1.f1).length c365_3) ((rd_T135 x0_1 0).f1.f1)) := ⟨(by rw [hw]; exact (by (with_reducible repeat (first | apply Kd.V_alloc | apply Kd.V_drewN | apply Kd.V_drew)); exact Kd.V_mono (Kd.V_far (p := ⟨gb370, 1, none⟩) (Kd.V_far (p := ⟨gb370, 0, none⟩) (Kd.V_mono HL365_3.out (fun k_ hk => (⟨hk, hk.2⟩ : _ ∧ k_ ≠ gb370))) (fun _ hk => hk.2) (.int .i64 t366)) (fun _ hk => hk.2) (.slice Ao39 t367.length co39)) (fun _ hk => ⟨hk.1.1.1, ⟨hk.1.1.2, hk.1.2⟩⟩)))⟩; have n7_ : Aside0 (Kd.V k25 25 w40 w.heap.size (fun k_ => (P0_ k_ ∨ w.heap.size ≤ k_) ∧ k_ ≠ gb364 ∧ k_ ≠ gb370) (.slice Ao39 t367.length co39) t367) := ⟨(by rw [hw]; exact (by (with_reducible repeat (first | apply Kd.V_alloc | apply Kd.V_drewN | apply Kd.V_drew)); exact Kd.V_mono (Kd.V_far (p := ⟨gb370, 1, none⟩) (Kd.V_far (p := ⟨gb370, 0, none⟩) (Kd.V_mono HO369.out (fun k_ hk => (⟨hk, hk.2⟩ : _ ∧ k_ ≠ gb370))) (fun _ hk => hk.2) (.int .i64 t366)) (fun _ hk => hk.2) (.slice Ao39 t367.length co39)) (fun _ hk => ⟨hk.1.1.1, ⟨hk.1.1.2, hk.1.2⟩⟩)))⟩; have n8_ : Aside0 (w40.heap[gb364]? = some (.cells #[.int .i64 t360, .slice Ao33 t361.length co33] 25 (0, 0))) := ⟨(by rw [hw]; exact (by (with_reducible repeat (first | refine blk_drewN ?_ _ | refine blk_drew ?_ | refine blk_alloc ?_ _)); refine blk_far ?_ NB364_370.out _; (with_reducible repeat (first | refine blk_drewN ?_ _ | refine blk_drew ?_ | refine blk_alloc ?_ _)); refine blk_far ?_ NB364_370.out _; (with_reducible repeat (first | refine blk_drewN ?_ _ | refine blk_drew ?_ | refine blk_alloc ?_ _)); exact BK364.out))⟩; have n9_ : Aside0 (w40.heap[gb370]? = some (.cells #[.int .i64 t366, .slice Ao39 t367.length co39] 25 (0, 0))) := ⟨(by rw [hw]; exact (by (with_reducible repeat (first | refine blk_drewN ?_ _ | refine blk_drew ?_ | refine blk_alloc ?_ _)); refine blk_put (cs := #[.int .i64 t366, .slice none 0 0]) ?_ 1 _ rfl; (with_reducible repeat (first | refine blk_drewN ?_ _ | refine blk_drew ?_ | refine blk_alloc ?_ _)); refine blk_put (cs := #[.int .i64 0, .slice none 0 0]) ?_ 0 _ rfl; (with_reducible repeat (first | refine blk_drewN ?_ _ | refine blk_drew ?_ | refine blk_alloc ?_ _)); exact BK370.out))⟩; have n10_ : Aside0 (Below w.heap.size w w40) := ⟨(by rw [hw]; exact (by repeat (first | (with_reducible first | exact HB.out | apply below_alloc | apply pw_below_drewN | apply below_drew1 | refine below_set ?_ GE364.out | refine below_set ?_ GE370.out) | exact HB.out)))⟩; clear hw; clear HO_0; clear HO_4; clear HL359_1; clear HL359_3; clear HO363; clear HL365_1; clear HL365_3; clear HO369; clear BK364; clear BK370; clear HB; have HO_0 := n0_; have HO_4 := n1_; have HL359_1 := n2_; have HL359_3 := n3_; have HO363 := n4_; have HL365_1 := n5_; have HL365_3 := n6_; have HO369 := n7_; have BK364 := n8_; have BK370 := n9_; have HB := n10_; clear n0_ n1_ n2_ n3_ n4_ n5_ n6_ n7_ n8_ n9_ n10_; have q41 : (1 : Int) ≤ ((x0_1.length : Int) : Int) := of_decide_eq_true (by first | (with_reducible assumption) | assumption); obtain ⟨i041, hi041, _, hsz41, _⟩ := info_parts info135; have hroom41 : x0_1.length ≤ co28 := (Kd.V_reads' HO_0.out).2.1; have hC41 : Kd.F k135 _ _ (some ad359) x0_1.length x0_1 := (Kd.V_at (base := w.heap.size) HO_0.out).2.2; have hcut41 := cut_from (P := Try.prog) 133 135 .i64 Try.underlying133 hi041 4 hsz41 (some ad359) x0_1.length co28 1 (by omega) q41; have hr41 := Kd.F_cut (m := (1 : Int).toNat) (c := co28) hC41 (by omega) hroom41; obtain ⟨A41, hA41⟩ : ∃ A1, A1 = (if co28 = (1 : Int).toNat then (some ad359) else ((some ad359) : Option Addr).map (·.add ((1 : Int).toNat * 4))) := ⟨_, rfl⟩; obtain ⟨c41, hc41⟩ : ∃ c1, c1 = co28 - (1 : Int).toNat := ⟨_, rfl⟩; have hy41 : y371.length = x0_1.length - (1 : Int).toNat := (by rw [Ny371.out, List.length_drop] <;> omega); rw [show (x0_1).drop (1 : Int).toNat = y371 from Ny371.out.symm] at hr41; replace hr41 : Kd.F k135 _ _ A41 y371.length y371 := (by rw [hA41]; exact hr41); rw [← hy41, ← hA41, ← hc41] at hcut41; have HO375 := Aside0.mk (show Kd.V k135 135 _ w.heap.size _ (.slice A41 y371.length c41) y371 from Kd.V_mk (by rw [hy41, hc41]; exact Nat.sub_le_sub_right hroom41 _) hr41); have HC375 := Aside0.mk (show y371.length ≤ c41 from by rw [hy41, hc41]; exact Nat.sub_le_sub_right hroom41 _); clear hr41 hC41 hroom41 hi041 hsz41 hc41; have KY41 := Aside0.mk hy41; have KA41 := Aside0.mk hA41; clear hy41 hA41; replace q41 := eq_true q41; have hcz42_0 : w40.cell? ⟨gb364, 0, none⟩ = some (.int .i64 t360) := (blk_cell BK364.out 0).trans rfl; have hcz42_1 : w40.cell? ⟨gb364, 1, none⟩ = some (.slice Ao33 t361.length co33) := (blk_cell BK364.out 1).trans rfl; have hfz42_0 := blk_frozen BK364.out 0; have hfz42_1 := blk_frozen BK364.out 1; have hcz43_0 : w40.cell? ⟨gb370, 0, none⟩ = some (.int .i64 t366) := (blk_cell BK370.out 0).trans rfl; have hcz43_1 : w40.cell? ⟨gb370, 1, none⟩ = some (.slice Ao39 t367.length co39) := (blk_cell BK370.out 1).trans rfl; have hfz43_0 := blk_frozen BK370.out 0; have hfz43_1 := blk_frozen BK370.out 1) | ((with_reducible refine gate_callee (f := 34) rfl ?_); refine goesL_ (some 31) rfl rfl Try.func34 (by kernel_rfl) rfl #[.agg #[.int .i64 t360, .slice Ao33 t361.length co33], .agg #[.int .i64 t366, .slice Ao39 t367.length co39]] rfl (by (try simp only [List.map_toArray, List.map_cons, List.map_nil]); first | done | rfl | (simp only [List.length_drop, List.length_take]; rfl)) ?_; (with_reducible refine (elenchusref01_Same.calls t360 _ _ t361 t366 _ _ t367 false _ ?side1 ?side2 ?side3 ?side4 A7.out).mono ?_); (case side1 => repeat (first | exact (Kd.V_reads' HO363.out).2.2 | (with_reducible refine Kd.C_alloc ?_ _) | (with_reducible refine Kd.C_drewN ?_ _) | (with_reducible refine Kd.C_drew ?_))); (case side2 => exact (Kd.V_reads' HO363.out).2.1); (case side3 => repeat (first | exact (Kd.V_reads' HO369.out).2.2 | (with_reducible refine Kd.C_alloc ?_ _) | (with_reducible refine Kd.C_drewN ?_ _) | (with_reducible refine Kd.C_drew ?_))); (case side4 => exact (Kd.V_reads' HO369.out).2.1); rintro e w44 ⟨rfl, hb⟩; refine ⟨_, rfl, ?_⟩; have n0_ := Aside0.mk (Kd.V_below (by (with_reducible repeat (first | apply Kd.V_alloc | apply Kd.V_drewN | apply Kd.V_drew)); exact HO_0.out) hb); have n1_ := Aside0.mk (Kd.N_below (by (with_reducible repeat (first | apply Kd.N_alloc | apply Kd.N_drewN | apply Kd.N_drew)); exact HO_4.out) hb); have n2_ := Aside0.mk (Kd.V_below (by (with_reducible repeat (first | apply Kd.V_alloc | apply Kd.V_drewN | apply Kd.V_drew)); exact HL359_1.out) hb); have n3_ := Aside0.mk (Kd.V_below (by (with_reducible repeat (first | apply Kd.V_alloc | apply Kd.V_drewN | apply Kd.V_drew)); exact HL359_3.out) hb); have n4_ := Aside0.mk (Kd.V_below (by (with_reducible repeat (first | apply Kd.V_alloc | apply Kd.V_drewN | apply Kd.V_drew)); exact HO363.out) hb); have n5_ := Aside0.mk (Kd.V_below (by (with_reducible repeat (first | apply Kd.V_alloc | apply Kd.V_drewN | apply Kd.V_drew)); exact HL365_1.out) hb); have n6_ := Aside0.mk (Kd.V_below (by (with_reducible repeat (first | apply Kd.V_alloc | apply Kd.V_drewN | apply Kd.V_drew)); exact HL365_3.out) hb); have n7_ := Aside0.mk (Kd.V_below (by (with_reducible repeat (first | apply Kd.V_alloc | apply Kd.V_drewN | apply Kd.V_drew)); exact HO369.out) hb); have n8_ := Aside0.mk (Kd.V_below (by (with_reducible repeat (first | apply Kd.V_alloc | apply Kd.V_drewN | apply Kd.V_drew)); exact HO375.out) hb); have n11_ := Aside0.mk (blk_below (g := gb364) (o := .cells #[.int .i64 t360, .slice Ao33 t361.length co33] 25 (0, 0)) (by (with_reducible repeat (first | refine blk_drewN ?_ _ | refine blk_drew ?_ | refine blk_alloc ?_ _)); exact BK364.out) hb); have n14_ := Aside0.mk (blk_below (g := gb370) (o := .cells #[.int .i64 t366, .slice Ao39 t367.length co39] 25 (0, 0)) (by (with_reducible repeat (first | refine blk_drewN ?_ _ | refine blk_drew ?_ | refine blk_alloc ?_ _)); exact BK370.out) hb); have n15_ := Aside0.mk (below_step (by repeat (first | (with_reducible first | exact HB.out | apply below_alloc | apply pw_below_drewN | apply below_drew1 | refine below_set ?_ GE364.out | refine below_set ?_ GE370.out) | exact HB.out)) hb); clear HO_0; clear HO_4; clear HL359_1; clear HL359_3; clear HO363; clear HL365_1; clear HL365_3; clear HO369; clear HO375; clear BK364; clear BK370; clear HB; have HO_0 := n0_; have HO_4 := n1_; have HL359_1 := n2_; have HL359_3 := n3_; have HO363 := n4_; have HL365_1 := n5_; have HL365_3 := n6_; have HO369 := n7_; have HO375 := n8_; have BK364 := n11_; have BK370 := n14_; have HB := n15_; clear n0_ n1_ n2_ n3_ n4_ n5_ n6_ n7_ n8_ n11_ n14_ n15_; (try clear hb); (try clear hb2); (try clear hk); (try clear hi); have hcz45_0 : w44.cell? ⟨gb364, 0, none⟩ = some (.int .i64 t360) := (blk_cell BK364.out 0).trans rfl; have hcz45_1 : w44.cell? ⟨gb364, 1, none⟩ = some (.slice Ao33 t361.length co33) := (blk_cell BK364.out 1).trans rfl; have hfz45_0 := blk_frozen BK364.out 0; have hfz45_1 := blk_frozen BK364.out 1; have hcz46_0 : w44.cell? ⟨gb370, 0, none⟩ = some (.int .i64 t366) := (blk_cell BK370.out 0).trans rfl; have hcz46_1 : w44.cell? ⟨gb370, 1, none⟩ = some (.slice Ao39 t367.length co39) := (blk_cell BK370.out 1).trans rfl; have hfz46_0 := blk_frozen BK370.out 0; have hfz46_1 := blk_frozen BK370.out 1) | ((with_reducible refine gate_callee (f := 157) rfl ?_); refine goesL_ (some 34) rfl rfl Try.func157 (by kernel_rfl) rfl #[.agg #[.int .i64 t360, .slice Ao33 t361.length co33], .agg #[.int .i64 t366, .slice Ao39 t367.length co39]] rfl (by (try simp only [List.map_toArray, List.map_cons, List.map_nil]); first | done | rfl | (simp only [List.length_drop, List.length_take]; rfl)) ?_; (with_reducible refine (elenchusref04_bound.calls k1 t360 _ _ t361 t366 _ _ t367 t377 _ ?side1 ?side2 ?side3 ?side4 A26.out).mono ?_); (case side1 => repeat (first | exact (Kd.V_reads' HO363.out).2.2 | (with_reducible refine Kd.C_alloc ?_ _) | (with_reducible refine Kd.C_drewN ?_ _) | (with_reducible refine Kd.C_drew ?_))); (case side2 => exact (Kd.V_reads' HO363.out).2.1); (case side3 => repeat (first | exact (Kd.V_reads' HO369.out).2.2 | (with_reducible refine Kd.C_alloc ?_ _) | (with_reducible refine Kd.C_drewN ?_ _) | (with_reducible refine Kd.C_drew ?_))); (case side4 => exact (Kd.V_reads' HO369.out).2.1); rintro e w47 ⟨rfl, hb⟩; refine ⟨_, rfl, ?_⟩; have n0_ := Aside0.mk (Kd.V_below (by (with_reducible repeat (first | apply Kd.V_alloc | apply Kd.V_drewN | apply Kd.V_drew)); exact HO_0.out) hb); have n1_ := Aside0.mk (Kd.N_below (by (with_reducible repeat (first | apply Kd.N_alloc | apply Kd.N_drewN | apply Kd.N_drew)); exact HO_4.out) hb); have n2_ := Aside0.mk (Kd.V_below (by (with_reducible repeat (first | apply Kd.V_alloc | apply Kd.V_drewN | apply Kd.V_drew)); exact HL359_1.out) hb); have n3_ := Aside0.mk (Kd.V_below (by (with_reducible repeat (first | apply Kd.V_alloc | apply Kd.V_drewN | apply Kd.V_drew)); exact HL359_3.out) hb); have n4_ := Aside0.mk (Kd.V_below (by (with_reducible repeat (first | apply Kd.V_alloc | apply Kd.V_drewN | apply Kd.V_drew)); exact HO363.out) hb); have n5_ := Aside0.mk (Kd.V_below (by (with_reducible repeat (first | apply Kd.V_alloc | apply Kd.V_drewN | apply Kd.V_drew)); exact HL365_1.out) hb); have n6_ := Aside0.mk (Kd.V_below (by (with_reducible repeat (first | apply Kd.V_alloc | apply Kd.V_drewN | apply Kd.V_drew)); exact HL365_3.out) hb); have n7_ := Aside0.mk (Kd.V_below (by (with_reducible repeat (first | apply Kd.V_alloc | apply Kd.V_drewN | apply Kd.V_drew)); exact HO369.out) hb); have n8_ := Aside0.mk (Kd.V_below (by (with_reducible repeat (first | apply Kd.V_alloc | apply Kd.V_drewN | apply Kd.V_drew)); exact HO375.out) hb); have n11_ := Aside0.mk (blk_below (g := gb364) (o := .cells #[.int .i64 t360, .slice Ao33 t361.length co33] 25 (0, 0)) (by (with_reducible repeat (first | refine blk_drewN ?_ _ | refine blk_drew ?_ | refine blk_alloc ?_ _)); exact BK364.out) hb); have n14_ := Aside0.mk (blk_below (g := gb370) (o := .cells #[.int .i64 t366, .slice Ao39 t367.length co39] 25 (0, 0)) (by (with_reducible repeat (first | refine blk_drewN ?_ _ | refine blk_drew ?_ | refine blk_alloc ?_ _)); exact BK370.out) hb); have n15_ := Aside0.mk (below_step (by repeat (first | (with_reducible first | exact HB.out | apply below_alloc | apply pw_below_drewN | apply below_drew1 | refine below_set ?_ GE364.out | refine below_set ?_ GE370.out) | exact HB.out)) hb); clear HO_0; clear HO_4; clear HL359_1; clear HL359_3; clear HO363; clear HL365_1; clear HL365_3; clear HO369; clear HO375; clear BK364; clear BK370; clear HB; have HO_0 := n0_; have HO_4 := n1_; have HL359_1 := n2_; have HL359_3 := n3_; have HO363 := n4_; have HL365_1 := n5_; have HL365_3 := n6_; have HO369 := n7_; have HO375 := n8_; have BK364 := n11_; have BK370 := n14_; have HB := n15_; clear n0_ n1_ n2_ n3_ n4_ n5_ n6_ n7_ n8_ n11_ n14_ n15_; (try clear hb); (try clear hb2); (try clear hk); (try clear hi)) )
              (try simp only [Act.put, List.setIfInBounds_toArray, List.set_cons_zero, List.set_cons_succ])
              go_cut [] (fun wc => ∃ (kq : Nat) (x365000_26 : Int) (x365001_26 : List (S25)) (x371000_26 : Int) (x371001_26 : List (S25)) (u365001 : Value) (u371001 : Value), Aside0 (elenchusref04_solve.j1 kq y371 x4_1 t377 x365000_26 x365001_26 x371000_26 x371001_26 = some (r1, r2)) ∧ Aside0 (kq ≤ k1) ∧ Aside0 (Kd.V k135 135 wc w.heap.size (fun k_ => (P0_ k_ ∨ w.heap.size ≤ k_) ∧ k_ ≠ gb364 ∧ k_ ≠ gb370) (.slice A41 y371.length c41) y371) ∧ Aside0 (Kd.N k60 60 wc w.heap.size (fun k_ => (P0_ k_ ∨ w.heap.size ≤ k_) ∧ k_ ≠ gb364 ∧ k_ ≠ gb370) (.slice Ao29 x4_1.length co29) x4_1) ∧ Aside0 (Kd.V k25 25 wc w.heap.size (fun k_ => (P0_ k_ ∨ w.heap.size ≤ k_) ∧ k_ ≠ gb364 ∧ k_ ≠ gb370) u365001 x365001_26) ∧ Aside0 (Kd.V k25 25 wc w.heap.size (fun k_ => (P0_ k_ ∨ w.heap.size ≤ k_) ∧ k_ ≠ gb364 ∧ k_ ≠ gb370) u371001 x371001_26) ∧ Aside0 (wc.heap[gb364]? = some (.cells #[.int .i64 x365000_26, u365001] 25 (0, 0))) ∧ Aside0 (wc.heap[gb370]? = some (.cells #[.int .i64 x371000_26, u371001] 25 (0, 0))) ∧ Aside0 (Below w.heap.size w wc))
              case first =>
                have H := HC27.out
                clear HC27
                by_cases c48 : t377 = 2
                · rw [if_pos c48] at H
                  have c48b0 : (t377 == 2) = true := beq_iff_eq.mpr c48
                  have c48b1 : (t377 != 2) = false := bne_eq_false_iff_eq.mpr c48
                  clear c48
                  (first | rw [c48b0] | (simp only [i64_w, i32_w]; rw [c48b0]) | skip)
                  have H' := Aside0.mk H
                  clear H
                  have hnb49 := NB364_370.out
                  have hnc49 := NB370_364.out
                  have hcz50_0 : w47.cell? ⟨gb364, 0, none⟩ = some (.int .i64 t360) := (blk_cell BK364.out 0).trans rfl
                  have hcz50_1 : w47.cell? ⟨gb364, 1, none⟩ = some (.slice Ao33 t361.length co33) := (blk_cell BK364.out 1).trans rfl
                  have hfz50_0 := blk_frozen BK364.out 0
                  have hfz50_1 := blk_frozen BK364.out 1
                  go_wp2_with (first | ((with_reducible refine gate_dst (N := 8) rfl ?_); (try (refine gate_guard (by rfl) ?_; dsimp only)); refine box_event ?hg (N := 8) ?hd (cs := #[.int .i64 0, .slice none 0 0]) (t := 25) ?hr ?_; (case hd => rfl); (case hg => rfl); (case hr => first | (go_simp; done) | (go_simp; rfl)); intro gb378 hg w51 hbox hb; have n0_ := Aside0.mk (Kd.V_below (Kd.V_elderB (by (with_reducible repeat (first | apply Kd.V_alloc | apply Kd.V_drewN | apply Kd.V_drew)); exact HO_0.out) gb378 (Nat.le_of_eq hg.symm)) hb); have n1_ := Aside0.mk (Kd.N_below (Kd.N_elderB (by (with_reducible repeat (first | apply Kd.N_alloc | apply Kd.N_drewN | apply Kd.N_drew)); exact HO_4.out) gb378 (Nat.le_of_eq hg.symm)) hb); have n2_ := Aside0.mk (Kd.V_below (Kd.V_elderB (by (with_reducible repeat (first | apply Kd.V_alloc | apply Kd.V_drewN | apply Kd.V_drew)); exact HL359_1.out) gb378 (Nat.le_of_eq hg.symm)) hb); have n3_ := Aside0.mk (Kd.V_below (Kd.V_elderB (by (with_reducible repeat (first | apply Kd.V_alloc | apply Kd.V_drewN | apply Kd.V_drew)); exact HL359_3.out) gb378 (Nat.le_of_eq hg.symm)) hb); have n4_ := Aside0.mk (Kd.V_below (Kd.V_elderB (by (with_reducible repeat (first | apply Kd.V_alloc | apply Kd.V_drewN | apply Kd.V_drew)); exact HO363.out) gb378 (Nat.le_of_eq hg.symm)) hb); have n5_ := Aside0.mk (Kd.V_below (Kd.V_elderB (by (with_reducible repeat (first | apply Kd.V_alloc | apply Kd.V_drewN | apply Kd.V_drew)); exact HL365_1.out) gb378 (Nat.le_of_eq hg.symm)) hb); have n6_ := Aside0.mk (Kd.V_below (Kd.V_elderB (by (with_reducible repeat (first | apply Kd.V_alloc | apply Kd.V_drewN | apply Kd.V_drew)); exact HL365_3.out) gb378 (Nat.le_of_eq hg.symm)) hb); have n7_ := Aside0.mk (Kd.V_below (Kd.V_elderB (by (with_reducible repeat (first | apply Kd.V_alloc | apply Kd.V_drewN | apply Kd.V_drew)); exact HO369.out) gb378 (Nat.le_of_eq hg.symm)) hb); have n8_ := Aside0.mk (Kd.V_below (Kd.V_elderB (by (with_reducible repeat (first | apply Kd.V_alloc | apply Kd.V_drewN | apply Kd.V_drew)); exact HO375.out) gb378 (Nat.le_of_eq hg.symm)) hb); have n11_ := Aside0.mk (blk_below (g := gb364) (o := .cells #[.int .i64 t360, .slice Ao33 t361.length co33] 25 (0, 0)) (by (with_reducible repeat (first | refine blk_drewN ?_ _ | refine blk_drew ?_ | refine blk_alloc ?_ _)); exact BK364.out) hb); have n14_ := Aside0.mk (blk_below (g := gb370) (o := .cells #[.int .i64 t366, .slice Ao39 t367.length co39] 25 (0, 0)) (by (with_reducible repeat (first | refine blk_drewN ?_ _ | refine blk_drew ?_ | refine blk_alloc ?_ _)); exact BK370.out) hb); have n15_ := Aside0.mk (below_step (by repeat (first | (with_reducible first | exact HB.out | apply below_alloc | apply pw_below_drewN | apply below_drew1 | refine below_set ?_ GE364.out | refine below_set ?_ GE370.out) | exact HB.out)) hb); have n16_ := Aside0.mk (hbox); have n17_ := Aside0.mk ((by rw [hg]; exact (below_size (by repeat (first | (with_reducible first | exact HB.out | apply below_alloc | apply pw_below_drewN | apply below_drew1 | refine below_set ?_ GE364.out | refine below_set ?_ GE370.out) | exact HB.out))) : w.heap.size ≤ gb378)); have n18_ := Aside0.mk ((by rw [hg]; exact (below_size (by repeat (first | (with_reducible first | exact HB.out | apply below_alloc | apply pw_below_drewN | apply below_drew1 | refine below_set ?_ GE364.out | refine below_set ?_ GE370.out) | exact HB.out))) : w.heap.size ≤ gb378)); have n19_ := Aside0.mk ((by rw [hg]; exact Nat.ne_of_lt (blk_lt (g := gb364) (o := .cells #[.int .i64 t360, .slice Ao33 t361.length co33] 25 (0, 0)) (by (with_reducible repeat (first | refine blk_drewN ?_ _ | refine blk_drew ?_ | refine blk_alloc ?_ _)); exact BK364.out)) : gb364 ≠ gb378)); have n20_ := Aside0.mk ((by rw [hg]; exact Nat.ne_of_gt (blk_lt (g := gb364) (o := .cells #[.int .i64 t360, .slice Ao33 t361.length co33] 25 (0, 0)) (by (with_reducible repeat (first | refine blk_drewN ?_ _ | refine blk_drew ?_ | refine blk_alloc ?_ _)); exact BK364.out)) : gb378 ≠ gb364)); have n21_ := Aside0.mk ((by rw [hg]; exact Nat.ne_of_lt (blk_lt (g := gb370) (o := .cells #[.int .i64 t366, .slice Ao39 t367.length co39] 25 (0, 0)) (by (with_reducible repeat (first | refine blk_drewN ?_ _ | refine blk_drew ?_ | refine blk_alloc ?_ _)); exact BK370.out)) : gb370 ≠ gb378)); have n22_ := Aside0.mk ((by rw [hg]; exact Nat.ne_of_gt (blk_lt (g := gb370) (o := .cells #[.int .i64 t366, .slice Ao39 t367.length co39] 25 (0, 0)) (by (with_reducible repeat (first | refine blk_drewN ?_ _ | refine blk_drew ?_ | refine blk_alloc ?_ _)); exact BK370.out)) : gb378 ≠ gb370)); clear HO_0; clear HO_4; clear HL359_1; clear HL359_3; clear HO363; clear HL365_1; clear HL365_3; clear HO369; clear HO375; clear BK364; clear BK370; clear HB; have HO_0 := n0_; have HO_4 := n1_; have HL359_1 := n2_; have HL359_3 := n3_; have HO363 := n4_; have HL365_1 := n5_; have HL365_3 := n6_; have HO369 := n7_; have HO375 := n8_; have BK364 := n11_; have BK370 := n14_; have HB := n15_; have BK378 := n16_; have GW378 := n17_; have GE378 := n18_; have NB364_378 := n19_; have NB378_364 := n20_; have NB370_378 := n21_; have NB378_370 := n22_; clear n0_ n1_ n2_ n3_ n4_ n5_ n6_ n7_ n8_ n11_ n14_ n15_ n16_ n17_ n18_ n19_ n20_ n21_ n22_; clear hb hbox hg; have hnb52 := NB378_364.out; have hnc52 := NB364_378.out; have hnb53 := NB378_370.out; have hnc53 := NB370_378.out; have hcz54_0 : w51.cell? ⟨gb378, 0, none⟩ = some (.int .i64 0) := (blk_cell BK378.out 0).trans rfl; have hcz54_1 : w51.cell? ⟨gb378, 1, none⟩ = some (.slice none 0 0) := (blk_cell BK378.out 1).trans rfl; have hfz54_0 := blk_frozen BK378.out 0; have hfz54_1 := blk_frozen BK378.out 1; have hcz55_0 : w51.cell? ⟨gb370, 0, none⟩ = some (.int .i64 t366) := (blk_cell BK370.out 0).trans rfl; have hcz55_1 : w51.cell? ⟨gb370, 1, none⟩ = some (.slice Ao39 t367.length co39) := (blk_cell BK370.out 1).trans rfl; have hfz55_0 := blk_frozen BK370.out 0; have hfz55_1 := blk_frozen BK370.out 1; have hcz56_0 : w51.cell? ⟨gb364, 0, none⟩ = some (.int .i64 t360) := (blk_cell BK364.out 0).trans rfl; have hcz56_1 : w51.cell? ⟨gb364, 1, none⟩ = some (.slice Ao33 t361.length co33) := (blk_cell BK364.out 1).trans rfl; have hfz56_0 := blk_frozen BK364.out 0; have hfz56_1 := blk_frozen BK364.out 1) )
                  go_meet
                  case rel => exact ⟨_, (t366), (t367), (t360), (t361), (.slice Ao39 t367.length co39), (.slice Ao33 t361.length co33), H', ⟨by have := HK1.out; first | omega | exact Nat.le_refl _⟩, ⟨by (with_reducible repeat (first | apply Kd.V_alloc | apply Kd.V_drewN | apply Kd.V_drew)); exact Kd.V_mono (Kd.V_far (p := ⟨gb370, 1, none⟩) (Kd.V_far (p := ⟨gb370, 0, none⟩) (Kd.V_far (p := ⟨gb364, 1, none⟩) (Kd.V_far (p := ⟨gb364, 0, none⟩) (Kd.V_far (p := ⟨gb378, 1, none⟩) (Kd.V_far (p := ⟨gb378, 0, none⟩) (Kd.V_mono (Kd.V_mono (Kd.V_mono HO375.out (fun k_ hk => (⟨hk, hk.2⟩ : _ ∧ k_ ≠ gb378))) (fun k_ hk => (⟨hk, hk.1.1.2.1⟩ : _ ∧ k_ ≠ gb364))) (fun k_ hk => (⟨hk, hk.1.1.1.2.2⟩ : _ ∧ k_ ≠ gb370))) (fun _ hk => hk.1.1.2) (.int .i64 t360)) (fun _ hk => hk.1.1.2) (.slice Ao33 t361.length co33)) (fun _ hk => hk.1.2) (.int .i64 t366)) (fun _ hk => hk.1.2) (.slice Ao39 t367.length co39)) (fun _ hk => hk.2) (.int .i64 t360)) (fun _ hk => hk.2) (.slice Ao33 t361.length co33)) (fun _ hk => ⟨hk.1.1.1.1.1, ⟨hk.1.1.1.1.2.1, hk.1.1.1.1.2.2⟩⟩)⟩, ⟨by (with_reducible repeat (first | apply Kd.N_alloc | apply Kd.N_drewN | apply Kd.N_drew)); exact Kd.N_mono (Kd.N_far (p := ⟨gb370, 1, none⟩) (Kd.N_far (p := ⟨gb370, 0, none⟩) (Kd.N_far (p := ⟨gb364, 1, none⟩) (Kd.N_far (p := ⟨gb364, 0, none⟩) (Kd.N_far (p := ⟨gb378, 1, none⟩) (Kd.N_far (p := ⟨gb378, 0, none⟩) (Kd.N_mono (Kd.N_mono (Kd.N_mono HO_4.out (fun k_ hk => (⟨hk, hk.2⟩ : _ ∧ k_ ≠ gb378))) (fun k_ hk => (⟨hk, hk.1.1.2.1⟩ : _ ∧ k_ ≠ gb364))) (fun k_ hk => (⟨hk, hk.1.1.1.2.2⟩ : _ ∧ k_ ≠ gb370))) (fun _ hk => hk.1.1.2) (.int .i64 t360)) (fun _ hk => hk.1.1.2) (.slice Ao33 t361.length co33)) (fun _ hk => hk.1.2) (.int .i64 t366)) (fun _ hk => hk.1.2) (.slice Ao39 t367.length co39)) (fun _ hk => hk.2) (.int .i64 t360)) (fun _ hk => hk.2) (.slice Ao33 t361.length co33)) (fun _ hk => ⟨hk.1.1.1.1.1, ⟨hk.1.1.1.1.2.1, hk.1.1.1.1.2.2⟩⟩)⟩, ⟨by (with_reducible repeat (first | apply Kd.V_alloc | apply Kd.V_drewN | apply Kd.V_drew)); exact Kd.V_mono (Kd.V_far (p := ⟨gb370, 1, none⟩) (Kd.V_far (p := ⟨gb370, 0, none⟩) (Kd.V_far (p := ⟨gb364, 1, none⟩) (Kd.V_far (p := ⟨gb364, 0, none⟩) (Kd.V_far (p := ⟨gb378, 1, none⟩) (Kd.V_far (p := ⟨gb378, 0, none⟩) (Kd.V_mono (Kd.V_mono (Kd.V_mono HO369.out (fun k_ hk => (⟨hk, hk.2⟩ : _ ∧ k_ ≠ gb378))) (fun k_ hk => (⟨hk, hk.1.1.2.1⟩ : _ ∧ k_ ≠ gb364))) (fun k_ hk => (⟨hk, hk.1.1.1.2.2⟩ : _ ∧ k_ ≠ gb370))) (fun _ hk => hk.1.1.2) (.int .i64 t360)) (fun _ hk => hk.1.1.2) (.slice Ao33 t361.length co33)) (fun _ hk => hk.1.2) (.int .i64 t366)) (fun _ hk => hk.1.2) (.slice Ao39 t367.length co39)) (fun _ hk => hk.2) (.int .i64 t360)) (fun _ hk => hk.2) (.slice Ao33 t361.length co33)) (fun _ hk => ⟨hk.1.1.1.1.1, ⟨hk.1.1.1.1.2.1, hk.1.1.1.1.2.2⟩⟩)⟩, ⟨by (with_reducible repeat (first | apply Kd.V_alloc | apply Kd.V_drewN | apply Kd.V_drew)); exact Kd.V_mono (Kd.V_far (p := ⟨gb370, 1, none⟩) (Kd.V_far (p := ⟨gb370, 0, none⟩) (Kd.V_far (p := ⟨gb364, 1, none⟩) (Kd.V_far (p := ⟨gb364, 0, none⟩) (Kd.V_far (p := ⟨gb378, 1, none⟩) (Kd.V_far (p := ⟨gb378, 0, none⟩) (Kd.V_mono (Kd.V_mono (Kd.V_mono HO363.out (fun k_ hk => (⟨hk, hk.2⟩ : _ ∧ k_ ≠ gb378))) (fun k_ hk => (⟨hk, hk.1.1.2.1⟩ : _ ∧ k_ ≠ gb364))) (fun k_ hk => (⟨hk, hk.1.1.1.2.2⟩ : _ ∧ k_ ≠ gb370))) (fun _ hk => hk.1.1.2) (.int .i64 t360)) (fun _ hk => hk.1.1.2) (.slice Ao33 t361.length co33)) (fun _ hk => hk.1.2) (.int .i64 t366)) (fun _ hk => hk.1.2) (.slice Ao39 t367.length co39)) (fun _ hk => hk.2) (.int .i64 t360)) (fun _ hk => hk.2) (.slice Ao33 t361.length co33)) (fun _ hk => ⟨hk.1.1.1.1.1, ⟨hk.1.1.1.1.2.1, hk.1.1.1.1.2.2⟩⟩)⟩, ⟨by (with_reducible repeat (first | refine blk_drewN ?_ _ | refine blk_drew ?_ | refine blk_alloc ?_ _)); refine blk_far ?_ NB364_370.out _; (with_reducible repeat (first | refine blk_drewN ?_ _ | refine blk_drew ?_ | refine blk_alloc ?_ _)); refine blk_far ?_ NB364_370.out _; (with_reducible repeat (first | refine blk_drewN ?_ _ | refine blk_drew ?_ | refine blk_alloc ?_ _)); refine blk_put (cs := #[.int .i64 t366, .slice Ao33 t361.length co33]) ?_ 1 _ rfl; (with_reducible repeat (first | refine blk_drewN ?_ _ | refine blk_drew ?_ | refine blk_alloc ?_ _)); refine blk_put (cs := #[.int .i64 t360, .slice Ao33 t361.length co33]) ?_ 0 _ rfl; (with_reducible repeat (first | refine blk_drewN ?_ _ | refine blk_drew ?_ | refine blk_alloc ?_ _)); refine blk_far ?_ NB364_378.out _; (with_reducible repeat (first | refine blk_drewN ?_ _ | refine blk_drew ?_ | refine blk_alloc ?_ _)); refine blk_far ?_ NB364_378.out _; (with_reducible repeat (first | refine blk_drewN ?_ _ | refine blk_drew ?_ | refine blk_alloc ?_ _)); exact BK364.out⟩, ⟨by (with_reducible repeat (first | refine blk_drewN ?_ _ | refine blk_drew ?_ | refine blk_alloc ?_ _)); refine blk_put (cs := #[.int .i64 t360, .slice Ao39 t367.length co39]) ?_ 1 _ rfl; (with_reducible repeat (first | refine blk_drewN ?_ _ | refine blk_drew ?_ | refine blk_alloc ?_ _)); refine blk_put (cs := #[.int .i64 t366, .slice Ao39 t367.length co39]) ?_ 0 _ rfl; (with_reducible repeat (first | refine blk_drewN ?_ _ | refine blk_drew ?_ | refine blk_alloc ?_ _)); refine blk_far ?_ NB370_364.out _; (with_reducible repeat (first | refine blk_drewN ?_ _ | refine blk_drew ?_ | refine blk_alloc ?_ _)); refine blk_far ?_ NB370_364.out _; (with_reducible repeat (first | refine blk_drewN ?_ _ | refine blk_drew ?_ | refine blk_alloc ?_ _)); refine blk_far ?_ NB370_378.out _; (with_reducible repeat (first | refine blk_drewN ?_ _ | refine blk_drew ?_ | refine blk_alloc ?_ _)); refine blk_far ?_ NB370_378.out _; (with_reducible repeat (first | refine blk_drewN ?_ _ | refine blk_drew ?_ | refine blk_alloc ?_ _)); exact BK370.out⟩, ⟨by repeat (first | (with_reducible first | exact HB.out | apply below_alloc | apply pw_below_drewN | apply below_drew1 | refine below_set ?_ GE364.out | refine below_set ?_ GE370.out | refine below_set ?_ GE378.out) | exact HB.out)⟩⟩
                · rw [if_neg c48] at H
                  have c48b0 : (t377 == 2) = false := beq_eq_false_iff_ne.mpr c48
                  have c48b1 : (t377 != 2) = true := bne_iff_ne.mpr c48
                  (first | rw [c48b0] | (simp only [i64_w, i32_w]; rw [c48b0]) | skip)
                  have H' := Aside0.mk H
                  clear H
                  go_wp2
                  go_meet
                  case rel => exact ⟨_, (t360), (t361), (t366), (t367), (.slice Ao33 t361.length co33), (.slice Ao39 t367.length co39), H', ⟨by have := HK1.out; first | omega | exact Nat.le_refl _⟩, ⟨by (with_reducible repeat (first | apply Kd.V_alloc | apply Kd.V_drewN | apply Kd.V_drew)); exact HO375.out⟩, ⟨by (with_reducible repeat (first | apply Kd.N_alloc | apply Kd.N_drewN | apply Kd.N_drew)); exact HO_4.out⟩, ⟨by (with_reducible repeat (first | apply Kd.V_alloc | apply Kd.V_drewN | apply Kd.V_drew)); exact HO363.out⟩, ⟨by (with_reducible repeat (first | apply Kd.V_alloc | apply Kd.V_drewN | apply Kd.V_drew)); exact HO369.out⟩, ⟨by (with_reducible repeat (first | refine blk_drewN ?_ _ | refine blk_drew ?_ | refine blk_alloc ?_ _)); exact BK364.out⟩, ⟨by (with_reducible repeat (first | refine blk_drewN ?_ _ | refine blk_drew ?_ | refine blk_alloc ?_ _)); exact BK370.out⟩, ⟨by repeat (first | (with_reducible first | exact HB.out | apply below_alloc | apply pw_below_drewN | apply below_drew1 | refine below_set ?_ GE364.out | refine below_set ?_ GE370.out) | exact HB.out)⟩⟩
              case rest =>
                clear HC27
                try clear c1
                try clear c2
                try clear c2b0
                try clear c2b1
                try clear p2
                try clear q2
                try clear c3
                try clear c3b0
                try clear c3b1
                try clear p3
                try clear q3
                try clear hx3
                try clear qi3
                try clear c4
                try clear q4
                try clear c5
                try clear c6
                try clear c6b0
                try clear c6b1
                try clear c8
                try clear c11
                try clear c15
                try clear c18
                try clear c22
                try clear q22
                try clear c34
                try clear c35
                try clear p35
                try clear q35
                try clear hx35
                try clear qi35
                try clear c36
                try clear p36
                try clear q36
                try clear hx36
                try clear qi36
                try clear c37
                try clear c41
                try clear q41
                try clear c48
                try clear c48b0
                try clear c48b1
                try clear c49
                try clear c52
                try clear c53
                try clear hcz13_0
                try clear hcz13_1
                try clear hcz19_0
                try clear hcz19_1
                try clear hcz23_0
                try clear hcz23_1
                try clear hcz24_0
                try clear hcz24_1
                try clear hcz32_0
                try clear hcz32_1
                try clear hcz38_0
                try clear hcz38_1
                try clear hcz42_0
                try clear hcz42_1
                try clear hcz43_0
                try clear hcz43_1
                try clear hcz45_0
                try clear hcz45_1
                try clear hcz46_0
                try clear hcz46_1
                try clear hcz50_0
                try clear hcz50_1
                try clear hcz54_0
                try clear hcz54_1
                try clear hcz55_0
                try clear hcz55_1
                try clear hcz56_0
                try clear hcz56_1
                try clear hfz13_0
                try clear hfz13_1
                try clear hfz19_0
                try clear hfz19_1
                try clear hfz23_0
                try clear hfz23_1
                try clear hfz24_0
                try clear hfz24_1
                try clear hfz32_0
                try clear hfz32_1
                try clear hfz38_0
                try clear hfz38_1
                try clear hfz42_0
                try clear hfz42_1
                try clear hfz43_0
                try clear hfz43_1
                try clear hfz45_0
                try clear hfz45_1
                try clear hfz46_0
                try clear hfz46_1
                try clear hfz50_0
                try clear hfz50_1
                try clear hfz54_0
                try clear hfz54_1
                try clear hfz55_0
                try clear hfz55_1
                try clear hfz56_0
                try clear hfz56_1
                try clear hx359_0
                try clear hx359_1
                try clear hx359_2
                try clear hx359_3
                try clear hx365_0
                try clear hx365_1
                try clear hx365_2
                try clear hx365_3
                try clear p359
                try clear p365
                try clear q22
                try clear q359
                try clear q365
                try clear q41
                obtain ⟨kq, x365000_26, x365001_26, x371000_26, x371001_26, u365001, u371001, HA, HJ26, HO_0, HO_4, HO_365001, HO_371001, BK364, BK370, HB⟩ := hcut
                cases kq with
                | zero => exact absurd HA.out (by simp [elenchusref04_solve.j1])
                | succ kj26 =>
                  have H := HA.out
                  clear HA
                  simp only [elenchusref04_solve.j1] at H
                  by_cases c57 : t377 > 0
                  · rw [if_pos c57] at H
                    have c57b0 : decide (0 < t377) = true := decide_eq_true c57
                    clear c57
                    replace H := Option.bind_eq_some_iff.mp H
                    obtain ⟨t379, A580, H⟩ := H
                    replace H : ((elenchusref01_In.f (wrap64 ((-1) - x365000_26)) t379).bind fun t382 => (if t382 = true then (some (([] : List (S60)), false)) else ((elenchusref03_Both.f kj26 x4_1 (([(⟨wrap64 ((-1) - x365000_26), (⟨x371000_26, x371001_26⟩ : S25)⟩ : S60)] : List (S60)))).bind fun t386 => (elenchusref04_solve.l0 kj26 y371 t386)))) = some (r1, r2) := H
                    have A58 := Aside0.mk A580
                    clear A580
                    replace H := Option.bind_eq_some_iff.mp H
                    obtain ⟨t382, A590, H⟩ := H
                    replace H : (if t382 = true then (some (([] : List (S60)), false)) else ((elenchusref03_Both.f kj26 x4_1 (([(⟨wrap64 ((-1) - x365000_26), (⟨x371000_26, x371001_26⟩ : S25)⟩ : S60)] : List (S60)))).bind fun t386 => (elenchusref04_solve.l0 kj26 y371 t386))) = some (r1, r2) := H
                    have A59 := Aside0.mk A590
                    clear A590
                    by_cases c60 : t382 = true
                    · subst c60
                      have H1 : (some (([] : List (S60)), false)) = some (r1, r2) := by rw [if_pos rfl] at H; exact H
                      clear H
                      have H := H1
                      clear H1
                      simp only [Option.some.injEq, Prod.mk.injEq] at H
                      obtain ⟨rfl, rfl⟩ := H
                      have hnb61 := NB364_370.out
                      have hnc61 := NB370_364.out
                      have hcz62_0 : wc.cell? ⟨gb364, 0, none⟩ = some (.int .i64 x365000_26) := (blk_cell BK364.out 0).trans rfl
                      have hcz62_1 : wc.cell? ⟨gb364, 1, none⟩ = some (u365001) := (blk_cell BK364.out 1).trans rfl
                      have hfz62_0 := blk_frozen BK364.out 0
                      have hfz62_1 := blk_frozen BK364.out 1
                      have hcz63_0 : wc.cell? ⟨gb370, 0, none⟩ = some (.int .i64 x371000_26) := (blk_cell BK370.out 0).trans rfl
                      have hcz63_1 : wc.cell? ⟨gb370, 1, none⟩ = some (u371001) := (blk_cell BK370.out 1).trans rfl
                      have hfz63_0 := blk_frozen BK370.out 0
                      have hfz63_1 := blk_frozen BK370.out 1
                      obtain ⟨Ao64, co64, eo64⟩ := Kd.V_slice HO_371001.out
                      subst eo64
                      go_wp2_with (first | ((with_reducible refine gate_callee (f := 76) rfl ?_); refine goesL_ (some 47) rfl rfl Try.func76 (by kernel_rfl) rfl #[.agg #[.int .i64 x371000_26, .slice Ao64 x371001_26.length co64]] rfl (by (try simp only [List.map_toArray, List.map_cons, List.map_nil]); first | done | rfl | (simp only [List.length_drop, List.length_take]; rfl)) ?_; (with_reducible refine (elenchusref01_Vars.calls kj26 x371000_26 _ _ x371001_26 t379 _ ?side1 ?side2 A58.out).mono ?_); (case side1 => repeat (first | exact (Kd.V_reads' HO_371001.out).2.2 | (with_reducible refine Kd.C_alloc ?_ _) | (with_reducible refine Kd.C_drewN ?_ _) | (with_reducible refine Kd.C_drew ?_))); (case side2 => exact (Kd.V_reads' HO_371001.out).2.1); rintro e w65 ⟨v380, rfl, ho0, hb⟩; refine ⟨_, rfl, ?_⟩; have n0_ := Aside0.mk (Kd.V_elder' (by (with_reducible repeat (first | apply Kd.V_alloc | apply Kd.V_drewN | apply Kd.V_drew)); exact HO_0.out) (Kd.R_base ho0) hb); have n1_ := Aside0.mk (Kd.N_elder' (by (with_reducible repeat (first | apply Kd.N_alloc | apply Kd.N_drewN | apply Kd.N_drew)); exact HO_4.out) (Kd.R_base ho0) hb); have n2_ := Aside0.mk (Kd.V_elder' (by (with_reducible repeat (first | apply Kd.V_alloc | apply Kd.V_drewN | apply Kd.V_drew)); exact HO_365001.out) (Kd.R_base ho0) hb); have n3_ := Aside0.mk (Kd.V_elder' (by (with_reducible repeat (first | apply Kd.V_alloc | apply Kd.V_drewN | apply Kd.V_drew)); exact HO_371001.out) (Kd.R_base ho0) hb); have n4_ := Aside0.mk (Kd.R_lower (Kd.R_newM (M := fun k_ => (w.heap.size ≤ k_)) ho0 (below_size (by repeat (first | (with_reducible first | exact HB.out | apply below_alloc | apply pw_below_drewN | apply below_drew1 | refine below_set ?_ GE364.out | refine below_set ?_ GE370.out) | exact HB.out))) (fun k_ h_ => h_)) (below_size (by repeat (first | (with_reducible first | exact HB.out | apply below_alloc | apply pw_below_drewN | apply below_drew1 | refine below_set ?_ GE364.out | refine below_set ?_ GE370.out) | exact HB.out)))); have n5_ := Aside0.mk (blk_below (g := gb364) (o := .cells #[.int .i64 x365000_26, u365001] 25 (0, 0)) (by (with_reducible repeat (first | refine blk_drewN ?_ _ | refine blk_drew ?_ | refine blk_alloc ?_ _)); exact BK364.out) hb); have n6_ := Aside0.mk (blk_below (g := gb370) (o := .cells #[.int .i64 x371000_26, .slice Ao64 x371001_26.length co64] 25 (0, 0)) (by (with_reducible repeat (first | refine blk_drewN ?_ _ | refine blk_drew ?_ | refine blk_alloc ?_ _)); exact BK370.out) hb); have n11_ := Aside0.mk (below_step (by repeat (first | (with_reducible first | exact HB.out | apply below_alloc | apply pw_below_drewN | apply below_drew1 | refine below_set ?_ GE364.out | refine below_set ?_ GE370.out) | exact HB.out)) hb); clear HO_0; clear HO_4; clear HO_365001; clear HO_371001; clear BK364; clear BK370; clear HB; have HO_0 := n0_; have HO_4 := n1_; have HO_365001 := n2_; have HO_371001 := n3_; have HO381 := n4_; have BK364 := n5_; have BK370 := n6_; have HB := n11_; clear n0_ n1_ n2_ n3_ n4_ n5_ n6_ n11_; (try clear hb); (try clear hb2); (try clear hk); (try clear hi); (try clear ho0); obtain ⟨Ao66, co66, eo66⟩ := Kd.R_slice HO381.out; subst eo66) | ((with_reducible refine gate_callee (f := 40) rfl ?_); refine goesL_ (some 48) rfl rfl Try.func40 (by kernel_rfl) rfl #[.int .i64 (wrap64 ((-1) - x365000_26)), .slice Ao66 t379.length co66] rfl (by (try simp only [List.map_toArray, List.map_cons, List.map_nil]); first | done | rfl | (simp only [List.length_drop, List.length_take]; rfl)) ?_; (with_reducible refine (elenchusref01_In.calls (wrap64 ((-1) - x365000_26)) _ _ t379 true _ ?side1 ?side2 A59.out).mono ?_); (case side1 => repeat (first | exact (Kd.R_reads' HO381.out).2.2 | (with_reducible refine Kd.C_alloc ?_ _) | (with_reducible refine Kd.C_drewN ?_ _) | (with_reducible refine Kd.C_drew ?_))); (case side2 => exact (Kd.R_reads' HO381.out).2.1); rintro e w67 ⟨rfl, hb⟩; refine ⟨_, rfl, ?_⟩; have n0_ := Aside0.mk (Kd.V_below (by (with_reducible repeat (first | apply Kd.V_alloc | apply Kd.V_drewN | apply Kd.V_drew)); exact HO_0.out) hb); have n1_ := Aside0.mk (Kd.N_below (by (with_reducible repeat (first | apply Kd.N_alloc | apply Kd.N_drewN | apply Kd.N_drew)); exact HO_4.out) hb); have n2_ := Aside0.mk (Kd.V_below (by (with_reducible repeat (first | apply Kd.V_alloc | apply Kd.V_drewN | apply Kd.V_drew)); exact HO_365001.out) hb); have n3_ := Aside0.mk (Kd.V_below (by (with_reducible repeat (first | apply Kd.V_alloc | apply Kd.V_drewN | apply Kd.V_drew)); exact HO_371001.out) hb); have n4_ := Aside0.mk (Kd.R_below (by (with_reducible repeat (first | apply Kd.R_alloc | apply Kd.R_drewN | apply Kd.R_drew)); exact HO381.out) hb); have n5_ := Aside0.mk (blk_below (g := gb364) (o := .cells #[.int .i64 x365000_26, u365001] 25 (0, 0)) (by (with_reducible repeat (first | refine blk_drewN ?_ _ | refine blk_drew ?_ | refine blk_alloc ?_ _)); exact BK364.out) hb); have n6_ := Aside0.mk (blk_below (g := gb370) (o := .cells #[.int .i64 x371000_26, .slice Ao64 x371001_26.length co64] 25 (0, 0)) (by (with_reducible repeat (first | refine blk_drewN ?_ _ | refine blk_drew ?_ | refine blk_alloc ?_ _)); exact BK370.out) hb); have n11_ := Aside0.mk (below_step (by repeat (first | (with_reducible first | exact HB.out | apply below_alloc | apply pw_below_drewN | apply below_drew1 | refine below_set ?_ GE364.out | refine below_set ?_ GE370.out) | exact HB.out)) hb); clear HO_0; clear HO_4; clear HO_365001; clear HO_371001; clear HO381; clear BK364; clear BK370; clear HB; have HO_0 := n0_; have HO_4 := n1_; have HO_365001 := n2_; have HO_371001 := n3_; have HO381 := n4_; have BK364 := n5_; have BK370 := n6_; have HB := n11_; clear n0_ n1_ n2_ n3_ n4_ n5_ n6_ n11_; (try clear hb); (try clear hb2); (try clear hk); (try clear hi)) )
                      go_ret2
                      exact ⟨_, by first | rfl | (simp [errW_none, errW_some] <;> rfl) | (simp [*, errW_none, errW_some] <;> rfl), by first | exact Kd.R_nil _ _ _ _ _ | exact Kd.N_nil _ _ _ _ _ | exact Kd.V_nil _ _ _ _ _ | exact Kd.Q_nil _ _ _ _ _ | exact Kd.S_nil _ _ _ _ _, by repeat (first | (with_reducible first | exact HB.out | apply below_alloc | apply pw_below_drewN | apply below_drew1 | refine below_set ?_ GE364.out | refine below_set ?_ GE370.out) | exact HB.out)⟩
                    · replace c60 := Bool.eq_false_iff.mpr c60
                      subst c60
                      have H1 : ((elenchusref03_Both.f kj26 x4_1 (([(⟨wrap64 ((-1) - x365000_26), (⟨x371000_26, x371001_26⟩ : S25)⟩ : S60)] : List (S60)))).bind fun t386 => (elenchusref04_solve.l0 kj26 y371 t386)) = some (r1, r2) := by rw [if_neg (show ¬ (false = true) by decide)] at H; exact H
                      clear H
                      have H := H1
                      clear H1
                      obtain ⟨y383, hy383⟩ : ∃ y_ : List (S60), y_ = (([(⟨wrap64 ((-1) - x365000_26), (⟨x371000_26, x371001_26⟩ : S25)⟩ : S60)] : List (S60))) := ⟨_, rfl⟩
                      replace H : ((elenchusref03_Both.f kj26 x4_1 y383).bind fun t386 => (elenchusref04_solve.l0 kj26 y371 t386)) = some (r1, r2) := by first | (rw [hy383]; with_reducible exact H) | (have H2_ := (Option.bind_some _ _).symm.trans H; rw [hy383]; with_reducible exact H2_) | (have H2_ := (Option.bind_some _ _).symm.trans H; with_reducible exact H2_) | with_reducible exact H | (rw [hy383]; exact H) | exact H
                      have Ny383 := Aside0.mk hy383
                      clear hy383
                      replace H := Option.bind_eq_some_iff.mp H
                      obtain ⟨t386, A680, H⟩ := H
                      replace H : (elenchusref04_solve.l0 kj26 y371 t386) = some (r1, r2) := H
                      have A68 := Aside0.mk A680
                      clear A680
                      have H' := Aside0.mk H
                      clear H
                      have hnb69 := NB364_370.out
                      have hnc69 := NB370_364.out
                      have hcz70_0 : wc.cell? ⟨gb364, 0, none⟩ = some (.int .i64 x365000_26) := (blk_cell BK364.out 0).trans rfl
                      have hcz70_1 : wc.cell? ⟨gb364, 1, none⟩ = some (u365001) := (blk_cell BK364.out 1).trans rfl
                      have hfz70_0 := blk_frozen BK364.out 0
                      have hfz70_1 := blk_frozen BK364.out 1
                      have hcz71_0 : wc.cell? ⟨gb370, 0, none⟩ = some (.int .i64 x371000_26) := (blk_cell BK370.out 0).trans rfl
                      have hcz71_1 : wc.cell? ⟨gb370, 1, none⟩ = some (u371001) := (blk_cell BK370.out 1).trans rfl
                      have hfz71_0 := blk_frozen BK370.out 0
                      have hfz71_1 := blk_frozen BK370.out 1
                      obtain ⟨Ao72, co72, eo72⟩ := Kd.V_slice HO_371001.out
                      subst eo72
                      go_wp2_with (first | ((with_reducible refine gate_callee (f := 76) rfl ?_); refine goesL_ (some 47) rfl rfl Try.func76 (by kernel_rfl) rfl #[.agg #[.int .i64 x371000_26, .slice Ao72 x371001_26.length co72]] rfl (by (try simp only [List.map_toArray, List.map_cons, List.map_nil]); first | done | rfl | (simp only [List.length_drop, List.length_take]; rfl)) ?_; (with_reducible refine (elenchusref01_Vars.calls kj26 x371000_26 _ _ x371001_26 t379 _ ?side1 ?side2 A58.out).mono ?_); (case side1 => repeat (first | exact (Kd.V_reads' HO_371001.out).2.2 | (with_reducible refine Kd.C_alloc ?_ _) | (with_reducible refine Kd.C_drewN ?_ _) | (with_reducible refine Kd.C_drew ?_))); (case side2 => exact (Kd.V_reads' HO_371001.out).2.1); rintro e w73 ⟨v380, rfl, ho0, hb⟩; refine ⟨_, rfl, ?_⟩; have n0_ := Aside0.mk (Kd.V_elder' (by (with_reducible repeat (first | apply Kd.V_alloc | apply Kd.V_drewN | apply Kd.V_drew)); exact HO_0.out) (Kd.R_base ho0) hb); have n1_ := Aside0.mk (Kd.N_elder' (by (with_reducible repeat (first | apply Kd.N_alloc | apply Kd.N_drewN | apply Kd.N_drew)); exact HO_4.out) (Kd.R_base ho0) hb); have n2_ := Aside0.mk (Kd.V_elder' (by (with_reducible repeat (first | apply Kd.V_alloc | apply Kd.V_drewN | apply Kd.V_drew)); exact HO_365001.out) (Kd.R_base ho0) hb); have n3_ := Aside0.mk (Kd.V_elder' (by (with_reducible repeat (first | apply Kd.V_alloc | apply Kd.V_drewN | apply Kd.V_drew)); exact HO_371001.out) (Kd.R_base ho0) hb); have n4_ := Aside0.mk (Kd.R_lower (Kd.R_newM (M := fun k_ => (w.heap.size ≤ k_)) ho0 (below_size (by repeat (first | (with_reducible first | exact HB.out | apply below_alloc | apply pw_below_drewN | apply below_drew1 | refine below_set ?_ GE364.out | refine below_set ?_ GE370.out) | exact HB.out))) (fun k_ h_ => h_)) (below_size (by repeat (first | (with_reducible first | exact HB.out | apply below_alloc | apply pw_below_drewN | apply below_drew1 | refine below_set ?_ GE364.out | refine below_set ?_ GE370.out) | exact HB.out)))); have n5_ := Aside0.mk (blk_below (g := gb364) (o := .cells #[.int .i64 x365000_26, u365001] 25 (0, 0)) (by (with_reducible repeat (first | refine blk_drewN ?_ _ | refine blk_drew ?_ | refine blk_alloc ?_ _)); exact BK364.out) hb); have n6_ := Aside0.mk (blk_below (g := gb370) (o := .cells #[.int .i64 x371000_26, .slice Ao72 x371001_26.length co72] 25 (0, 0)) (by (with_reducible repeat (first | refine blk_drewN ?_ _ | refine blk_drew ?_ | refine blk_alloc ?_ _)); exact BK370.out) hb); have n11_ := Aside0.mk (below_step (by repeat (first | (with_reducible first | exact HB.out | apply below_alloc | apply pw_below_drewN | apply below_drew1 | refine below_set ?_ GE364.out | refine below_set ?_ GE370.out) | exact HB.out)) hb); clear HO_0; clear HO_4; clear HO_365001; clear HO_371001; clear BK364; clear BK370; clear HB; have HO_0 := n0_; have HO_4 := n1_; have HO_365001 := n2_; have HO_371001 := n3_; have HO381 := n4_; have BK364 := n5_; have BK370 := n6_; have HB := n11_; clear n0_ n1_ n2_ n3_ n4_ n5_ n6_ n11_; (try clear hb); (try clear hb2); (try clear hk); (try clear hi); (try clear ho0); obtain ⟨Ao74, co74, eo74⟩ := Kd.R_slice HO381.out; subst eo74) | ((with_reducible refine gate_callee (f := 40) rfl ?_); refine goesL_ (some 48) rfl rfl Try.func40 (by kernel_rfl) rfl #[.int .i64 (wrap64 ((-1) - x365000_26)), .slice Ao74 t379.length co74] rfl (by (try simp only [List.map_toArray, List.map_cons, List.map_nil]); first | done | rfl | (simp only [List.length_drop, List.length_take]; rfl)) ?_; (with_reducible refine (elenchusref01_In.calls (wrap64 ((-1) - x365000_26)) _ _ t379 false _ ?side1 ?side2 A59.out).mono ?_); (case side1 => repeat (first | exact (Kd.R_reads' HO381.out).2.2 | (with_reducible refine Kd.C_alloc ?_ _) | (with_reducible refine Kd.C_drewN ?_ _) | (with_reducible refine Kd.C_drew ?_))); (case side2 => exact (Kd.R_reads' HO381.out).2.1); rintro e w75 ⟨rfl, hb⟩; refine ⟨_, rfl, ?_⟩; have n0_ := Aside0.mk (Kd.V_below (by (with_reducible repeat (first | apply Kd.V_alloc | apply Kd.V_drewN | apply Kd.V_drew)); exact HO_0.out) hb); have n1_ := Aside0.mk (Kd.N_below (by (with_reducible repeat (first | apply Kd.N_alloc | apply Kd.N_drewN | apply Kd.N_drew)); exact HO_4.out) hb); have n2_ := Aside0.mk (Kd.V_below (by (with_reducible repeat (first | apply Kd.V_alloc | apply Kd.V_drewN | apply Kd.V_drew)); exact HO_365001.out) hb); have n3_ := Aside0.mk (Kd.V_below (by (with_reducible repeat (first | apply Kd.V_alloc | apply Kd.V_drewN | apply Kd.V_drew)); exact HO_371001.out) hb); have n4_ := Aside0.mk (Kd.R_below (by (with_reducible repeat (first | apply Kd.R_alloc | apply Kd.R_drewN | apply Kd.R_drew)); exact HO381.out) hb); have n5_ := Aside0.mk (blk_below (g := gb364) (o := .cells #[.int .i64 x365000_26, u365001] 25 (0, 0)) (by (with_reducible repeat (first | refine blk_drewN ?_ _ | refine blk_drew ?_ | refine blk_alloc ?_ _)); exact BK364.out) hb); have n6_ := Aside0.mk (blk_below (g := gb370) (o := .cells #[.int .i64 x371000_26, .slice Ao72 x371001_26.length co72] 25 (0, 0)) (by (with_reducible repeat (first | refine blk_drewN ?_ _ | refine blk_drew ?_ | refine blk_alloc ?_ _)); exact BK370.out) hb); have n11_ := Aside0.mk (below_step (by repeat (first | (with_reducible first | exact HB.out | apply below_alloc | apply pw_below_drewN | apply below_drew1 | refine below_set ?_ GE364.out | refine below_set ?_ GE370.out) | exact HB.out)) hb); clear HO_0; clear HO_4; clear HO_365001; clear HO_371001; clear HO381; clear BK364; clear BK370; clear HB; have HO_0 := n0_; have HO_4 := n1_; have HO_365001 := n2_; have HO_371001 := n3_; have HO381 := n4_; have BK364 := n5_; have BK370 := n6_; have HB := n11_; clear n0_ n1_ n2_ n3_ n4_ n5_ n6_ n11_; (try clear hb); (try clear hb2); (try clear hk); (try clear hi); have hcz76_0 : w75.cell? ⟨gb370, 0, none⟩ = some (.int .i64 x371000_26) := (blk_cell BK370.out 0).trans rfl; have hcz76_1 : w75.cell? ⟨gb370, 1, none⟩ = some (.slice Ao72 x371001_26.length co72) := (blk_cell BK370.out 1).trans rfl; have hfz76_0 := blk_frozen BK370.out 0; have hfz76_1 := blk_frozen BK370.out 1) | ((with_reducible refine gate_dst (N := 53) rfl ?_); (try (refine gate_guard (by rfl) ?_; dsimp only)); refine Kd.N_lit k60 _ 60 ?hg (N' := 53) ?hd (xs := ([(⟨wrap64 ((-1) - x365000_26), (⟨x371000_26, x371001_26⟩ : S25)⟩ : S60)] : List (S60))) (inner := [.int .i64 (wrap64 ((-1) - x365000_26)), .int .i64 x371000_26, .slice Ao72 x371001_26.length co72]) (ok := (fun k_ => (P0_ k_ ∨ w.heap.size ≤ k_) ∧ some k_ ≠ (.slice Ao74 t379.length co74 : Value).ownBlock ∧ k_ ≠ gb364 ∧ k_ ≠ gb370)) (okp := (fun k_ => (P0_ k_ ∨ w.heap.size ≤ k_) ∧ some k_ ≠ (.slice Ao74 t379.length co74 : Value).ownBlock ∧ k_ ≠ gb364 ∧ k_ ≠ gb370)) ?hr ?hp (fun _ hk => hk) ((show ∀ k_, w75.heap.size ≤ k_ → (fun k_ => (P0_ k_ ∨ w.heap.size ≤ k_) ∧ some k_ ≠ (.slice Ao74 t379.length co74 : Value).ownBlock ∧ k_ ≠ gb364 ∧ k_ ≠ gb370) k_ from fun k_ hk => ⟨(.inr (Nat.le_trans (below_size (by repeat (first | (with_reducible first | exact HB.out | apply below_alloc | apply pw_below_drewN | apply below_drew1 | refine below_set ?_ GE364.out | refine below_set ?_ GE370.out) | exact HB.out))) hk)), Kd.fresh' (Kd.R_lt (by (with_reducible repeat (first | apply Kd.R_alloc | apply Kd.R_drewN | apply Kd.R_drew)); exact HO381.out)) k_ hk, Kd.freshB (g := gb364) (o := .cells #[.int .i64 x365000_26, u365001] 25 (0, 0)) (by (with_reducible repeat (first | refine blk_drewN ?_ _ | refine blk_drew ?_ | refine blk_alloc ?_ _)); exact BK364.out) k_ hk, Kd.freshB (g := gb370) (o := .cells #[.int .i64 x371000_26, .slice Ao72 x371001_26.length co72] 25 (0, 0)) (by (with_reducible repeat (first | refine blk_drewN ?_ _ | refine blk_drew ?_ | refine blk_alloc ?_ _)); exact BK370.out) k_ hk⟩) _ (Nat.le_refl _)) (Below.refl _ _) (Nat.le_refl _) (by simp) ?_; (case hd => rfl); (case hg => rfl); (case hr => first | (go_simp; done) | (go_simp; rfl)); (case hp => exact (Reps.c3 (show Kd.FK k60 _ _ (⟨wrap64 ((-1) - x365000_26), (⟨x371000_26, x371001_26⟩ : S25)⟩ : S60) [.int .i64 (wrap64 ((-1) - x365000_26)), .int .i64 x371000_26, .slice Ao72 x371001_26.length co72] from (k60_mkF _ _ (⟨wrap64 ((-1) - x365000_26), (⟨x371000_26, x371001_26⟩ : S25)⟩ : S60) (Kd.V_reads' (Kd.V_mono (ok' := (fun k_ => (P0_ k_ ∨ w.heap.size ≤ k_) ∧ some k_ ≠ (.slice Ao74 t379.length co74 : Value).ownBlock ∧ k_ ≠ gb364 ∧ k_ ≠ gb370)) (HO_371001.out) (fun k_ hk => ⟨hk.1.1, ⟨hk.2, ⟨hk.1.2.1, hk.1.2.2⟩⟩⟩))).2.1 (Kd.V_F (Kd.V_mono (ok' := (fun k_ => (P0_ k_ ∨ w.heap.size ≤ k_) ∧ some k_ ≠ (.slice Ao74 t379.length co74 : Value).ownBlock ∧ k_ ≠ gb364 ∧ k_ ≠ gb370)) (HO_371001.out) (fun k_ hk => ⟨hk.1.1, ⟨hk.2, ⟨hk.1.2.1, hk.1.2.2⟩⟩⟩))))) (Reps.none _ _))); intro v384 w77 ho78 hb hg_ hnew_; clear hg_ hnew_; (first | rw [← Ny383.out] at ho78 | (simp only [Int.reduceToNat] at ho78; rw [← Ny383.out] at ho78)); have n0_ := Aside0.mk (Kd.V_elder' (by (with_reducible repeat (first | apply Kd.V_alloc | apply Kd.V_drewN | apply Kd.V_drew)); exact HO_0.out) (by first | exact Kd.N_base ho78 | exact Kd.R_base ho78) hb); have n1_ := Aside0.mk (Kd.N_elder' (by (with_reducible repeat (first | apply Kd.N_alloc | apply Kd.N_drewN | apply Kd.N_drew)); exact HO_4.out) (by first | exact Kd.N_base ho78 | exact Kd.R_base ho78) hb); have n2_ := Aside0.mk (Kd.V_elder' (by (with_reducible repeat (first | apply Kd.V_alloc | apply Kd.V_drewN | apply Kd.V_drew)); exact HO_365001.out) (by first | exact Kd.N_base ho78 | exact Kd.R_base ho78) hb); have n3_ := Aside0.mk (Kd.V_elder' (by (with_reducible repeat (first | apply Kd.V_alloc | apply Kd.V_drewN | apply Kd.V_drew)); exact HO_371001.out) (by first | exact Kd.N_base ho78 | exact Kd.R_base ho78) hb); have n4_ := Aside0.mk (Kd.R_below (by (with_reducible repeat (first | apply Kd.R_alloc | apply Kd.R_drewN | apply Kd.R_drew)); exact HO381.out) hb); have n5_ := Aside0.mk (Kd.N_lower ho78 (below_size (by repeat (first | (with_reducible first | exact HB.out | apply below_alloc | apply pw_below_drewN | apply below_drew1 | refine below_set ?_ GE364.out | refine below_set ?_ GE370.out) | exact HB.out)))); have n6_ := Aside0.mk (blk_below (g := gb364) (o := .cells #[.int .i64 x365000_26, u365001] 25 (0, 0)) (by (with_reducible repeat (first | refine blk_drewN ?_ _ | refine blk_drew ?_ | refine blk_alloc ?_ _)); exact BK364.out) hb); have n7_ := Aside0.mk (blk_below (g := gb370) (o := .cells #[.int .i64 x371000_26, .slice Ao72 x371001_26.length co72] 25 (0, 0)) (by (with_reducible repeat (first | refine blk_drewN ?_ _ | refine blk_drew ?_ | refine blk_alloc ?_ _)); exact BK370.out) hb); have n12_ := Aside0.mk (below_step (by repeat (first | (with_reducible first | exact HB.out | apply below_alloc | apply pw_below_drewN | apply below_drew1 | refine below_set ?_ GE364.out | refine below_set ?_ GE370.out) | exact HB.out)) hb); clear HO_0; clear HO_4; clear HO_365001; clear HO_371001; clear HO381; clear BK364; clear BK370; clear HB; have HO_0 := n0_; have HO_4 := n1_; have HO_365001 := n2_; have HO_371001 := n3_; have HO381 := n4_; have HO385 := n5_; have BK364 := n6_; have BK370 := n7_; have HB := n12_; clear n0_ n1_ n2_ n3_ n4_ n5_ n6_ n7_ n12_; clear hb ho78; obtain ⟨Ao79, co79, eo79⟩ := Kd.N_slice HO385.out; subst eo79) | ((with_reducible refine gate_callee (f := 106) rfl ?_); refine goesL_ (some 54) rfl rfl Try.func106 (by kernel_rfl) rfl #[.slice Ao29 x4_1.length co29, .slice Ao79 y383.length co79] rfl (by (try simp only [List.map_toArray, List.map_cons, List.map_nil]); first | done | rfl | (simp only [List.length_drop, List.length_take]; rfl)) ?_; (with_reducible refine (elenchusref03_Both.calls kj26 (fun k_ => ((((P0_ k_ ∨ w.heap.size ≤ k_) ∧ (k_ ≠ gb364 ∧ k_ ≠ gb370)) ∧ some k_ ≠ (.slice Ao74 t379.length co74 : Value).ownBlock) ∧ some k_ ≠ (.slice Ao79 y383.length co79 : Value).ownBlock)) _ _ x4_1 (fun k_ => ((P0_ k_ ∨ w.heap.size ≤ k_) ∧ (some k_ ≠ (.slice Ao74 t379.length co74 : Value).ownBlock ∧ (k_ ≠ gb364 ∧ k_ ≠ gb370)))) _ _ y383 t386 _ ?side1 ?side2 A68.out).mono ?_); (case side1 => exact Kd.N_V (HO_4.out)); (case side2 => exact Kd.N_V (HO385.out)); rintro e w80 ⟨v387, rfl, ho0, hb⟩; refine ⟨_, rfl, ?_⟩; have n0_ := Aside0.mk (Kd.V_elder' (by (with_reducible repeat (first | apply Kd.V_alloc | apply Kd.V_drewN | apply Kd.V_drew)); exact HO_0.out) (by first | exact Kd.N_base ho0 | exact Kd.R_base ho0) hb); have n1_ := Aside0.mk (Kd.N_elder' (by (with_reducible repeat (first | apply Kd.N_alloc | apply Kd.N_drewN | apply Kd.N_drew)); exact HO_4.out) (by first | exact Kd.N_base ho0 | exact Kd.R_base ho0) hb); have n2_ := Aside0.mk (Kd.V_elder' (by (with_reducible repeat (first | apply Kd.V_alloc | apply Kd.V_drewN | apply Kd.V_drew)); exact HO_365001.out) (by first | exact Kd.N_base ho0 | exact Kd.R_base ho0) hb); have n3_ := Aside0.mk (Kd.V_elder' (by (with_reducible repeat (first | apply Kd.V_alloc | apply Kd.V_drewN | apply Kd.V_drew)); exact HO_371001.out) (by first | exact Kd.N_base ho0 | exact Kd.R_base ho0) hb); have n4_ := Aside0.mk (Kd.R_below (by (with_reducible repeat (first | apply Kd.R_alloc | apply Kd.R_drewN | apply Kd.R_drew)); exact HO381.out) hb); have n5_ := Aside0.mk (Kd.N_elder' (by (with_reducible repeat (first | apply Kd.N_alloc | apply Kd.N_drewN | apply Kd.N_drew)); exact HO385.out) (by first | exact Kd.N_base ho0 | exact Kd.R_base ho0) hb); have n6_ := Aside0.mk (Kd.N_lower (Kd.N_mono (ok' := fun k_ => (P0_ k_ ∨ w.heap.size ≤ k_) ∧ some k_ ≠ (.slice Ao74 t379.length co74 : Value).ownBlock ∧ k_ ≠ gb364 ∧ k_ ≠ gb370) ho0 (fun k_ hk_ => ⟨Or.elim hk_ (fun hs_ => Or.elim hs_ (fun hs_ => hs_.1.1.1) (fun hs_ => hs_.1)) (fun hn_ => (.inr (Nat.le_trans (below_size (by repeat (first | (with_reducible first | exact HB.out | apply below_alloc | apply pw_below_drewN | apply below_drew1 | refine below_set ?_ GE364.out | refine below_set ?_ GE370.out) | exact HB.out))) hn_))), Or.elim hk_ (fun hs_ => Or.elim hs_ (fun hs_ => hs_.1.2) (fun hs_ => hs_.2.1)) (fun hn_ => (Kd.fresh' (Kd.R_lt (by (with_reducible repeat (first | apply Kd.R_alloc | apply Kd.R_drewN | apply Kd.R_drew)); exact HO381.out)) k_ hn_)), Or.elim hk_ (fun hs_ => Or.elim hs_ (fun hs_ => hs_.1.1.2.1) (fun hs_ => hs_.2.2.1)) (fun hn_ => (Kd.freshB (g := gb364) (o := .cells #[.int .i64 x365000_26, u365001] 25 (0, 0)) (by (with_reducible repeat (first | refine blk_drewN ?_ _ | refine blk_drew ?_ | refine blk_alloc ?_ _)); exact BK364.out) k_ hn_)), Or.elim hk_ (fun hs_ => Or.elim hs_ (fun hs_ => hs_.1.1.2.2) (fun hs_ => hs_.2.2.2)) (fun hn_ => (Kd.freshB (g := gb370) (o := .cells #[.int .i64 x371000_26, .slice Ao72 x371001_26.length co72] 25 (0, 0)) (by (with_reducible repeat (first | refine blk_drewN ?_ _ | refine blk_drew ?_ | refine blk_alloc ?_ _)); exact BK370.out) k_ hn_))⟩)) (below_size (by repeat (first | (with_reducible first | exact HB.out | apply below_alloc | apply pw_below_drewN | apply below_drew1 | refine below_set ?_ GE364.out | refine below_set ?_ GE370.out) | exact HB.out)))); have n7_ := Aside0.mk (blk_below (g := gb364) (o := .cells #[.int .i64 x365000_26, u365001] 25 (0, 0)) (by (with_reducible repeat (first | refine blk_drewN ?_ _ | refine blk_drew ?_ | refine blk_alloc ?_ _)); exact BK364.out) hb); have n8_ := Aside0.mk (blk_below (g := gb370) (o := .cells #[.int .i64 x371000_26, .slice Ao72 x371001_26.length co72] 25 (0, 0)) (by (with_reducible repeat (first | refine blk_drewN ?_ _ | refine blk_drew ?_ | refine blk_alloc ?_ _)); exact BK370.out) hb); have n13_ := Aside0.mk (below_step (by repeat (first | (with_reducible first | exact HB.out | apply below_alloc | apply pw_below_drewN | apply below_drew1 | refine below_set ?_ GE364.out | refine below_set ?_ GE370.out) | exact HB.out)) hb); clear HO_0; clear HO_4; clear HO_365001; clear HO_371001; clear HO381; clear HO385; clear BK364; clear BK370; clear HB; have HO_0 := n0_; have HO_4 := n1_; have HO_365001 := n2_; have HO_371001 := n3_; have HO381 := n4_; have HO385 := n5_; have HO388 := n6_; have BK364 := n7_; have BK370 := n8_; have HB := n13_; clear n0_ n1_ n2_ n3_ n4_ n5_ n6_ n7_ n8_ n13_; (try clear hb); (try clear hb2); (try clear hk); (try clear hi); (try clear ho0)) )
                      go_roundg kj26
                      case measure => have := HK1.out; have := HJ26.out; omega
                      case rel => exact ⟨(y371), (t386), H', ⟨by have := HK1.out; have := HJ26.out; omega⟩, ⟨by (with_reducible repeat (first | apply Kd.V_alloc | apply Kd.V_drewN | apply Kd.V_drew)); exact Kd.V_mono HO_0.out (fun _ hk => hk.1.1.1.1)⟩, ⟨by (with_reducible repeat (first | apply Kd.N_alloc | apply Kd.N_drewN | apply Kd.N_drew)); exact Kd.N_mono HO388.out (fun _ hk => hk.1)⟩, ⟨by repeat (first | (with_reducible first | exact HB.out | apply below_alloc | apply pw_below_drewN | apply below_drew1 | refine below_set ?_ GE364.out | refine below_set ?_ GE370.out) | exact HB.out)⟩⟩
                  · rw [if_neg c57] at H
                    have c57b0 : decide (0 < t377) = false := decide_eq_false c57
                    clear c57
                    have HC81 := Aside0.mk H
                    clear H
                    go_upto_region 17 with (fail)
                    go_cut [68] (fun v68 wc => ∃ (kq : Nat) (x68_80 : Bool), v68 = .bool x68_80 ∧ Aside0 (elenchusref04_solve.j2 kq y371 x4_1 x68_80 x365000_26 x365001_26 x371000_26 x371001_26 = some (r1, r2)) ∧ Aside0 (kq ≤ kj26) ∧ Aside0 (Kd.V k135 135 wc w.heap.size (fun k_ => (P0_ k_ ∨ w.heap.size ≤ k_) ∧ k_ ≠ gb364 ∧ k_ ≠ gb370) (.slice A41 y371.length c41) y371) ∧ Aside0 (Kd.N k60 60 wc w.heap.size (fun k_ => (P0_ k_ ∨ w.heap.size ≤ k_) ∧ k_ ≠ gb364 ∧ k_ ≠ gb370) (.slice Ao29 x4_1.length co29) x4_1) ∧ Aside0 (Kd.V k25 25 wc w.heap.size (fun k_ => (P0_ k_ ∨ w.heap.size ≤ k_) ∧ k_ ≠ gb364 ∧ k_ ≠ gb370) u365001 x365001_26) ∧ Aside0 (Kd.V k25 25 wc w.heap.size (fun k_ => (P0_ k_ ∨ w.heap.size ≤ k_) ∧ k_ ≠ gb364 ∧ k_ ≠ gb370) u371001 x371001_26) ∧ Aside0 (wc.heap[gb364]? = some (.cells #[.int .i64 x365000_26, u365001] 25 (0, 0))) ∧ Aside0 (wc.heap[gb370]? = some (.cells #[.int .i64 x371000_26, u371001] 25 (0, 0))) ∧ Aside0 (Below w.heap.size w wc))
                    case first =>
                      have H := HC81.out
                      clear HC81
                      by_cases c82 : x365000_26 = x371000_26
                      · rw [if_pos c82] at H
                        have c82b0 : (x365000_26 == x371000_26) = true := beq_iff_eq.mpr c82
                        have c82b1 : (x365000_26 != x371000_26) = false := bne_eq_false_iff_eq.mpr c82
                        clear c82
                        (first | rw [c82b0] | (simp only [i64_w, i32_w]; rw [c82b0]) | skip)
                        have H' := Aside0.mk H
                        clear H
                        have hnb83 := NB364_370.out
                        have hnc83 := NB370_364.out
                        have hcz84_0 : wc.cell? ⟨gb364, 0, none⟩ = some (.int .i64 x365000_26) := (blk_cell BK364.out 0).trans rfl
                        have hcz84_1 : wc.cell? ⟨gb364, 1, none⟩ = some (u365001) := (blk_cell BK364.out 1).trans rfl
                        have hfz84_0 := blk_frozen BK364.out 0
                        have hfz84_1 := blk_frozen BK364.out 1
                        have hcz85_0 : wc.cell? ⟨gb370, 0, none⟩ = some (.int .i64 x371000_26) := (blk_cell BK370.out 0).trans rfl
                        have hcz85_1 : wc.cell? ⟨gb370, 1, none⟩ = some (u371001) := (blk_cell BK370.out 1).trans rfl
                        have hfz85_0 := blk_frozen BK370.out 0
                        have hfz85_1 := blk_frozen BK370.out 1
                        obtain ⟨Ao86, co86, eo86⟩ := Kd.V_slice HO_365001.out
                        subst eo86
                        obtain ⟨Ao87, co87, eo87⟩ := Kd.V_slice HO_371001.out
                        subst eo87
                        go_wp2
                        go_meet
                        case rel => exact ⟨_, (((x365001_26.length : Int) != (x371001_26.length : Int))), (by first | rfl | (simp; done) | (simp [*]; done)), H', ⟨by have := HK1.out; have := HJ26.out; first | omega | exact Nat.le_refl _⟩, ⟨by (with_reducible repeat (first | apply Kd.V_alloc | apply Kd.V_drewN | apply Kd.V_drew)); exact HO_0.out⟩, ⟨by (with_reducible repeat (first | apply Kd.N_alloc | apply Kd.N_drewN | apply Kd.N_drew)); exact HO_4.out⟩, ⟨by (with_reducible repeat (first | apply Kd.V_alloc | apply Kd.V_drewN | apply Kd.V_drew)); exact HO_365001.out⟩, ⟨by (with_reducible repeat (first | apply Kd.V_alloc | apply Kd.V_drewN | apply Kd.V_drew)); exact HO_371001.out⟩, ⟨by (with_reducible repeat (first | refine blk_drewN ?_ _ | refine blk_drew ?_ | refine blk_alloc ?_ _)); exact BK364.out⟩, ⟨by (with_reducible repeat (first | refine blk_drewN ?_ _ | refine blk_drew ?_ | refine blk_alloc ?_ _)); exact BK370.out⟩, ⟨by repeat (first | (with_reducible first | exact HB.out | apply below_alloc | apply pw_below_drewN | apply below_drew1 | refine below_set ?_ GE364.out | refine below_set ?_ GE370.out) | exact HB.out)⟩⟩
                      · rw [if_neg c82] at H
                        have c82b0 : (x365000_26 == x371000_26) = false := beq_eq_false_iff_ne.mpr c82
                        have c82b1 : (x365000_26 != x371000_26) = true := bne_iff_ne.mpr c82
                        (first | rw [c82b0] | (simp only [i64_w, i32_w]; rw [c82b0]) | skip)
                        have H' := Aside0.mk H
                        clear H
                        have hnb88 := NB364_370.out
                        have hnc88 := NB370_364.out
                        have hcz89_0 : wc.cell? ⟨gb364, 0, none⟩ = some (.int .i64 x365000_26) := (blk_cell BK364.out 0).trans rfl
                        have hcz89_1 : wc.cell? ⟨gb364, 1, none⟩ = some (u365001) := (blk_cell BK364.out 1).trans rfl
                        have hfz89_0 := blk_frozen BK364.out 0
                        have hfz89_1 := blk_frozen BK364.out 1
                        have hcz90_0 : wc.cell? ⟨gb370, 0, none⟩ = some (.int .i64 x371000_26) := (blk_cell BK370.out 0).trans rfl
                        have hcz90_1 : wc.cell? ⟨gb370, 1, none⟩ = some (u371001) := (blk_cell BK370.out 1).trans rfl
                        have hfz90_0 := blk_frozen BK370.out 0
                        have hfz90_1 := blk_frozen BK370.out 1
                        go_wp2
                        go_meet
                        case rel => exact ⟨_, (true), (by first | rfl | (simp; done) | (simp [*]; done)), H', ⟨by have := HK1.out; have := HJ26.out; first | omega | exact Nat.le_refl _⟩, ⟨by (with_reducible repeat (first | apply Kd.V_alloc | apply Kd.V_drewN | apply Kd.V_drew)); exact HO_0.out⟩, ⟨by (with_reducible repeat (first | apply Kd.N_alloc | apply Kd.N_drewN | apply Kd.N_drew)); exact HO_4.out⟩, ⟨by (with_reducible repeat (first | apply Kd.V_alloc | apply Kd.V_drewN | apply Kd.V_drew)); exact HO_365001.out⟩, ⟨by (with_reducible repeat (first | apply Kd.V_alloc | apply Kd.V_drewN | apply Kd.V_drew)); exact HO_371001.out⟩, ⟨by (with_reducible repeat (first | refine blk_drewN ?_ _ | refine blk_drew ?_ | refine blk_alloc ?_ _)); exact BK364.out⟩, ⟨by (with_reducible repeat (first | refine blk_drewN ?_ _ | refine blk_drew ?_ | refine blk_alloc ?_ _)); exact BK370.out⟩, ⟨by repeat (first | (with_reducible first | exact HB.out | apply below_alloc | apply pw_below_drewN | apply below_drew1 | refine below_set ?_ GE364.out | refine below_set ?_ GE370.out) | exact HB.out)⟩⟩
                    case rest =>
                      clear HC81
                      try clear c1
                      try clear c2
                      try clear c2b0
                      try clear c2b1
                      try clear p2
                      try clear q2
                      try clear c3
                      try clear c3b0
                      try clear c3b1
                      try clear p3
                      try clear q3
                      try clear hx3
                      try clear qi3
                      try clear c4
                      try clear q4
                      try clear c5
                      try clear c6
                      try clear c6b0
                      try clear c6b1
                      try clear p6
                      try clear c7
                      try clear c8
                      try clear c10
                      try clear c11
                      try clear c15
                      try clear c18
                      try clear c22
                      try clear q22
                      try clear c34
                      try clear c35
                      try clear p35
                      try clear q35
                      try clear hx35
                      try clear qi35
                      try clear c36
                      try clear p36
                      try clear q36
                      try clear hx36
                      try clear qi36
                      try clear c37
                      try clear c40
                      try clear c41
                      try clear q41
                      try clear c48
                      try clear c48b0
                      try clear c48b1
                      try clear c49
                      try clear c52
                      try clear c53
                      try clear c57
                      try clear c57b0
                      try clear c60
                      try clear c61
                      try clear p64
                      try clear c69
                      try clear c76
                      try clear c82
                      try clear c82b0
                      try clear c82b1
                      try clear c83
                      try clear c88
                      try clear c89
                      try clear hcz13_0
                      try clear hcz13_1
                      try clear hcz19_0
                      try clear hcz19_1
                      try clear hcz23_0
                      try clear hcz23_1
                      try clear hcz24_0
                      try clear hcz24_1
                      try clear hcz32_0
                      try clear hcz32_1
                      try clear hcz38_0
                      try clear hcz38_1
                      try clear hcz42_0
                      try clear hcz42_1
                      try clear hcz43_0
                      try clear hcz43_1
                      try clear hcz45_0
                      try clear hcz45_1
                      try clear hcz46_0
                      try clear hcz46_1
                      try clear hcz50_0
                      try clear hcz50_1
                      try clear hcz54_0
                      try clear hcz54_1
                      try clear hcz55_0
                      try clear hcz55_1
                      try clear hcz56_0
                      try clear hcz56_1
                      try clear hcz62_0
                      try clear hcz62_1
                      try clear hcz63_0
                      try clear hcz63_1
                      try clear hcz70_0
                      try clear hcz70_1
                      try clear hcz71_0
                      try clear hcz71_1
                      try clear hcz76_0
                      try clear hcz76_1
                      try clear hcz84_0
                      try clear hcz84_1
                      try clear hcz85_0
                      try clear hcz85_1
                      try clear hcz89_0
                      try clear hcz89_1
                      try clear hcz90_0
                      try clear hcz90_1
                      try clear hfz13_0
                      try clear hfz13_1
                      try clear hfz19_0
                      try clear hfz19_1
                      try clear hfz23_0
                      try clear hfz23_1
                      try clear hfz24_0
                      try clear hfz24_1
                      try clear hfz32_0
                      try clear hfz32_1
                      try clear hfz38_0
                      try clear hfz38_1
                      try clear hfz42_0
                      try clear hfz42_1
                      try clear hfz43_0
                      try clear hfz43_1
                      try clear hfz45_0
                      try clear hfz45_1
                      try clear hfz46_0
                      try clear hfz46_1
                      try clear hfz50_0
                      try clear hfz50_1
                      try clear hfz54_0
                      try clear hfz54_1
                      try clear hfz55_0
                      try clear hfz55_1
                      try clear hfz56_0
                      try clear hfz56_1
                      try clear hfz62_0
                      try clear hfz62_1
                      try clear hfz63_0
                      try clear hfz63_1
                      try clear hfz70_0
                      try clear hfz70_1
                      try clear hfz71_0
                      try clear hfz71_1
                      try clear hfz76_0
                      try clear hfz76_1
                      try clear hfz84_0
                      try clear hfz84_1
                      try clear hfz85_0
                      try clear hfz85_1
                      try clear hfz89_0
                      try clear hfz89_1
                      try clear hfz90_0
                      try clear hfz90_1
                      try clear hx359_0
                      try clear hx359_1
                      try clear hx359_2
                      try clear hx359_3
                      try clear hx365_0
                      try clear hx365_1
                      try clear hx365_2
                      try clear hx365_3
                      try clear p2
                      try clear p3
                      try clear p35
                      try clear p359
                      try clear p36
                      try clear p365
                      try clear q2
                      try clear q22
                      try clear q3
                      try clear q35
                      try clear q359
                      try clear q36
                      try clear q365
                      try clear q4
                      try clear q41
                      obtain ⟨kq, x68_80, rfl, HA, HJ80, HO_0, HO_4, HO_365001, HO_371001, BK364, BK370, HB⟩ := hcut
                      cases kq with
                      | zero => exact absurd HA.out (by simp [elenchusref04_solve.j2])
                      | succ kj80 =>
                        have H := HA.out
                        clear HA
                        simp only [elenchusref04_solve.j2] at H
                        by_cases c91 : x68_80 = true
                        · subst c91
                          have H1 : (some (([] : List (S60)), false)) = some (r1, r2) := by rw [if_pos rfl] at H; exact H
                          clear H
                          have H := H1
                          clear H1
                          simp only [Option.some.injEq, Prod.mk.injEq] at H
                          obtain ⟨rfl, rfl⟩ := H
                          go_wp2
                          go_ret2
                          exact ⟨_, by first | rfl | (simp [errW_none, errW_some] <;> rfl) | (simp [*, errW_none, errW_some] <;> rfl), by first | exact Kd.R_nil _ _ _ _ _ | exact Kd.N_nil _ _ _ _ _ | exact Kd.V_nil _ _ _ _ _ | exact Kd.Q_nil _ _ _ _ _ | exact Kd.S_nil _ _ _ _ _, by repeat (first | (with_reducible first | exact HB.out | apply below_alloc | apply pw_below_drewN | apply below_drew1 | refine below_set ?_ GE364.out | refine below_set ?_ GE370.out) | exact HB.out)⟩
                        · replace c91 := Bool.eq_false_iff.mpr c91
                          subst c91
                          have H1 : (elenchusref04_solve.l1 kj80 y371 x4_1 ([] : List (S135)) 0 x365000_26 x365001_26 x371000_26 x371001_26) = some (r1, r2) := by rw [if_neg (show ¬ (false = true) by decide)] at H; exact H
                          clear H
                          have H := H1
                          clear H1
                          have H' := Aside0.mk H
                          clear H
                          go_wp2
                          go_loopg [10, 11] kj80 (fun kq v10 v11 w' => ∃ (x10_4 : List (S135)) (x11_4 : Int), v11 = .int .i64 x11_4 ∧ Aside0 (elenchusref04_solve.l1 kq y371 x4_1 x10_4 x11_4 x365000_26 x365001_26 x371000_26 x371001_26 = some (r1, r2)) ∧ Aside0 (kq ≤ kj80) ∧ Aside0 (Kd.V k135 135 w' w.heap.size (fun k_ => (P0_ k_ ∨ w.heap.size ≤ k_) ∧ some k_ ≠ (v10 : Value).ownBlock ∧ k_ ≠ gb364 ∧ k_ ≠ gb370) (.slice A41 y371.length c41) y371) ∧ Aside0 (Kd.N k60 60 w' w.heap.size (fun k_ => (P0_ k_ ∨ w.heap.size ≤ k_) ∧ some k_ ≠ (v10 : Value).ownBlock ∧ k_ ≠ gb364 ∧ k_ ≠ gb370) (.slice Ao29 x4_1.length co29) x4_1) ∧ Aside0 (Kd.N k135 135 w' w.heap.size (fun k_ => (P0_ k_ ∨ w.heap.size ≤ k_) ∧ k_ ≠ gb364 ∧ k_ ≠ gb370) v10 x10_4) ∧ Aside0 (Kd.V k25 25 w' w.heap.size (fun k_ => (P0_ k_ ∨ w.heap.size ≤ k_) ∧ some k_ ≠ (v10 : Value).ownBlock ∧ k_ ≠ gb364 ∧ k_ ≠ gb370) u365001 x365001_26) ∧ Aside0 (Kd.V k25 25 w' w.heap.size (fun k_ => (P0_ k_ ∨ w.heap.size ≤ k_) ∧ some k_ ≠ (v10 : Value).ownBlock ∧ k_ ≠ gb364 ∧ k_ ≠ gb370) u371001 x371001_26) ∧ Aside0 (w'.heap[gb364]? = some (.cells #[.int .i64 x365000_26, u365001] 25 (0, 0))) ∧ Aside0 (w'.heap[gb370]? = some (.cells #[.int .i64 x371000_26, u371001] 25 (0, 0))) ∧ Aside0 (Below w.heap.size w w'))
                          case atStart => exact ⟨(([] : List (S135))), (0), (by first | rfl | (simp; done) | (simp [*]; done)), H', ⟨Nat.le_refl _⟩, ⟨by (with_reducible repeat (first | apply Kd.V_alloc | apply Kd.V_drewN | apply Kd.V_drew)); exact Kd.V_mono HO_0.out (fun _ hk => ⟨hk.1, ⟨(by simp [Value.ownBlock]), ⟨hk.2.1, hk.2.2⟩⟩⟩)⟩, ⟨by (with_reducible repeat (first | apply Kd.N_alloc | apply Kd.N_drewN | apply Kd.N_drew)); exact Kd.N_mono HO_4.out (fun _ hk => ⟨hk.1, ⟨(by simp [Value.ownBlock]), ⟨hk.2.1, hk.2.2⟩⟩⟩)⟩, ⟨by first | exact Kd.R_nil _ _ _ _ _ | exact Kd.N_nil _ _ _ _ _ | exact Kd.V_nil _ _ _ _ _ | exact Kd.Q_nil _ _ _ _ _ | exact Kd.S_nil _ _ _ _ _⟩, ⟨by (with_reducible repeat (first | apply Kd.V_alloc | apply Kd.V_drewN | apply Kd.V_drew)); exact Kd.V_mono HO_365001.out (fun _ hk => ⟨hk.1, ⟨(by simp [Value.ownBlock]), ⟨hk.2.1, hk.2.2⟩⟩⟩)⟩, ⟨by (with_reducible repeat (first | apply Kd.V_alloc | apply Kd.V_drewN | apply Kd.V_drew)); exact Kd.V_mono HO_371001.out (fun _ hk => ⟨hk.1, ⟨(by simp [Value.ownBlock]), ⟨hk.2.1, hk.2.2⟩⟩⟩)⟩, ⟨by (with_reducible repeat (first | refine blk_drewN ?_ _ | refine blk_drew ?_ | refine blk_alloc ?_ _)); exact BK364.out⟩, ⟨by (with_reducible repeat (first | refine blk_drewN ?_ _ | refine blk_drew ?_ | refine blk_alloc ?_ _)); exact BK370.out⟩, ⟨by repeat (first | (with_reducible first | exact HB.out | apply below_alloc | apply pw_below_drewN | apply below_drew1 | refine below_set ?_ GE364.out | refine below_set ?_ GE370.out) | exact HB.out)⟩⟩
                          case round =>
                            clear H'
                            try clear c1
                            try clear c2
                            try clear c2b0
                            try clear c2b1
                            try clear p2
                            try clear q2
                            try clear c3
                            try clear c3b0
                            try clear c3b1
                            try clear p3
                            try clear q3
                            try clear hx3
                            try clear qi3
                            try clear c4
                            try clear q4
                            try clear c5
                            try clear c6
                            try clear c6b0
                            try clear c6b1
                            try clear p6
                            try clear c7
                            try clear c8
                            try clear c9
                            try clear c10
                            try clear c11
                            try clear c15
                            try clear c18
                            try clear c22
                            try clear q22
                            try clear c34
                            try clear c35
                            try clear p35
                            try clear q35
                            try clear hx35
                            try clear qi35
                            try clear c36
                            try clear p36
                            try clear q36
                            try clear hx36
                            try clear qi36
                            try clear c37
                            try clear c40
                            try clear c41
                            try clear q41
                            try clear c48
                            try clear c48b0
                            try clear c48b1
                            try clear c49
                            try clear c52
                            try clear c53
                            try clear c57
                            try clear c57b0
                            try clear c60
                            try clear c61
                            try clear p64
                            try clear c69
                            try clear c76
                            try clear c82
                            try clear c82b0
                            try clear c82b1
                            try clear c83
                            try clear c88
                            try clear c89
                            try clear c91
                            try clear hcz13_0
                            try clear hcz13_1
                            try clear hcz19_0
                            try clear hcz19_1
                            try clear hcz23_0
                            try clear hcz23_1
                            try clear hcz24_0
                            try clear hcz24_1
                            try clear hcz32_0
                            try clear hcz32_1
                            try clear hcz38_0
                            try clear hcz38_1
                            try clear hcz42_0
                            try clear hcz42_1
                            try clear hcz43_0
                            try clear hcz43_1
                            try clear hcz45_0
                            try clear hcz45_1
                            try clear hcz46_0
                            try clear hcz46_1
                            try clear hcz50_0
                            try clear hcz50_1
                            try clear hcz54_0
                            try clear hcz54_1
                            try clear hcz55_0
                            try clear hcz55_1
                            try clear hcz56_0
                            try clear hcz56_1
                            try clear hcz62_0
                            try clear hcz62_1
                            try clear hcz63_0
                            try clear hcz63_1
                            try clear hcz70_0
                            try clear hcz70_1
                            try clear hcz71_0
                            try clear hcz71_1
                            try clear hcz76_0
                            try clear hcz76_1
                            try clear hcz84_0
                            try clear hcz84_1
                            try clear hcz85_0
                            try clear hcz85_1
                            try clear hcz89_0
                            try clear hcz89_1
                            try clear hcz90_0
                            try clear hcz90_1
                            try clear hfz13_0
                            try clear hfz13_1
                            try clear hfz19_0
                            try clear hfz19_1
                            try clear hfz23_0
                            try clear hfz23_1
                            try clear hfz24_0
                            try clear hfz24_1
                            try clear hfz32_0
                            try clear hfz32_1
                            try clear hfz38_0
                            try clear hfz38_1
                            try clear hfz42_0
                            try clear hfz42_1
                            try clear hfz43_0
                            try clear hfz43_1
                            try clear hfz45_0
                            try clear hfz45_1
                            try clear hfz46_0
                            try clear hfz46_1
                            try clear hfz50_0
                            try clear hfz50_1
                            try clear hfz54_0
                            try clear hfz54_1
                            try clear hfz55_0
                            try clear hfz55_1
                            try clear hfz56_0
                            try clear hfz56_1
                            try clear hfz62_0
                            try clear hfz62_1
                            try clear hfz63_0
                            try clear hfz63_1
                            try clear hfz70_0
                            try clear hfz70_1
                            try clear hfz71_0
                            try clear hfz71_1
                            try clear hfz76_0
                            try clear hfz76_1
                            try clear hfz84_0
                            try clear hfz84_1
                            try clear hfz85_0
                            try clear hfz85_1
                            try clear hfz89_0
                            try clear hfz89_1
                            try clear hfz90_0
                            try clear hfz90_1
                            try clear hx359_0
                            try clear hx359_1
                            try clear hx359_2
                            try clear hx359_3
                            try clear hx365_0
                            try clear hx365_1
                            try clear hx365_2
                            try clear hx365_3
                            try clear p2
                            try clear p3
                            try clear p35
                            try clear p359
                            try clear p36
                            try clear p365
                            try clear p6
                            try clear p64
                            try clear q2
                            try clear q22
                            try clear q3
                            try clear q35
                            try clear q359
                            try clear q36
                            try clear q365
                            try clear q4
                            try clear q41
                            obtain ⟨x10_4, x11_4, rfl, HA, HK4, HO_0, HO_4, HO_10, HO_365001, HO_371001, BK364, BK370, HB⟩ := hrel
                            cases gk with
                            | zero => exact absurd HA.out (by simp [elenchusref04_solve.l1])
                            | succ k4 =>
                              have H := HA.out
                              clear HA
                              simp only [elenchusref04_solve.l1] at H
                              by_cases c92 : x11_4 < (x365001_26.length : Int)
                              · rw [if_pos c92] at H
                                have c92b0 : decide (x11_4 < (x365001_26.length : Int)) = true := decide_eq_true c92
                                clear c92
                                by_cases c93 : 0 ≤ x11_4
                                · rw [if_pos c93] at H
                                  have c93b0 : decide (0 ≤ x11_4) = true := decide_eq_true c93
                                  clear c93
                                  by_cases c94 : x11_4 < (x371001_26.length : Int)
                                  · rw [if_pos c94] at H
                                    have c94b0 : decide (x11_4 < (x371001_26.length : Int)) = true := decide_eq_true c94
                                    clear c94
                                    by_cases c95 : x10_4.length < 2199023255552
                                    · rw [if_pos c95] at H
                                      have LMc95 := Aside0.mk c95
                                      clear c95
                                      obtain ⟨y391, hy391⟩ : ∃ y_ : List (S135), y_ = (x10_4 ++ [(⟨(⟨(rd_T25 x365001_26 x11_4).f0, (rd_T25 x365001_26 x11_4).f1⟩ : S25), (⟨(rd_T25 x371001_26 x11_4).f0, (rd_T25 x371001_26 x11_4).f1⟩ : S25)⟩ : S135)]) := ⟨_, rfl⟩
                                      replace H : (elenchusref04_solve.l1 k4 y371 x4_1 y391 (wrap64 (x11_4 + 1)) x365000_26 x365001_26 x371000_26 x371001_26) = some (r1, r2) := by first | (rw [hy391]; with_reducible exact H) | (have H2_ := (Option.bind_some _ _).symm.trans H; rw [hy391]; with_reducible exact H2_) | (have H2_ := (Option.bind_some _ _).symm.trans H; with_reducible exact H2_) | with_reducible exact H | (rw [hy391]; exact H) | exact H
                                      have Ny391 := Aside0.mk hy391
                                      clear hy391
                                      have H' := Aside0.mk H
                                      clear H
                                      have hnb96 := NB364_370.out
                                      have hnc96 := NB370_364.out
                                      have hcz97_0 : wr.cell? ⟨gb364, 0, none⟩ = some (.int .i64 x365000_26) := (blk_cell BK364.out 0).trans rfl
                                      have hcz97_1 : wr.cell? ⟨gb364, 1, none⟩ = some (u365001) := (blk_cell BK364.out 1).trans rfl
                                      have hfz97_0 := blk_frozen BK364.out 0
                                      have hfz97_1 := blk_frozen BK364.out 1
                                      obtain ⟨Ao98, co98, eo98⟩ := Kd.V_slice HO_365001.out
                                      subst eo98
                                      try go_wp2
                                      have n0_ := Aside0.mk (Kd.V_drew HO_0.out)
                                      have n1_ := Aside0.mk (Kd.N_drew HO_4.out)
                                      have n2_ := Aside0.mk (Kd.N_drew HO_10.out)
                                      have n3_ := Aside0.mk (Kd.V_drew HO_365001.out)
                                      have n4_ := Aside0.mk (Kd.V_drew HO_371001.out)
                                      have n5_ := Aside0.mk (blk_drew BK364.out)
                                      have n6_ := Aside0.mk (blk_drew BK370.out)
                                      have n7_ := Aside0.mk (below_drew1 HB.out)
                                      clear HO_0
                                      clear HO_4
                                      clear HO_10
                                      clear HO_365001
                                      clear HO_371001
                                      clear BK364
                                      clear BK370
                                      clear HB
                                      have HO_0 := n0_
                                      have HO_4 := n1_
                                      have HO_10 := n2_
                                      have HO_365001 := n3_
                                      have HO_371001 := n4_
                                      have BK364 := n5_
                                      have BK370 := n6_
                                      have HB := n7_
                                      clear n0_ n1_ n2_ n3_ n4_ n5_ n6_ n7_
                                      have p389 : 0 ≤ (x11_4 : Int) := of_decide_eq_true (by first | (with_reducible assumption) | assumption)
                                      have q389 : x11_4 < (x365001_26.length : Int) := of_decide_eq_true (by first | (with_reducible assumption) | assumption)
                                      obtain ⟨ad389, A389_1, c389_1, e389, hx389_0, hx389_1, hl389_1, hi389_1⟩ := at_T25 (Kd.V_reads' HO_365001.out).2.2 x11_4 p389 q389
                                      cases e389
                                      obtain ⟨ce389, hce389, hMe389, hcc389⟩ := Kd.V_get HO_365001.out z25 x11_4 p389 (by first | exact q389 | exact of_decide_eq_true (by first | (with_reducible assumption) | assumption) | (have e_ := (Kd.V_reads' HO_365001.out).1; omega))
                                      obtain ⟨ua389_1, uc389_1, rfl, ul389_1, ge389_1⟩ := k25_openF hMe389
                                      have hv389_1 := hcc389 1 _ rfl
                                      rw [add_field _ _ 1 (by omega)] at hv389_1
                                      replace hv389_1 := Option.some.inj (hv389_1.symm.trans hx389_1)
                                      injection hv389_1 with hva_ hvn_ hvc_
                                      rw [hva_] at ge389_1
                                      rw [hvc_] at ul389_1
                                      have HL389_1 := Aside0.mk (show Kd.V k25 25 _ w.heap.size _ _ ((rd_T25 x365001_26 x11_4).f1) from Kd.V_mk ul389_1 ge389_1)
                                      clear hva_ hvn_ hvc_ ge389_1 ul389_1
                                      clear hcc389 hce389
                                      have HR389_1 := Aside0.mk hi389_1
                                      have HC389_1 := Aside0.mk hl389_1
                                      clear hi389_1 hl389_1
                                      replace p389 := eq_true p389
                                      replace q389 := eq_true q389
                                      obtain ⟨Ao100, co100, eo100⟩ := Kd.V_slice HO_371001.out
                                      (first | subst eo100 | (injection eo100 with f1_ f2_ f3_; have f4_ := f1_.symm; have f5_ := f3_.symm; clear f1_ f2_ f3_; subst f4_; subst f5_))
                                      have p390 : 0 ≤ (x11_4 : Int) := of_decide_eq_true (by first | (with_reducible assumption) | assumption)
                                      have q390 : x11_4 < (x371001_26.length : Int) := of_decide_eq_true (by first | (with_reducible assumption) | assumption)
                                      obtain ⟨ad390, A390_1, c390_1, e390, hx390_0, hx390_1, hl390_1, hi390_1⟩ := at_T25 (Kd.V_reads' HO_371001.out).2.2 x11_4 p390 q390
                                      cases e390
                                      obtain ⟨ce390, hce390, hMe390, hcc390⟩ := Kd.V_get HO_371001.out z25 x11_4 p390 (by first | exact q390 | exact of_decide_eq_true (by first | (with_reducible assumption) | assumption) | (have e_ := (Kd.V_reads' HO_371001.out).1; omega))
                                      obtain ⟨ua390_1, uc390_1, rfl, ul390_1, ge390_1⟩ := k25_openF hMe390
                                      have hv390_1 := hcc390 1 _ rfl
                                      rw [add_field _ _ 1 (by omega)] at hv390_1
                                      replace hv390_1 := Option.some.inj (hv390_1.symm.trans hx390_1)
                                      injection hv390_1 with hva_ hvn_ hvc_
                                      rw [hva_] at ge390_1
                                      rw [hvc_] at ul390_1
                                      have HL390_1 := Aside0.mk (show Kd.V k25 25 _ w.heap.size _ _ ((rd_T25 x371001_26 x11_4).f1) from Kd.V_mk ul390_1 ge390_1)
                                      clear hva_ hvn_ hvc_ ge390_1 ul390_1
                                      clear hcc390 hce390
                                      have HR390_1 := Aside0.mk hi390_1
                                      have HC390_1 := Aside0.mk hl390_1
                                      clear hi390_1 hl390_1
                                      replace p390 := eq_true p390
                                      replace q390 := eq_true q390
                                      refine start_ (n := 15) (S := fun w' => w'.cell? ⟨gb364, 0, none⟩ = some (.int .i64 x365000_26) ∧ w'.cell? ⟨gb364, 1, none⟩ = some (.slice (some ad389) x365001_26.length co98) ∧ w'.cell? ⟨gb370, 0, none⟩ = some (.int .i64 x371000_26) ∧ w'.cell? ⟨gb370, 1, none⟩ = some (.slice (some ad390) x371001_26.length co100) ∧ w'.cell? (ad389.add ((x11_4).toNat * 2)) = some (.int .i64 ((rd_T25 x365001_26 x11_4).f0)) ∧ w'.cell? ⟨(ad389.add ((x11_4).toNat * 2)).block, (ad389.add ((x11_4).toNat * 2)).off + 1, none⟩ = some (.slice A389_1 ((rd_T25 x365001_26 x11_4).f1).length c389_1) ∧ w'.cell? (ad390.add ((x11_4).toNat * 2)) = some (.int .i64 ((rd_T25 x371001_26 x11_4).f0)) ∧ w'.cell? ⟨(ad390.add ((x11_4).toNat * 2)).block, (ad390.add ((x11_4).toNat * 2)).off + 1, none⟩ = some (.slice A390_1 ((rd_T25 x371001_26 x11_4).f1).length c390_1)) (ds := [12, 13]) #[false, false, false, false, false, false, false, false, false, false, false, false, false, false, false] (by kernel_rfl) rfl rfl ⟨(blk_cell BK364.out 0).trans rfl, (blk_cell BK364.out 1).trans rfl, (blk_cell BK370.out 0).trans rfl, (blk_cell BK370.out 1).trans rfl, hx389_0, hx389_1, hx390_0, hx390_1⟩ (fun hHeld => ?_); refine with_tabW elenchusref04_solve.tab23 elenchusref04_solve.bits23 (fun HT_ HW_ => ?_)
                                      generalize wr.drew = w99 at HO_0 HO_4 HO_10 HO_365001 HO_371001 BK364 BK370 HB HL389_1 HL390_1 HR389_1 HR390_1 hx389_0 hx389_1 hx390_0 hx390_1 hHeld ⊢
                                      refine pure_ (i := 0) (N := some 76) (v := ?_) (a' := ?_) #[true, false, false, false, false, false, false, false, false, false, false, false, false, false, false] rfl rfl (any_of HT_.out (by kernel_rfl)) (fun _ _ _ h => h) (Or.inl ⟨by rfl, ?_⟩) ?_ ?_
                                      rotate_left
                                      · intro w'
                                        go_simp
                                        with_reducible rfl
                                      rotate_left
                                      · simp only [Act.put, List.setIfInBounds_toArray, List.set_cons_zero, List.set_cons_succ, i64_w, i32_w]
                                        rfl
                                      refine pure_ (i := 1) (N := some 77) (v := ?_) (a' := ?_) #[true, true, false, false, false, false, false, false, false, false, false, false, false, false, false] rfl rfl (any_of HT_.out (by kernel_rfl)) (fun _ _ _ h => h) (Or.inl ⟨by rfl, ?_⟩) ?_ ?_
                                      rotate_left
                                      · intro w'
                                        go_simp
                                        with_reducible rfl
                                      rotate_left
                                      · simp only [Act.put, List.setIfInBounds_toArray, List.set_cons_zero, List.set_cons_succ, i64_w, i32_w]
                                        rfl
                                      refine pure_ (i := 3) (N := some 79) (v := ?_) (a' := ?_) #[true, true, false, true, false, false, false, false, false, false, false, false, false, false, false] rfl rfl (any_of HT_.out (by kernel_rfl)) (fun _ _ _ h => h) (Or.inl ⟨by rfl, ?_⟩) ?_ ?_
                                      rotate_left
                                      · intro w'
                                        go_simp
                                        with_reducible rfl
                                      rotate_left
                                      · simp only [Act.put, List.setIfInBounds_toArray, List.set_cons_zero, List.set_cons_succ, i64_w, i32_w]
                                        rfl
                                      refine pure_ (i := 6) (N := some 82) (v := ?_) (a' := ?_) #[true, true, false, true, false, false, true, false, false, false, false, false, false, false, false] rfl rfl (any_of HT_.out (by kernel_rfl)) (fun _ _ _ h => h) (Or.inl ⟨by rfl, ?_⟩) ?_ ?_
                                      rotate_left
                                      · intro w'
                                        go_simp
                                        with_reducible rfl
                                      rotate_left
                                      · simp only [Act.put, List.setIfInBounds_toArray, List.set_cons_zero, List.set_cons_succ, i64_w, i32_w]
                                        rfl
                                      refine pure_ (i := 8) (N := some 84) (v := ?_) (a' := ?_) #[true, true, false, true, false, false, true, false, true, false, false, false, false, false, false] rfl rfl (any_of HT_.out (by kernel_rfl)) (fun _ _ _ h => h) (Or.inl ⟨by rfl, ?_⟩) ?_ ?_
                                      rotate_left
                                      · intro w'
                                        go_simp
                                        with_reducible rfl
                                      rotate_left
                                      · simp only [Act.put, List.setIfInBounds_toArray, List.set_cons_zero, List.set_cons_succ, i64_w, i32_w]
                                        rfl
                                      refine take_ (i := 2) (N := some 78) (v := ?_) (a' := ?_) #[true, true, true, true, false, false, true, false, true, false, false, false, false, false, false] rfl rfl (take_ofW HT_.out HW_.out (by kernel_rfl)) (fun _ _ _ h => h) (Or.inl ⟨by rfl, ?_⟩) hHeld ?_ ?_
                                      rotate_left
                                      · rintro w' ⟨s0, s1, s2, s3, s4, s5, s6, s7⟩
                                        go_simp
                                        with_reducible rfl
                                      rotate_left
                                      · simp only [Act.put, List.setIfInBounds_toArray, List.set_cons_zero, List.set_cons_succ, i64_w, i32_w]
                                        rfl
                                      refine pure_ (i := 4) (N := some 80) (v := ?_) (a' := ?_) #[true, true, true, true, true, false, true, false, true, false, false, false, false, false, false] rfl rfl (any_of HT_.out (by kernel_rfl)) (fun _ _ _ h => h) (Or.inl ⟨by rfl, ?_⟩) ?_ ?_
                                      rotate_left
                                      · intro w'
                                        go_simp
                                        with_reducible rfl
                                      rotate_left
                                      · simp only [Act.put, List.setIfInBounds_toArray, List.set_cons_zero, List.set_cons_succ, i64_w, i32_w]
                                        rfl
                                      refine take_ (i := 5) (N := some 81) (v := ?_) (a' := ?_) #[true, true, true, true, true, true, true, false, true, false, false, false, false, false, false] rfl rfl (take_ofW HT_.out HW_.out (by kernel_rfl)) (fun _ _ _ h => h) (Or.inl ⟨by rfl, ?_⟩) hHeld ?_ ?_
                                      rotate_left
                                      · rintro w' ⟨s0, s1, s2, s3, s4, s5, s6, s7⟩
                                        go_simp
                                        with_reducible rfl
                                      rotate_left
                                      · simp only [Act.put, List.setIfInBounds_toArray, List.set_cons_zero, List.set_cons_succ, i64_w, i32_w]
                                        rfl
                                      refine take_ (i := 7) (N := some 83) (v := ?_) (a' := ?_) #[true, true, true, true, true, true, true, true, true, false, false, false, false, false, false] rfl rfl (take_ofW HT_.out HW_.out (by kernel_rfl)) (fun _ _ _ h => h) (Or.inl ⟨by rfl, ?_⟩) hHeld ?_ ?_
                                      rotate_left
                                      · rintro w' ⟨s0, s1, s2, s3, s4, s5, s6, s7⟩
                                        go_simp
                                        with_reducible rfl
                                      rotate_left
                                      · simp only [Act.put, List.setIfInBounds_toArray, List.set_cons_zero, List.set_cons_succ, i64_w, i32_w]
                                        rfl
                                      refine pure_ (i := 9) (N := some 85) (v := ?_) (a' := ?_) #[true, true, true, true, true, true, true, true, true, true, false, false, false, false, false] rfl rfl (any_of HT_.out (by kernel_rfl)) (fun _ _ _ h => h) (Or.inl ⟨by rfl, ?_⟩) ?_ ?_
                                      rotate_left
                                      · intro w'
                                        go_simp
                                        with_reducible rfl
                                      rotate_left
                                      · simp only [Act.put, List.setIfInBounds_toArray, List.set_cons_zero, List.set_cons_succ, i64_w, i32_w]
                                        rfl
                                      refine take_ (i := 10) (N := some 86) (v := ?_) (a' := ?_) #[true, true, true, true, true, true, true, true, true, true, true, false, false, false, false] rfl rfl (take_ofW HT_.out HW_.out (by kernel_rfl)) (fun _ _ _ h => h) (Or.inl ⟨by rfl, ?_⟩) hHeld ?_ ?_
                                      rotate_left
                                      · rintro w' ⟨s0, s1, s2, s3, s4, s5, s6, s7⟩
                                        go_simp
                                        with_reducible rfl
                                      rotate_left
                                      · simp only [Act.put, List.setIfInBounds_toArray, List.set_cons_zero, List.set_cons_succ, i64_w, i32_w]
                                        rfl
                                      refine pure_ (i := 11) (N := some 87) (v := ?_) (a' := ?_) #[true, true, true, true, true, true, true, true, true, true, true, true, false, false, false] rfl rfl (any_of HT_.out (by kernel_rfl)) (fun _ _ _ h => h) (Or.inl ⟨by rfl, ?_⟩) ?_ ?_
                                      rotate_left
                                      · intro w'
                                        go_simp
                                        with_reducible rfl
                                      rotate_left
                                      · simp only [Act.put, List.setIfInBounds_toArray, List.set_cons_zero, List.set_cons_succ, i64_w, i32_w]
                                        rfl
                                      refine last_ (i := 12) (N := some 88) #[true, true, true, true, true, true, true, true, true, true, true, true, true, false, false] rfl rfl (one_of HT_.out (by kernel_rfl)) (by decide) (fun K hK => ?_)
                                      refine value_ (w1 := ?_) (v := ?_) (by rfl) rfl ?_ ?_
                                      rotate_left 2
                                      · go_simp
                                        constructor
                                        · rfl
                                        · rfl
                                      refine hK.out _ _ ?_
                                      clear hK K
                                      refine norm_ (a' := ?_) ?_ ?_
                                      rotate_left
                                      · show Act.put _ (some 88) _ = _
                                        simp only [Act.put, List.setIfInBounds_toArray, List.set_cons_zero, List.set_cons_succ, i64_w, i32_w]
                                        rfl
                                      refine last_ (i := 13) (N := some 89) #[true, true, true, true, true, true, true, true, true, true, true, true, true, true, false] rfl rfl (one_of HT_.out (by kernel_rfl)) (by decide) (fun K hK => ?_)
                                      refine Kd.N_append_step k135 (w0 := w) w.heap.size (by rfl) (.tmp 76) (.tmp 88) 133 135 (.agg #[(.int .i64 0), (.slice none 0 0), (.int .i64 0), (.slice none 0 0)]) 64 rfl Try.underlying133 info135 rfl (by decide) (by omega) u10 x10_4 (⟨(⟨(rd_T25 x365001_26 x11_4).f0, (rd_T25 x365001_26 x11_4).f1⟩ : S25), (⟨(rd_T25 x371001_26 x11_4).f0, (rd_T25 x371001_26 x11_4).f1⟩ : S25)⟩ : S135) [.int .i64 ((rd_T25 x365001_26 x11_4).f0), .slice A389_1 ((rd_T25 x365001_26 x11_4).f1).length c389_1, .int .i64 ((rd_T25 x371001_26 x11_4).f0), .slice A390_1 ((rd_T25 x371001_26 x11_4).f1).length c390_1] (fun k_ => (P0_ k_ ∨ w.heap.size ≤ k_) ∧ k_ ≠ gb364 ∧ k_ ≠ gb370) (fun k_ => ((fun k_ => (P0_ k_ ∨ w.heap.size ≤ k_) ∧ k_ ≠ gb364 ∧ k_ ≠ gb370)) k_ ∧ some k_ ≠ (u10 : Value).ownBlock) rfl rfl ?aP (fun _ hk => hk) ?aF ?aO ?aB ?aS ?aL ?_
                                      (case aP => exact (k135_mkF _ _ (⟨(⟨(rd_T25 x365001_26 x11_4).f0, (rd_T25 x365001_26 x11_4).f1⟩ : S25), (⟨(rd_T25 x371001_26 x11_4).f0, (rd_T25 x371001_26 x11_4).f1⟩ : S25)⟩ : S135) (Kd.V_reads' (Kd.V_mono (ok' := (fun k_ => ((fun k_ => (P0_ k_ ∨ w.heap.size ≤ k_) ∧ k_ ≠ gb364 ∧ k_ ≠ gb370)) k_ ∧ some k_ ≠ (u10 : Value).ownBlock)) (HL389_1.out) (fun k_ hk => ⟨⟨hk.1, ⟨hk.2.2.1, hk.2.2.2⟩⟩, hk.2.1⟩))).2.1 (Kd.V_F (Kd.V_mono (ok' := (fun k_ => ((fun k_ => (P0_ k_ ∨ w.heap.size ≤ k_) ∧ k_ ≠ gb364 ∧ k_ ≠ gb370)) k_ ∧ some k_ ≠ (u10 : Value).ownBlock)) (HL389_1.out) (fun k_ hk => ⟨⟨hk.1, ⟨hk.2.2.1, hk.2.2.2⟩⟩, hk.2.1⟩))) (Kd.V_reads' (Kd.V_mono (ok' := (fun k_ => ((fun k_ => (P0_ k_ ∨ w.heap.size ≤ k_) ∧ k_ ≠ gb364 ∧ k_ ≠ gb370)) k_ ∧ some k_ ≠ (u10 : Value).ownBlock)) (HL390_1.out) (fun k_ hk => ⟨⟨hk.1, ⟨hk.2.2.1, hk.2.2.2⟩⟩, hk.2.1⟩))).2.1 (Kd.V_F (Kd.V_mono (ok' := (fun k_ => ((fun k_ => (P0_ k_ ∨ w.heap.size ≤ k_) ∧ k_ ≠ gb364 ∧ k_ ≠ gb370)) k_ ∧ some k_ ≠ (u10 : Value).ownBlock)) (HL390_1.out) (fun k_ hk => ⟨⟨hk.1, ⟨hk.2.2.1, hk.2.2.2⟩⟩, hk.2.1⟩)))))
                                      (case aB => exact (by repeat (first | (with_reducible first | exact HB.out | apply below_alloc | apply pw_below_drewN | apply below_drew1 | refine below_set ?_ GE364.out | refine below_set ?_ GE370.out) | exact HB.out)))
                                      (case aF => exact (fun k_ hk => ⟨(.inr (Nat.le_trans (below_size (by repeat (first | (with_reducible first | exact HB.out | apply below_alloc | apply pw_below_drewN | apply below_drew1 | refine below_set ?_ GE364.out | refine below_set ?_ GE370.out) | exact HB.out))) hk)), Kd.freshB (g := gb364) (o := .cells #[.int .i64 x365000_26, .slice (some ad389) x365001_26.length co98] 25 (0, 0)) (by (with_reducible repeat (first | refine blk_drewN ?_ _ | refine blk_drew ?_ | refine blk_alloc ?_ _)); exact BK364.out) k_ hk, Kd.freshB (g := gb370) (o := .cells #[.int .i64 x371000_26, .slice (some ad390) x371001_26.length co100] 25 (0, 0)) (by (with_reducible repeat (first | refine blk_drewN ?_ _ | refine blk_drew ?_ | refine blk_alloc ?_ _)); exact BK370.out) k_ hk⟩))
                                      (case aO => exact (by (with_reducible repeat (first | apply Kd.N_alloc | apply Kd.N_drewN | apply Kd.N_drew)); exact HO_10.out))
                                      (case aS => exact (below_size (by repeat (first | (with_reducible first | exact HB.out | apply below_alloc | apply pw_below_drewN | apply below_drew1 | refine below_set ?_ GE364.out | refine below_set ?_ GE370.out) | exact HB.out))))
                                      (case aL => have := LMc95.out; omega)
                                      intro v392 w101 ho hb hg hat
                                      rw [← Ny391.out] at ho
                                      have n0_ := Aside0.mk (Kd.V_afterv (ok := (fun k_ => (P0_ k_ ∨ w.heap.size ≤ k_) ∧ k_ ≠ gb364 ∧ k_ ≠ gb370)) (by (with_reducible repeat (first | apply Kd.V_alloc | apply Kd.V_drewN | apply Kd.V_drew)); exact Kd.V_mono HO_0.out (fun _ hk => ⟨⟨hk.1, ⟨hk.2.2.1, hk.2.2.2⟩⟩, hk.2.1⟩)) hg hat)
                                      have n1_ := Aside0.mk (Kd.N_afterv (ok := (fun k_ => (P0_ k_ ∨ w.heap.size ≤ k_) ∧ k_ ≠ gb364 ∧ k_ ≠ gb370)) (by (with_reducible repeat (first | apply Kd.N_alloc | apply Kd.N_drewN | apply Kd.N_drew)); exact Kd.N_mono HO_4.out (fun _ hk => ⟨⟨hk.1, ⟨hk.2.2.1, hk.2.2.2⟩⟩, hk.2.1⟩)) hg hat)
                                      have n2_ := Aside0.mk (Kd.V_afterv (ok := (fun k_ => (P0_ k_ ∨ w.heap.size ≤ k_) ∧ k_ ≠ gb364 ∧ k_ ≠ gb370)) (by (with_reducible repeat (first | apply Kd.V_alloc | apply Kd.V_drewN | apply Kd.V_drew)); exact Kd.V_mono HO_365001.out (fun _ hk => ⟨⟨hk.1, ⟨hk.2.2.1, hk.2.2.2⟩⟩, hk.2.1⟩)) hg hat)
                                      have n3_ := Aside0.mk (Kd.V_afterv (ok := (fun k_ => (P0_ k_ ∨ w.heap.size ≤ k_) ∧ k_ ≠ gb364 ∧ k_ ≠ gb370)) (by (with_reducible repeat (first | apply Kd.V_alloc | apply Kd.V_drewN | apply Kd.V_drew)); exact Kd.V_mono HO_371001.out (fun _ hk => ⟨⟨hk.1, ⟨hk.2.2.1, hk.2.2.2⟩⟩, hk.2.1⟩)) hg hat)
                                      have n4_ := Aside0.mk (blk_grown (g := gb364) (o := .cells #[.int .i64 x365000_26, .slice (some ad389) x365001_26.length co98] 25 (0, 0)) (by (with_reducible repeat (first | refine blk_drewN ?_ _ | refine blk_drew ?_ | refine blk_alloc ?_ _)); exact BK364.out) hg (Kd.N_ne HO_10.out BK364.out (by decide)))
                                      have n5_ := Aside0.mk (blk_grown (g := gb370) (o := .cells #[.int .i64 x371000_26, .slice (some ad390) x371001_26.length co100] 25 (0, 0)) (by (with_reducible repeat (first | refine blk_drewN ?_ _ | refine blk_drew ?_ | refine blk_alloc ?_ _)); exact BK370.out) hg (Kd.N_ne HO_10.out BK370.out (by decide)))
                                      have n6_ := Aside0.mk (Kd.V_afterv (ok := (fun k_ => (P0_ k_ ∨ w.heap.size ≤ k_) ∧ k_ ≠ gb364 ∧ k_ ≠ gb370)) (by (with_reducible repeat (first | apply Kd.V_alloc | apply Kd.V_drewN | apply Kd.V_drew)); exact Kd.V_mono HL389_1.out (fun _ hk => ⟨⟨hk.1, ⟨hk.2.2.1, hk.2.2.2⟩⟩, hk.2.1⟩)) hg hat)
                                      have n7_ := Aside0.mk (Kd.V_afterv (ok := (fun k_ => (P0_ k_ ∨ w.heap.size ≤ k_) ∧ k_ ≠ gb364 ∧ k_ ≠ gb370)) (by (with_reducible repeat (first | apply Kd.V_alloc | apply Kd.V_drewN | apply Kd.V_drew)); exact Kd.V_mono HL390_1.out (fun _ hk => ⟨⟨hk.1, ⟨hk.2.2.1, hk.2.2.2⟩⟩, hk.2.1⟩)) hg hat)
                                      have n8_ := Aside0.mk (hb)
                                      have n9_ := Aside0.mk (ho)
                                      clear HO_0
                                      clear HO_4
                                      clear HO_365001
                                      clear HO_371001
                                      clear BK364
                                      clear BK370
                                      clear HL389_1
                                      clear HL390_1
                                      clear HB
                                      clear HO_10
                                      have HO_0 := n0_
                                      have HO_4 := n1_
                                      have HO_365001 := n2_
                                      have HO_371001 := n3_
                                      have BK364 := n4_
                                      have BK370 := n5_
                                      have HL389_1 := n6_
                                      have HL390_1 := n7_
                                      have HB := n8_
                                      have HO393 := n9_
                                      clear n0_ n1_ n2_ n3_ n4_ n5_ n6_ n7_ n8_ n9_
                                      clear ho hb hg hat
                                      refine hK.out _ _ ?_
                                      clear hK K
                                      refine norm_ (a' := ?_) ?_ ?_
                                      rotate_left
                                      · show Act.put _ (some 89) _ = _
                                        simp only [Act.put, List.setIfInBounds_toArray, List.set_cons_zero, List.set_cons_succ, i64_w, i32_w]
                                        rfl
                                      refine pure_ (i := 14) (N := some 10) (v := ?_) (a' := ?_) #[true, true, true, true, true, true, true, true, true, true, true, true, true, true, true] rfl rfl (any_of HT_.out (by kernel_rfl)) (fun _ _ _ h => h) (Or.inl ⟨by rfl, ?_⟩) ?_ ?_
                                      rotate_left
                                      · intro w'
                                        go_simp
                                        with_reducible rfl
                                      rotate_left
                                      · simp only [Act.put, List.setIfInBounds_toArray, List.set_cons_zero, List.set_cons_succ, i64_w, i32_w]
                                        rfl
                                      refine done_ (done_of HT_.out (by kernel_rfl)) ?_
                                      try go_wp2
                                      go_roundg k4
                                      case measure => have := HK1.out; have := HJ26.out; have := HJ80.out; have := HK4.out; omega
                                      case rel => exact ⟨(y391), (wrap64 (x11_4 + 1)), (by first | rfl | (simp; done) | (simp [*]; done)), H', ⟨by have := HK1.out; have := HJ26.out; have := HJ80.out; have := HK4.out; omega⟩, ⟨by (with_reducible repeat (first | apply Kd.V_alloc | apply Kd.V_drewN | apply Kd.V_drew)); exact Kd.V_mono HO_0.out (fun _ hk => ⟨hk.1.1, ⟨hk.2, ⟨hk.1.2.1, hk.1.2.2⟩⟩⟩)⟩, ⟨by (with_reducible repeat (first | apply Kd.N_alloc | apply Kd.N_drewN | apply Kd.N_drew)); exact Kd.N_mono HO_4.out (fun _ hk => ⟨hk.1.1, ⟨hk.2, ⟨hk.1.2.1, hk.1.2.2⟩⟩⟩)⟩, ⟨by (with_reducible repeat (first | apply Kd.N_alloc | apply Kd.N_drewN | apply Kd.N_drew)); exact HO393.out⟩, ⟨by (with_reducible repeat (first | apply Kd.V_alloc | apply Kd.V_drewN | apply Kd.V_drew)); exact Kd.V_mono HO_365001.out (fun _ hk => ⟨hk.1.1, ⟨hk.2, ⟨hk.1.2.1, hk.1.2.2⟩⟩⟩)⟩, ⟨by (with_reducible repeat (first | apply Kd.V_alloc | apply Kd.V_drewN | apply Kd.V_drew)); exact Kd.V_mono HO_371001.out (fun _ hk => ⟨hk.1.1, ⟨hk.2, ⟨hk.1.2.1, hk.1.2.2⟩⟩⟩)⟩, ⟨by (with_reducible repeat (first | refine blk_drewN ?_ _ | refine blk_drew ?_ | refine blk_alloc ?_ _)); exact BK364.out⟩, ⟨by (with_reducible repeat (first | refine blk_drewN ?_ _ | refine blk_drew ?_ | refine blk_alloc ?_ _)); exact BK370.out⟩, ⟨by repeat (first | (with_reducible first | exact HB.out | apply below_alloc | apply pw_below_drewN | apply below_drew1 | refine below_set ?_ GE364.out | refine below_set ?_ GE370.out) | exact HB.out)⟩⟩
                                    · rw [if_neg c95] at H
                                      exact absurd H (by simp)
                                  · rw [if_neg c94] at H
                                    exact absurd H (by simp)
                                · rw [if_neg c93] at H
                                  exact absurd H (by simp)
                              · rw [if_neg c92] at H
                                have c92b0 : decide (x11_4 < (x365001_26.length : Int)) = false := decide_eq_false c92
                                clear c92
                                by_cases c102 : x10_4.length + y371.length < 2199023255552
                                · rw [if_pos c102] at H
                                  have LMc102 := Aside0.mk c102
                                  clear c102
                                  obtain ⟨y394, hy394⟩ : ∃ y_ : List (S135), y_ = (x10_4 ++ y371) := ⟨_, rfl⟩
                                  replace H : (elenchusref04_solve.l0 k4 y394 x4_1) = some (r1, r2) := by first | (rw [hy394]; with_reducible exact H) | (have H2_ := (Option.bind_some _ _).symm.trans H; rw [hy394]; with_reducible exact H2_) | (have H2_ := (Option.bind_some _ _).symm.trans H; with_reducible exact H2_) | with_reducible exact H | (rw [hy394]; exact H) | exact H
                                  have Ny394 := Aside0.mk hy394
                                  clear hy394
                                  have H' := Aside0.mk H
                                  clear H
                                  have hnb103 := NB364_370.out
                                  have hnc103 := NB370_364.out
                                  have hcz104_0 : wr.cell? ⟨gb364, 0, none⟩ = some (.int .i64 x365000_26) := (blk_cell BK364.out 0).trans rfl
                                  have hcz104_1 : wr.cell? ⟨gb364, 1, none⟩ = some (u365001) := (blk_cell BK364.out 1).trans rfl
                                  have hfz104_0 := blk_frozen BK364.out 0
                                  have hfz104_1 := blk_frozen BK364.out 1
                                  obtain ⟨Ao105, co105, eo105⟩ := Kd.V_slice HO_365001.out
                                  subst eo105
                                  go_wp2_with (first | ((with_reducible refine gate_builtin (b := .append) (xs := #[.tmp 90, .tmp 91]) rfl ?_); (try (refine gate_guard (by rfl) ?_; dsimp only)); at_builtin; refine Kd.N_append_rows k135 (w0 := w) w.heap.size rfl (.tmp 90) (.tmp 91) 133 135 (.agg #[(.int .i64 0), (.slice none 0 0), (.int .i64 0), (.slice none 0 0)]) 64 rfl Try.underlying133 info135 rfl (by decide) (by omega) u10 x10_4 y371 _ _ _ (fun k_ => (P0_ k_ ∨ w.heap.size ≤ k_) ∧ k_ ≠ gb364 ∧ k_ ≠ gb370) (fun k_ => ((fun k_ => (P0_ k_ ∨ w.heap.size ≤ k_) ∧ k_ ≠ gb364 ∧ k_ ≠ gb370)) k_ ∧ some k_ ≠ (u10 : Value).ownBlock) rfl rfl ?aO ?aR (fun _ hk => hk) ?aF ?aB ?aS ?aL ?_; (case aR => exact (by skip; exact Kd.V_F (Kd.V_mono (ok' := (fun k_ => ((fun k_ => (P0_ k_ ∨ w.heap.size ≤ k_) ∧ k_ ≠ gb364 ∧ k_ ≠ gb370)) k_ ∧ some k_ ≠ (u10 : Value).ownBlock)) (HO_0.out) (fun k_ hk => ⟨⟨hk.1, ⟨hk.2.2.1, hk.2.2.2⟩⟩, hk.2.1⟩)))); (case aB => exact (by repeat (first | (with_reducible first | exact HB.out | apply below_alloc | apply pw_below_drewN | apply below_drew1 | refine below_set ?_ GE364.out | refine below_set ?_ GE370.out) | exact HB.out))); (case aF => exact (fun k_ hk => ⟨(.inr (Nat.le_trans (below_size (by repeat (first | (with_reducible first | exact HB.out | apply below_alloc | apply pw_below_drewN | apply below_drew1 | refine below_set ?_ GE364.out | refine below_set ?_ GE370.out) | exact HB.out))) hk)), Kd.freshB (g := gb364) (o := .cells #[.int .i64 x365000_26, .slice Ao105 x365001_26.length co105] 25 (0, 0)) (by (with_reducible repeat (first | refine blk_drewN ?_ _ | refine blk_drew ?_ | refine blk_alloc ?_ _)); exact BK364.out) k_ hk, Kd.freshB (g := gb370) (o := .cells #[.int .i64 x371000_26, u371001] 25 (0, 0)) (by (with_reducible repeat (first | refine blk_drewN ?_ _ | refine blk_drew ?_ | refine blk_alloc ?_ _)); exact BK370.out) k_ hk⟩)); (case aO => exact (by (with_reducible repeat (first | apply Kd.N_alloc | apply Kd.N_drewN | apply Kd.N_drew)); exact HO_10.out)); (case aS => exact (below_size (by repeat (first | (with_reducible first | exact HB.out | apply below_alloc | apply pw_below_drewN | apply below_drew1 | refine below_set ?_ GE364.out | refine below_set ?_ GE370.out) | exact HB.out)))); (case aL => have := LMc102.out; omega); intro v395 w106 ho hb hg hat; rw [← Ny394.out] at ho; have n0_ := Aside0.mk (Kd.V_afterv (ok := (fun k_ => (P0_ k_ ∨ w.heap.size ≤ k_) ∧ k_ ≠ gb364 ∧ k_ ≠ gb370)) (by (with_reducible repeat (first | apply Kd.V_alloc | apply Kd.V_drewN | apply Kd.V_drew)); exact Kd.V_mono HO_0.out (fun _ hk => ⟨⟨hk.1, ⟨hk.2.2.1, hk.2.2.2⟩⟩, hk.2.1⟩)) hg hat); have n1_ := Aside0.mk (Kd.N_afterv (ok := (fun k_ => (P0_ k_ ∨ w.heap.size ≤ k_) ∧ k_ ≠ gb364 ∧ k_ ≠ gb370)) (by (with_reducible repeat (first | apply Kd.N_alloc | apply Kd.N_drewN | apply Kd.N_drew)); exact Kd.N_mono HO_4.out (fun _ hk => ⟨⟨hk.1, ⟨hk.2.2.1, hk.2.2.2⟩⟩, hk.2.1⟩)) hg hat); have n2_ := Aside0.mk (Kd.V_afterv (ok := (fun k_ => (P0_ k_ ∨ w.heap.size ≤ k_) ∧ k_ ≠ gb364 ∧ k_ ≠ gb370)) (by (with_reducible repeat (first | apply Kd.V_alloc | apply Kd.V_drewN | apply Kd.V_drew)); exact Kd.V_mono HO_365001.out (fun _ hk => ⟨⟨hk.1, ⟨hk.2.2.1, hk.2.2.2⟩⟩, hk.2.1⟩)) hg hat); have n3_ := Aside0.mk (Kd.V_afterv (ok := (fun k_ => (P0_ k_ ∨ w.heap.size ≤ k_) ∧ k_ ≠ gb364 ∧ k_ ≠ gb370)) (by (with_reducible repeat (first | apply Kd.V_alloc | apply Kd.V_drewN | apply Kd.V_drew)); exact Kd.V_mono HO_371001.out (fun _ hk => ⟨⟨hk.1, ⟨hk.2.2.1, hk.2.2.2⟩⟩, hk.2.1⟩)) hg hat); have n4_ := Aside0.mk (blk_grown (g := gb364) (o := .cells #[.int .i64 x365000_26, .slice Ao105 x365001_26.length co105] 25 (0, 0)) (by (with_reducible repeat (first | refine blk_drewN ?_ _ | refine blk_drew ?_ | refine blk_alloc ?_ _)); exact BK364.out) hg (Kd.N_ne HO_10.out BK364.out (by decide))); have n5_ := Aside0.mk (blk_grown (g := gb370) (o := .cells #[.int .i64 x371000_26, u371001] 25 (0, 0)) (by (with_reducible repeat (first | refine blk_drewN ?_ _ | refine blk_drew ?_ | refine blk_alloc ?_ _)); exact BK370.out) hg (Kd.N_ne HO_10.out BK370.out (by decide))); have n6_ := Aside0.mk (hb); have n7_ := Aside0.mk (ho); clear HO_0; clear HO_4; clear HO_365001; clear HO_371001; clear BK364; clear BK370; clear HB; clear HO_10; have HO_0 := n0_; have HO_4 := n1_; have HO_365001 := n2_; have HO_371001 := n3_; have BK364 := n4_; have BK370 := n5_; have HB := n6_; have HO396 := n7_; clear n0_ n1_ n2_ n3_ n4_ n5_ n6_ n7_; clear ho hb hg hat))
                                  go_roundg k4
                                  case measure => have := HK1.out; have := HJ26.out; have := HJ80.out; have := HK4.out; omega
                                  case rel => exact ⟨(y394), (x4_1), H', ⟨by have := HK1.out; have := HJ26.out; have := HJ80.out; have := HK4.out; omega⟩, ⟨Kd.N_V (by (with_reducible repeat (first | apply Kd.N_alloc | apply Kd.N_drewN | apply Kd.N_drew)); exact Kd.N_mono HO396.out (fun _ hk => hk.1))⟩, ⟨by (with_reducible repeat (first | apply Kd.N_alloc | apply Kd.N_drewN | apply Kd.N_drew)); exact Kd.N_mono HO_4.out (fun _ hk => hk.1.1)⟩, ⟨by repeat (first | (with_reducible first | exact HB.out | apply below_alloc | apply pw_below_drewN | apply below_drew1 | refine below_set ?_ GE364.out | refine below_set ?_ GE370.out) | exact HB.out)⟩⟩
                                · rw [if_neg c102] at H
                                  exact absurd H (by simp)
          · rw [if_neg c6] at H
            exact absurd H (by simp)
        · rw [if_neg c3] at H
          exact absurd H (by simp)
      · rw [if_neg c2] at H
        have c2b0 : decide (0 < (x0_1.length : Int)) = false := decide_eq_false c2
        have c2b1 : decide (0 < x0_1.length) = false := decide_eq_false (by omega)
        clear c2
        simp only [Option.some.injEq, Prod.mk.injEq] at H
        obtain ⟨rfl, rfl⟩ := H
        obtain ⟨Ao107, co107, eo107⟩ := Kd.V_slice HO_0.out
        subst eo107
        go_wp2
        go_ret2
        exact ⟨_, by first | rfl | (simp [errW_none, errW_some] <;> rfl) | (simp [*, errW_none, errW_some] <;> rfl), by (with_reducible repeat (first | apply Kd.N_alloc | apply Kd.N_drewN | apply Kd.N_drew)); exact HO_4.out, by repeat (first | (with_reducible first | exact HB.out | apply below_alloc | apply pw_below_drewN | apply below_drew1) | exact HB.out)⟩
end Go.Proofs.Ythplndalbfcbbaa.PA
