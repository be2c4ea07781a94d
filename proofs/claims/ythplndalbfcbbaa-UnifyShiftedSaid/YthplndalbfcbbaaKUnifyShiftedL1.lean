/- What the proof of the law rests on: contracts of the functions, plain laws, and words. -/
import Derived.Test.YthplndalbfcbbaaKUnifyShiftedL0
namespace Go.Proofs.Ythplndalbfcbbaa.PA
open Go.RowKit Go.Proofs.YthplndalbfcbbaaW.PrintWords Go.Proofs.YthplndalbfcbbaaW.PrintLast Go.Proofs.YthplndalbfcbbaaW.PrintMore
attribute [local go_sem] max2_int min2_int max_two min_two max_three min_three max_four min_four   -- for this text's walks alone
set_option linter.unusedVariables false
set_option linter.unusedSimpArgs false
mutual
def elenchuslaw04_UnifyShifted.l0 : Nat → Int → List Int → Int → Int → List (S25) → Int → List (S25) → Option (Bool)
 | 0, _, _, _, _, _, _, _ => none
 | k + 1, x6, x7, x8, x543000, x543001, x553000, x553001 => if x8 < (x7.length : Int) then (if x6 = 0 then (if 0 ≤ x8 then ((elenchusref01_Vars.f k x553000 x553001).bind fun t557 => ((elenchusref01_In.f (rd x7 x8) t557).bind fun t560 => (elenchuslaw04_UnifyShifted.j1 k x6 x7 x8 t560 x543000 x543001 x553000 x553001))) else (none)) else (elenchuslaw04_UnifyShifted.j1 k x6 x7 x8 false x543000 x543001 x553000 x553001)) else (if x6 = 0 then ((unify_Mgu.f x543000 x543001 x553000 x553001).bind fun bt563 => ((subst_Apply.f bt563.1 x543000 x543001).bind fun bt568 => ((elenchuslaw04_awake.f).bind fun t574 => (if t574 = true then (if bt563.2.1 = true then (if bt563.2.2 = 0 then (if bt568.2.2 = 0 then ((elenchusref01_Size.f k bt568.1 bt568.2.1).bind fun t575 => ((elenchusref01_Size.f k x543000 x543001).bind fun t576 => (if t575 = t576 then (some ((bt563.1.length : Int) == (x7.length : Int))) else (some false)))) else (some false)) else (some false)) else (some false)) else (some false))))) else ((elenchuslaw04_awake.f).bind fun t562 => (some t562)))
def elenchuslaw04_UnifyShifted.j1 : Nat → Int → List Int → Int → Bool → Int → List (S25) → Int → List (S25) → Option (Bool)
 | 0, _, _, _, _, _, _, _, _ => none
 | k + 1, x6, x7, x8, x42, x543000, x543001, x553000, x553001 => if x42 = true then ((elenchuslaw04_awake.f).bind fun t561 => (some t561)) else (elenchuslaw04_UnifyShifted.l0 k x6 x7 (wrap64 (x8 + 1)) x543000 x543001 x553000 x553001)
end
def elenchuslaw04_UnifyShifted.f (k : Nat) (a0_0 : Int) (l0_1 : List (S25)) (a1 : Int) : Option (Bool) := (elenchusref04_Few.f k (([(⟨a0_0, l0_1⟩ : S25)] : List (S25)))).bind fun t546 => (if t546 = true then ((subst_Shift.f a0_0 l0_1 a1).bind fun bt547 => ((elenchusref01_Vars.f k a0_0 l0_1).bind fun t553 => (elenchuslaw04_UnifyShifted.l0 k bt547.2.2 t553 0 a0_0 l0_1 bt547.1 bt547.2.1))) else (some true))
def elenchuslaw04_UnifyShifted.T8 : Bool × List (List Nat × List Nat) := (true, [([], []), ([0], [0]), ([1], [1]), ([2], [2]), ([2], [2]), ([3, 4, 2], [2, 3, 4]), ([5, 2], [2, 5]), ([2], [2]), ([7, 2, 2], [2, 7]), ([6, 8, 8, 2], [2, 6, 8]), ([2, 9], [2, 9])])
def elenchuslaw04_UnifyShifted.B8 : List Nat := [0, 1, 3, 7, 7, 31, 63, 7, 135, 511, 1023]
theorem elenchuslaw04_UnifyShifted.tab8 : rtab .any (opsOf Try.f21 8) = elenchuslaw04_UnifyShifted.T8 := by kernel_rfl
theorem elenchuslaw04_UnifyShifted.bits8 : waitsOk elenchuslaw04_UnifyShifted.T8.2 elenchuslaw04_UnifyShifted.B8 = true := by kernel_rfl
def elenchuslaw04_UnifyShifted.T14 : Bool × List (List Nat × List Nat) := (true, [([], []), ([0, 0], [0]), ([1], [1]), ([1, 2], [1, 2]), ([3, 1], [3]), ([4], [4]), ([5, 4], [4, 5]), ([4, 6], [4, 6]), ([7, 4], [7]), ([8], [8]), ([9, 8], [8, 9]), ([8, 10], [8, 10]), ([11, 8], [11]), ([12], [12]), ([13, 12, 12], [12, 13]), ([12], [12]), ([15, 14, 12], [12, 15]), ([14, 16, 12], [12, 14, 16]), ([12, 17], [12, 17]), ([18, 16], [18]), ([19], [19]), ([20, 19], [19, 20]), ([19], [19]), ([22, 19], [19, 22]), ([21, 23, 19], [19, 21, 23]), ([19, 24], [19, 24]), ([25, 19, 0, 1, 2, 3, 4, 5, 6, 7, 8, 9, 10, 11, 12, 13, 14, 15, 16, 17, 18, 19, 20, 21, 22, 23, 24, 25], [25])])
def elenchuslaw04_UnifyShifted.B14 : List Nat := [0, 1, 3, 7, 15, 31, 63, 127, 255, 511, 1023, 2047, 4095, 8191, 16383, 8191, 65535, 131071, 262143, 524287, 1048575, 2097151, 1048575, 5242879, 16777215, 33554431, 67108863]
theorem elenchuslaw04_UnifyShifted.tab14 : rtab .any (opsOf Try.f21 14) = elenchuslaw04_UnifyShifted.T14 := by kernel_rfl
theorem elenchuslaw04_UnifyShifted.bits14 : waitsOk elenchuslaw04_UnifyShifted.T14.2 elenchuslaw04_UnifyShifted.B14 = true := by kernel_rfl
set_option maxHeartbeats 8000000 in
set_option maxRecDepth 100000 in
theorem elenchuslaw04_UnifyShifted.calls (k : Nat) (a0_0 : Int) (P0_1_ : Nat → Prop) (A0_1 : Option Addr) (c0_1 : Nat) (l0_1 : List (S25)) (a1 : Int) (r : Bool) (w : World) (hs0_1 : Kd.V k25 25 w w.heap.size (fun k_ => P0_1_ k_) (.slice A0_1 l0_1.length c0_1) l0_1) (h : elenchuslaw04_UnifyShifted.f k a0_0 l0_1 a1 = some r) :
  Calls Try.prog 21 #[.agg #[.int .i64 a0_0, .slice A0_1 l0_1.length c0_1], .int .i64 a1] w fun e w' => e = .returned (.bool r) ∧ Below w.heap.size w w' := by
 have hu25 := Try.underlying25
 have HO0_1 := Aside0.mk (show Kd.V k25 25 w w.heap.size (fun k_ => (P0_1_ k_ ∨ w.heap.size ≤ k_)) (.slice A0_1 l0_1.length c0_1) l0_1 from Kd.V_mono hs0_1 (fun k_ hk => .inl hk))
 have HB := Aside0.mk (Below.refl w.heap.size w)
 have H : ((elenchusref04_Few.f k (([(⟨a0_0, l0_1⟩ : S25)] : List (S25)))).bind fun t546 => (if t546 = true then ((subst_Shift.f a0_0 l0_1 a1).bind fun bt547 => ((elenchusref01_Vars.f k a0_0 l0_1).bind fun t553 => (elenchuslaw04_UnifyShifted.l0 k bt547.2.2 t553 0 a0_0 l0_1 bt547.1 bt547.2.1))) else (some true))) = some r := h
 clear h
 obtain ⟨y543, hy543⟩ : ∃ y_ : List (S25), y_ = (([(⟨a0_0, l0_1⟩ : S25)] : List (S25))) := ⟨_, rfl⟩
 replace H : ((elenchusref04_Few.f k y543).bind fun t546 => (if t546 = true then ((subst_Shift.f a0_0 l0_1 a1).bind fun bt547 => ((elenchusref01_Vars.f k a0_0 l0_1).bind fun t553 => (elenchuslaw04_UnifyShifted.l0 k bt547.2.2 t553 0 a0_0 l0_1 bt547.1 bt547.2.1))) else (some true))) = some r := by first | (rw [hy543]; with_reducible exact H) | (have H2_ := (Option.bind_some _ _).symm.trans H; rw [hy543]; with_reducible exact H2_) | (have H2_ := (Option.bind_some _ _).symm.trans H; with_reducible exact H2_) | with_reducible exact H | (rw [hy543]; exact H) | exact H
 have Ny543 := Aside0.mk hy543
 clear hy543
 replace H := Option.bind_eq_some_iff.mp H
 obtain ⟨t546, A30, H⟩ := H
 replace H : (if t546 = true then ((subst_Shift.f a0_0 l0_1 a1).bind fun bt547 => ((elenchusref01_Vars.f k a0_0 l0_1).bind fun t553 => (elenchuslaw04_UnifyShifted.l0 k bt547.2.2 t553 0 a0_0 l0_1 bt547.1 bt547.2.1))) else (some true)) = some r := H
 have A3 := Aside0.mk A30
 clear A30
 by_cases c4 : t546 = true
 ·subst c4
  have H1 : ((subst_Shift.f a0_0 l0_1 a1).bind fun bt547 => ((elenchusref01_Vars.f k a0_0 l0_1).bind fun t553 => (elenchuslaw04_UnifyShifted.l0 k bt547.2.2 t553 0 a0_0 l0_1 bt547.1 bt547.2.1))) = some r := by rw [if_pos rfl] at H; exact H
  clear H
  have H := H1
  clear H1
  replace H := Option.bind_eq_some_iff.mp H
  obtain ⟨⟨t547, t548, t551⟩, A50, H⟩ := H
  replace H : ((elenchusref01_Vars.f k a0_0 l0_1).bind fun t553 => (elenchuslaw04_UnifyShifted.l0 k t551 t553 0 a0_0 l0_1 t547 t548)) = some r := H
  have A5 := Aside0.mk A50
  clear A50
  replace H := Option.bind_eq_some_iff.mp H
  obtain ⟨t553, A60, H⟩ := H
  replace H : (elenchuslaw04_UnifyShifted.l0 k t551 t553 0 a0_0 l0_1 t547 t548) = some r := H
  have A6 := Aside0.mk A60
  clear A60
  have H' := Aside0.mk H
  clear H
  go_enter Try.func21, Try.ntmps21
  go_wp2_with (first | ((with_reducible refine gate_dst (N := 2) rfl ?_); (try (refine gate_guard (by rfl) ?_; dsimp only)); refine box_event ?hg (N := 2) ?hd (cs := #[.int .i64 a0_0, .slice A0_1 l0_1.length c0_1]) (t := 25) ?hr ?_; (case hd => rfl); (case hg => rfl); (case hr => first | (go_simp; done) | (go_simp; rfl)); intro gb542 hg w7 hbox hb; have n0_ := Aside0.mk (Kd.V_below (Kd.V_elderB (by (with_reducible repeat (first | apply vA | apply vN | apply vD)); exact HO0_1.out) gb542 (Nat.le_of_eq hg.symm)) hb); have n1_ := Aside0.mk (below_step (by repeat (first | (with_reducible first | exact HB.out | apply wA | apply wN | apply wD) | exact HB.out)) hb); have n2_ := Aside0.mk (hbox); have n3_ := Aside0.mk ((by rw [hg]; exact (below_size (by repeat (first | (with_reducible first | exact HB.out | apply wA | apply wN | apply wD) | exact HB.out))) : w.heap.size ≤ gb542)); have n4_ := Aside0.mk ((by rw [hg]; exact (below_size (by repeat (first | (with_reducible first | exact HB.out | apply wA | apply wN | apply wD) | exact HB.out))) : w.heap.size ≤ gb542)); clear HO0_1; clear HB; have HO0_1 := n0_; have HB := n1_; have BK542 := n2_; have GW542 := n3_; have GE542 := n4_; clear n0_ n1_ n2_ n3_ n4_; clear hb hbox hg; have hcz8_0 : w7.cell? ⟨gb542, 0, none⟩ = some (.int .i64 a0_0) := (blk_cell BK542.out 0).trans rfl; have hcz8_1 : w7.cell? ⟨gb542, 1, none⟩ = some (.slice A0_1 l0_1.length c0_1) := (blk_cell BK542.out 1).trans rfl; have hfz8_0 := blk_frozen BK542.out 0; have hfz8_1 := blk_frozen BK542.out 1) | ((with_reducible refine gate_dst (N := 15) rfl ?_); (try (refine gate_guard (by rfl) ?_; dsimp only)); refine Kd.N_lit k25 _ 25 ?hg (N' := 15) ?hd (xs := ([(⟨a0_0, l0_1⟩ : S25)] : List (S25))) (inner := [.int .i64 a0_0, .slice A0_1 l0_1.length c0_1]) (ok := (fun k_ => (P0_1_ k_ ∨ w.heap.size ≤ k_) ∧ k_ ≠ gb542)) (okp := (fun k_ => (P0_1_ k_ ∨ w.heap.size ≤ k_) ∧ k_ ≠ gb542)) ?hr ?hp (fun _ hk => hk) ((show ∀ k_, w7.heap.size ≤ k_ → (fun k_ => (P0_1_ k_ ∨ w.heap.size ≤ k_) ∧ k_ ≠ gb542) k_ from fun k_ hk => ⟨(.inr (Nat.le_trans (below_size (by repeat (first | (with_reducible first | exact HB.out | apply wA | apply wN | apply wD | refine wS ?_ GE542.out) | exact HB.out))) hk)), Kd.freshB (g := gb542) (o := .cells #[.int .i64 a0_0, .slice A0_1 l0_1.length c0_1] 25 (0, 0)) (by (with_reducible repeat (first | refine bN ?_ _ | refine bD ?_ | refine bA ?_ _)); exact BK542.out) k_ hk⟩) _ (Nat.le_refl _)) (Below.refl _ _) (Nat.le_refl _) (by simp) ?_; (case hd => rfl); (case hg => rfl); (case hr => first | (go_simp; done) | (go_simp; rfl)); (case hp => exact (Reps.c2 (show Kd.FK k25 _ _ (⟨a0_0, l0_1⟩ : S25) [.int .i64 a0_0, .slice A0_1 l0_1.length c0_1] from (k25_mkF _ _ (⟨a0_0, l0_1⟩ : S25) (Kd.V_reads' (Kd.V_mono (ok' := (fun k_ => (P0_1_ k_ ∨ w.heap.size ≤ k_) ∧ k_ ≠ gb542)) (HO0_1.out) (fun k_ hk => ⟨hk.1, hk.2⟩))).2.1 (Kd.V_F (Kd.V_mono (ok' := (fun k_ => (P0_1_ k_ ∨ w.heap.size ≤ k_) ∧ k_ ≠ gb542)) (HO0_1.out) (fun k_ hk => ⟨hk.1, hk.2⟩))))) (Reps.none _ _))); intro v544 w9 ho10 hb hg_ hnew_; clear hg_ hnew_; (first | rw [← Ny543.out] at ho10 | (simp only [Int.reduceToNat] at ho10; rw [← Ny543.out] at ho10)); have n0_ := Aside0.mk (Kd.V_elder' (by (with_reducible repeat (first | apply vA | apply vN | apply vD)); exact HO0_1.out) (by first | exact Kd.N_base ho10 | exact Kd.R_base ho10) hb); have n1_ := Aside0.mk (Kd.N_lower ho10 (below_size (by repeat (first | (with_reducible first | exact HB.out | apply wA | apply wN | apply wD | refine wS ?_ GE542.out) | exact HB.out)))); have n2_ := Aside0.mk (blk_below (g := gb542) (o := .cells #[.int .i64 a0_0, .slice A0_1 l0_1.length c0_1] 25 (0, 0)) (by (with_reducible repeat (first | refine bN ?_ _ | refine bD ?_ | refine bA ?_ _)); exact BK542.out) hb); have n3_ := Aside0.mk (below_step (by repeat (first | (with_reducible first | exact HB.out | apply wA | apply wN | apply wD | refine wS ?_ GE542.out) | exact HB.out)) hb); clear HO0_1; clear BK542; clear HB; have HO0_1 := n0_; have HO545 := n1_; have BK542 := n2_; have HB := n3_; clear n0_ n1_ n2_ n3_; clear hb ho10; obtain ⟨Ao11, co11, eo11⟩ := Kd.N_slice HO545.out; subst eo11) | ((with_reducible refine gate_callee (f := 54) rfl ?_); refine goesL_ (some 16) rfl rfl Try.func54 (by kernel_rfl) rfl #[.slice Ao11 y543.length co11] rfl (by (try simp only [List.map_toArray, List.map_cons, List.map_nil]); first | done | rfl | (simp only [List.length_drop, List.length_take]; rfl)) ?_; (with_reducible refine (elenchusref04_Few.calls k _ _ y543 true _ ?side1 ?side2 A3.out).mono ?_); (case side1 => repeat (first | exact (Kd.N_reads' HO545.out).2.2 | (with_reducible refine Kd.C_alloc ?_ _) | (with_reducible refine Kd.C_drewN ?_ _) | (with_reducible refine Kd.C_drew ?_))); (case side2 => exact (Kd.N_reads' HO545.out).2.1); rintro e w12 ⟨rfl, hb⟩; refine ⟨_, rfl, ?_⟩; have n0_ := Aside0.mk (Kd.V_below (by (with_reducible repeat (first | apply vA | apply vN | apply vD)); exact HO0_1.out) hb); have n1_ := Aside0.mk (Kd.N_below (by (with_reducible repeat (first | apply nA | apply nN | apply nD)); exact HO545.out) hb); have n2_ := Aside0.mk (blk_below (g := gb542) (o := .cells #[.int .i64 a0_0, .slice A0_1 l0_1.length c0_1] 25 (0, 0)) (by (with_reducible repeat (first | refine bN ?_ _ | refine bD ?_ | refine bA ?_ _)); exact BK542.out) hb); have n3_ := Aside0.mk (below_step (by repeat (first | (with_reducible first | exact HB.out | apply wA | apply wN | apply wD | refine wS ?_ GE542.out) | exact HB.out)) hb); clear HO0_1; clear HO545; clear BK542; clear HB; have HO0_1 := n0_; have HO545 := n1_; have BK542 := n2_; have HB := n3_; clear n0_ n1_ n2_ n3_; (try clear hb); (try clear hb2); (try clear hk); (try clear hi); have hcz13_0 : w12.cell? ⟨gb542, 0, none⟩ = some (.int .i64 a0_0) := (blk_cell BK542.out 0).trans rfl; have hcz13_1 : w12.cell? ⟨gb542, 1, none⟩ = some (.slice A0_1 l0_1.length c0_1) := (blk_cell BK542.out 1).trans rfl; have hfz13_0 := blk_frozen BK542.out 0; have hfz13_1 := blk_frozen BK542.out 1) | ((with_reducible refine gate_callee (f := 29) rfl ?_); refine goesL_ (some 21) rfl rfl Try.func29 (by kernel_rfl) rfl #[.agg #[.int .i64 a0_0, .slice A0_1 l0_1.length c0_1], .int .i64 a1] rfl (by (try simp only [List.map_toArray, List.map_cons, List.map_nil]); first | done | rfl | (simp only [List.length_drop, List.length_take]; rfl)) ?_; (with_reducible refine (subst_Shift.calls a0_0 (fun k_ => (((P0_1_ k_ ∨ w.heap.size ≤ k_) ∧ k_ ≠ gb542) ∧ some k_ ≠ (.slice Ao11 y543.length co11 : Value).ownBlock)) _ _ l0_1 a1 t547 t548 t551 _ ?side1 A5.out).mono ?_); (case side1 => exact HO0_1.out); rintro e w14 ⟨v549, rfl, ho0, hb⟩; refine ⟨_, rfl, ?_⟩; have n0_ := Aside0.mk (Kd.V_below (by (with_reducible repeat (first | apply vA | apply vN | apply vD)); exact HO0_1.out) hb); have n1_ := Aside0.mk (Kd.N_below (by (with_reducible repeat (first | apply nA | apply nN | apply nD)); exact HO545.out) hb); have n2_ := Aside0.mk (Kd.V_lower (Kd.V_mono (ok' := fun k_ => (P0_1_ k_ ∨ w.heap.size ≤ k_) ∧ some k_ ≠ (.slice Ao11 y543.length co11 : Value).ownBlock ∧ k_ ≠ gb542) ho0 (fun k_ hk_ => ⟨Or.elim hk_ (fun hs_ => hs_.1.1) (fun hn_ => (.inr (Nat.le_trans (below_size (by repeat (first | (with_reducible first | exact HB.out | apply wA | apply wN | apply wD | refine wS ?_ GE542.out) | exact HB.out))) hn_))), Or.elim hk_ (fun hs_ => hs_.2) (fun hn_ => (Kd.fresh' (Kd.N_lt (by (with_reducible repeat (first | apply nA | apply nN | apply nD)); exact HO545.out)) k_ hn_)), Or.elim hk_ (fun hs_ => hs_.1.2) (fun hn_ => (Kd.freshB (g := gb542) (o := .cells #[.int .i64 a0_0, .slice A0_1 l0_1.length c0_1] 25 (0, 0)) (by (with_reducible repeat (first | refine bN ?_ _ | refine bD ?_ | refine bA ?_ _)); exact BK542.out) k_ hn_))⟩)) (below_size (by repeat (first | (with_reducible first | exact HB.out | apply wA | apply wN | apply wD | refine wS ?_ GE542.out) | exact HB.out)))); have n3_ := Aside0.mk (blk_below (g := gb542) (o := .cells #[.int .i64 a0_0, .slice A0_1 l0_1.length c0_1] 25 (0, 0)) (by (with_reducible repeat (first | refine bN ?_ _ | refine bD ?_ | refine bA ?_ _)); exact BK542.out) hb); have n4_ := Aside0.mk (below_step (by repeat (first | (with_reducible first | exact HB.out | apply wA | apply wN | apply wD | refine wS ?_ GE542.out) | exact HB.out)) hb); clear HO0_1; clear HO545; clear BK542; clear HB; have HO0_1 := n0_; have HO545 := n1_; have HO550 := n2_; have BK542 := n3_; have HB := n4_; clear n0_ n1_ n2_ n3_ n4_; (try clear hb); (try clear hb2); (try clear hk); (try clear hi); (try clear ho0)) | ((with_reducible refine gate_dst (N := 5) rfl ?_); (try (refine gate_guard (by rfl) ?_; dsimp only)); refine box_event ?hg (N := 5) ?hd (cs := #[.int .i64 0, .slice none 0 0]) (t := 25) ?hr ?_; (case hd => rfl); (case hg => rfl); (case hr => first | (go_simp; done) | (go_simp; rfl)); intro gb552 hg w15 hbox hb; have n0_ := Aside0.mk (Kd.V_below (Kd.V_elderB (by (with_reducible repeat (first | apply vA | apply vN | apply vD)); exact HO0_1.out) gb552 (Nat.le_of_eq hg.symm)) hb); have n1_ := Aside0.mk (Kd.N_below (Kd.N_elderB (by (with_reducible repeat (first | apply nA | apply nN | apply nD)); exact HO545.out) gb552 (Nat.le_of_eq hg.symm)) hb); have n2_ := Aside0.mk (Kd.V_below (Kd.V_elderB (by (with_reducible repeat (first | apply vA | apply vN | apply vD)); exact HO550.out) gb552 (Nat.le_of_eq hg.symm)) hb); have n3_ := Aside0.mk (blk_below (g := gb542) (o := .cells #[.int .i64 a0_0, .slice A0_1 l0_1.length c0_1] 25 (0, 0)) (by (with_reducible repeat (first | refine bN ?_ _ | refine bD ?_ | refine bA ?_ _)); exact BK542.out) hb); have n4_ := Aside0.mk (below_step (by repeat (first | (with_reducible first | exact HB.out | apply wA | apply wN | apply wD | refine wS ?_ GE542.out) | exact HB.out)) hb); have n5_ := Aside0.mk (hbox); have n6_ := Aside0.mk ((by rw [hg]; exact (below_size (by repeat (first | (with_reducible first | exact HB.out | apply wA | apply wN | apply wD | refine wS ?_ GE542.out) | exact HB.out))) : w.heap.size ≤ gb552)); have n7_ := Aside0.mk ((by rw [hg]; exact (below_size (by repeat (first | (with_reducible first | exact HB.out | apply wA | apply wN | apply wD | refine wS ?_ GE542.out) | exact HB.out))) : w.heap.size ≤ gb552)); have n8_ := Aside0.mk ((by rw [hg]; exact Nat.ne_of_lt (blk_lt (g := gb542) (o := .cells #[.int .i64 a0_0, .slice A0_1 l0_1.length c0_1] 25 (0, 0)) (by (with_reducible repeat (first | refine bN ?_ _ | refine bD ?_ | refine bA ?_ _)); exact BK542.out)) : gb542 ≠ gb552)); have n9_ := Aside0.mk ((by rw [hg]; exact Nat.ne_of_gt (blk_lt (g := gb542) (o := .cells #[.int .i64 a0_0, .slice A0_1 l0_1.length c0_1] 25 (0, 0)) (by (with_reducible repeat (first | refine bN ?_ _ | refine bD ?_ | refine bA ?_ _)); exact BK542.out)) : gb552 ≠ gb542)); clear HO0_1; clear HO545; clear HO550; clear BK542; clear HB; have HO0_1 := n0_; have HO545 := n1_; have HO550 := n2_; have BK542 := n3_; have HB := n4_; have BK552 := n5_; have GW552 := n6_; have GE552 := n7_; have NB542_552 := n8_; have NB552_542 := n9_; clear n0_ n1_ n2_ n3_ n4_ n5_ n6_ n7_ n8_ n9_; clear hb hbox hg; have hnb16 := NB552_542.out; have hnc16 := NB542_552.out; have hcz17_0 : w15.cell? ⟨gb552, 0, none⟩ = some (.int .i64 0) := (blk_cell BK552.out 0).trans rfl; have hcz17_1 : w15.cell? ⟨gb552, 1, none⟩ = some (.slice none 0 0) := (blk_cell BK552.out 1).trans rfl; have hfz17_0 := blk_frozen BK552.out 0; have hfz17_1 := blk_frozen BK552.out 1; obtain ⟨Ao18, co18, eo18⟩ := Kd.V_slice HO550.out; subst eo18; have hcz19_0 : w15.cell? ⟨gb542, 0, none⟩ = some (.int .i64 a0_0) := (blk_cell BK542.out 0).trans rfl; have hcz19_1 : w15.cell? ⟨gb542, 1, none⟩ = some (.slice A0_1 l0_1.length c0_1) := (blk_cell BK542.out 1).trans rfl; have hfz19_0 := blk_frozen BK542.out 0; have hfz19_1 := blk_frozen BK542.out 1) | ((with_reducible refine gate_callee (f := 76) rfl ?_); refine goesL_ (some 25) rfl rfl Try.func76 (by kernel_rfl) rfl #[.agg #[.int .i64 a0_0, .slice A0_1 l0_1.length c0_1]] rfl (by (try simp only [List.map_toArray, List.map_cons, List.map_nil]); first | done | rfl | (simp only [List.length_drop, List.length_take]; rfl)) ?_; (with_reducible refine (elenchusref01_Vars.calls k a0_0 _ _ l0_1 t553 _ ?side1 ?side2 A6.out).mono ?_); (case side1 => refine (Kd.V_reads' (e := 25) (base := w.heap.size) (ok := fun k_ => ((((P0_1_ k_ ∨ w.heap.size ≤ k_) ∧ k_ ≠ gb542) ∧ some k_ ≠ (.slice Ao11 y543.length co11 : Value).ownBlock) ∧ k_ ≠ gb552)) (n := l0_1.length) (c := c0_1) ?_).2.2; exact (by (with_reducible repeat (first | apply vA | apply vN | apply vD)); exact (Kd.V_mono (Kd.V_far (p := ⟨gb552, 1, none⟩) (Kd.V_far (p := ⟨gb552, 0, none⟩) (Kd.V_mono HO0_1.out (fun k_ hk => (⟨hk, hk.2⟩ : _ ∧ k_ ≠ gb552))) (fun _ hk => hk.2) (.int .i64 t547)) (fun _ hk => hk.2) (.slice Ao18 t548.length co18)) (fun _ h_ => h_.1)))); (case side2 => exact (Kd.V_reads' HO0_1.out).2.1); rintro e w20 ⟨v554, rfl, ho0, hb⟩; refine ⟨_, rfl, ?_⟩; have n0_ := Aside0.mk (Kd.V_elder' (by (with_reducible repeat (first | apply vA | apply vN | apply vD)); exact (Kd.V_mono (Kd.V_far (p := ⟨gb552, 1, none⟩) (Kd.V_far (p := ⟨gb552, 0, none⟩) (Kd.V_mono HO0_1.out (fun k_ hk => (⟨hk, hk.2⟩ : _ ∧ k_ ≠ gb552))) (fun _ hk => hk.2) (.int .i64 t547)) (fun _ hk => hk.2) (.slice Ao18 t548.length co18)) (fun _ h_ => h_.1))) (Kd.R_base ho0) hb); have n1_ := Aside0.mk (Kd.N_elder' (by (with_reducible repeat (first | apply nA | apply nN | apply nD)); exact (Kd.N_mono (Kd.N_far (p := ⟨gb552, 1, none⟩) (Kd.N_far (p := ⟨gb552, 0, none⟩) (Kd.N_mono HO545.out (fun k_ hk => (⟨hk, hk.2⟩ : _ ∧ k_ ≠ gb552))) (fun _ hk => hk.2) (.int .i64 t547)) (fun _ hk => hk.2) (.slice Ao18 t548.length co18)) (fun _ h_ => h_.1))) (Kd.R_base ho0) hb); have n2_ := Aside0.mk (Kd.V_elder' (by (with_reducible repeat (first | apply vA | apply vN | apply vD)); exact (Kd.V_mono (Kd.V_far (p := ⟨gb552, 1, none⟩) (Kd.V_far (p := ⟨gb552, 0, none⟩) (Kd.V_mono HO550.out (fun k_ hk => (⟨hk, hk.2⟩ : _ ∧ k_ ≠ gb552))) (fun _ hk => hk.2) (.int .i64 t547)) (fun _ hk => hk.2) (.slice Ao18 t548.length co18)) (fun _ h_ => h_.1))) (Kd.R_base ho0) hb); have n3_ := Aside0.mk (Kd.R_lower (Kd.R_newM (M := fun k_ => (w.heap.size ≤ k_)) ho0 (below_size (by repeat (first | (with_reducible first | exact HB.out | apply wA | apply wN | apply wD | refine wS ?_ GE542.out | refine wS ?_ GE552.out) | exact HB.out))) (fun k_ h_ => h_)) (below_size (by repeat (first | (with_reducible first | exact HB.out | apply wA | apply wN | apply wD | refine wS ?_ GE542.out | refine wS ?_ GE552.out) | exact HB.out)))); have n4_ := Aside0.mk (blk_below (g := gb542) (o := .cells #[.int .i64 a0_0, .slice A0_1 l0_1.length c0_1] 25 (0, 0)) (by (with_reducible repeat (first | refine bN ?_ _ | refine bD ?_ | refine bA ?_ _)); refine blk_far ?_ NB542_552.out _; (with_reducible repeat (first | refine bN ?_ _ | refine bD ?_ | refine bA ?_ _)); refine blk_far ?_ NB542_552.out _; (with_reducible repeat (first | refine bN ?_ _ | refine bD ?_ | refine bA ?_ _)); exact BK542.out) hb); have n5_ := Aside0.mk (blk_below (g := gb552) (o := .cells #[.int .i64 t547, .slice Ao18 t548.length co18] 25 (0, 0)) (by (with_reducible repeat (first | refine bN ?_ _ | refine bD ?_ | refine bA ?_ _)); refine blk_put (cs := #[.int .i64 t547, .slice none 0 0]) ?_ 1 _ rfl; (with_reducible repeat (first | refine bN ?_ _ | refine bD ?_ | refine bA ?_ _)); refine blk_put (cs := #[.int .i64 0, .slice none 0 0]) ?_ 0 _ rfl; (with_reducible repeat (first | refine bN ?_ _ | refine bD ?_ | refine bA ?_ _)); exact BK552.out) hb); have n6_ := Aside0.mk (below_step (by repeat (first | (with_reducible first | exact HB.out | apply wA | apply wN | apply wD | refine wS ?_ GE542.out | refine wS ?_ GE552.out) | exact HB.out)) hb); clear HO0_1; clear HO545; clear HO550; clear BK542; clear BK552; clear HB; have HO0_1 := n0_; have HO545 := n1_; have HO550 := n2_; have HO555 := n3_; have BK542 := n4_; have BK552 := n5_; have HB := n6_; clear n0_ n1_ n2_ n3_ n4_ n5_ n6_; (try clear hb); (try clear hb2); (try clear hk); (try clear hi); (try clear ho0)))
  go_loopg [8] k (fun kq v8 w' => ∃ (x8_1 : Int), v8 = .int .i64 x8_1 ∧ Aside0 (elenchuslaw04_UnifyShifted.l0 kq t551 t553 x8_1 a0_0 l0_1 t547 t548 = some r) ∧ Aside0 (kq ≤ k) ∧ Aside0 (Kd.R (Kd.int .i64) 3 w' w.heap.size (fun k_ => (w.heap.size ≤ k_)) v554 t553) ∧ Aside0 (Kd.V k25 25 w' w.heap.size (fun k_ => (P0_1_ k_ ∨ w.heap.size ≤ k_) ∧ some k_ ≠ (v554 : Value).ownBlock ∧ k_ ≠ gb542 ∧ k_ ≠ gb552) (.slice A0_1 l0_1.length c0_1) l0_1) ∧ Aside0 (Kd.V k25 25 w' w.heap.size (fun k_ => (P0_1_ k_ ∨ w.heap.size ≤ k_) ∧ some k_ ≠ (v554 : Value).ownBlock ∧ k_ ≠ gb542 ∧ k_ ≠ gb552) (.slice Ao18 t548.length co18) t548) ∧ Aside0 (w'.heap[gb542]? = some (.cells #[.int .i64 a0_0, (.slice A0_1 l0_1.length c0_1)] 25 (0, 0))) ∧ Aside0 (w'.heap[gb552]? = some (.cells #[.int .i64 t547, (.slice Ao18 t548.length co18)] 25 (0, 0))) ∧ Aside0 (Below w.heap.size w w'))
  case atStart => exact ⟨(0), (by first | rfl | (simp; done) | (simp [*]; done)), H', ⟨Nat.le_refl _⟩, ⟨by (with_reducible repeat (first | apply Kd.R_alloc | apply Kd.R_drewN | apply Kd.R_drew)); exact Kd.R_mono HO555.out (fun _ hk => hk.1)⟩, ⟨by (with_reducible repeat (first | apply vA | apply vN | apply vD)); exact Kd.V_mono HO0_1.out (fun _ hk => ⟨hk.1.1.1.1, ⟨hk.2, ⟨hk.1.1.1.2, hk.1.2⟩⟩⟩)⟩, ⟨by (with_reducible repeat (first | apply vA | apply vN | apply vD)); exact Kd.V_mono HO550.out (fun _ hk => ⟨hk.1.1.1, ⟨hk.2, ⟨hk.1.1.2.2, hk.1.2⟩⟩⟩)⟩, ⟨by (with_reducible repeat (first | refine bN ?_ _ | refine bD ?_ | refine bA ?_ _)); exact BK542.out⟩, ⟨by (with_reducible repeat (first | refine bN ?_ _ | refine bD ?_ | refine bA ?_ _)); exact BK552.out⟩, ⟨by repeat (first | (with_reducible first | exact HB.out | apply wA | apply wN | apply wD | refine wS ?_ GE542.out | refine wS ?_ GE552.out) | exact HB.out)⟩⟩
  case round =>
   clear H'
   try clear c1
   try clear c2
   try clear p2
   try clear c4
   try clear c5
   try clear c7
   try clear c16
   try clear hcz13_0
   try clear hcz13_1
   try clear hcz17_0
   try clear hcz17_1
   try clear hcz19_0
   try clear hcz19_1
   try clear hcz8_0
   try clear hcz8_1
   try clear hfz13_0
   try clear hfz13_1
   try clear hfz17_0
   try clear hfz17_1
   try clear hfz19_0
   try clear hfz19_1
   try clear hfz8_0
   try clear hfz8_1
   obtain ⟨x8_1, rfl, HA, HK1, HO_7, HO_543001, HO_553001, BK542, BK552, HB⟩ := hrel
   cases gk with
   | zero => exact absurd HA.out (by simp [elenchuslaw04_UnifyShifted.l0])
   | succ k1 =>
    have H := HA.out
    clear HA
    simp only [elenchuslaw04_UnifyShifted.l0] at H
    by_cases c21 : x8_1 < (t553.length : Int)
    ·rw [if_pos c21] at H
     have c21b0 : decide (x8_1 < (t553.length : Int)) = true := decide_eq_true c21
     clear c21
     have HC22 := Aside0.mk H
     clear H
     obtain ⟨Ao23, co23, eo23⟩ := Kd.R_slice HO_7.out
     subst eo23
     go_upto_region 8 with (fail)
     go_cut [42] (fun v42 wc => ∃ (kq : Nat) (x42_21 : Bool), v42 = .bool x42_21 ∧ Aside0 (elenchuslaw04_UnifyShifted.j1 kq t551 t553 x8_1 x42_21 a0_0 l0_1 t547 t548 = some r) ∧ Aside0 (kq ≤ k1) ∧ Aside0 (Kd.R (Kd.int .i64) 3 wc w.heap.size (fun k_ => (w.heap.size ≤ k_)) (.slice Ao23 t553.length co23) t553) ∧ Aside0 (Kd.V k25 25 wc w.heap.size (fun k_ => (P0_1_ k_ ∨ w.heap.size ≤ k_) ∧ some k_ ≠ ((.slice Ao23 t553.length co23) : Value).ownBlock ∧ k_ ≠ gb542 ∧ k_ ≠ gb552) (.slice A0_1 l0_1.length c0_1) l0_1) ∧ Aside0 (Kd.V k25 25 wc w.heap.size (fun k_ => (P0_1_ k_ ∨ w.heap.size ≤ k_) ∧ some k_ ≠ ((.slice Ao23 t553.length co23) : Value).ownBlock ∧ k_ ≠ gb542 ∧ k_ ≠ gb552) (.slice Ao18 t548.length co18) t548) ∧ Aside0 (wc.heap[gb542]? = some (.cells #[.int .i64 a0_0, (.slice A0_1 l0_1.length c0_1)] 25 (0, 0))) ∧ Aside0 (wc.heap[gb552]? = some (.cells #[.int .i64 t547, (.slice Ao18 t548.length co18)] 25 (0, 0))) ∧ Aside0 (Below w.heap.size w wc))
     case first =>
      have H := HC22.out
      clear HC22
      by_cases c24 : t551 = 0
      ·rw [if_pos c24] at H
       have c24b0 : (t551 == 0) = true := beq_iff_eq.mpr c24
       have c24b1 : (t551 != 0) = false := bne_eq_false_iff_eq.mpr c24
       clear c24
       (first | rw [c24b0] | (simp only [i64_w, i32_w]; rw [c24b0]) | skip)
       by_cases c25 : 0 ≤ x8_1
       ·rw [if_pos c25] at H
        have c25b0 : decide (0 ≤ x8_1) = true := decide_eq_true c25
        clear c25
        replace H := Option.bind_eq_some_iff.mp H
        obtain ⟨t557, A260, H⟩ := H
        replace H : ((elenchusref01_In.f (rd t553 x8_1) t557).bind fun t560 => (elenchuslaw04_UnifyShifted.j1 k1 t551 t553 x8_1 t560 a0_0 l0_1 t547 t548)) = some r := H
        have A26 := Aside0.mk A260
        clear A260
        replace H := Option.bind_eq_some_iff.mp H
        obtain ⟨t560, A270, H⟩ := H
        replace H : (elenchuslaw04_UnifyShifted.j1 k1 t551 t553 x8_1 t560 a0_0 l0_1 t547 t548) = some r := H
        have A27 := Aside0.mk A270
        clear A270
        have H' := Aside0.mk H
        clear H
        try go_wp2
        have n0_ := Aside0.mk (Kd.R_drew HO_7.out)
        have n1_ := Aside0.mk (Kd.V_drew HO_543001.out)
        have n2_ := Aside0.mk (Kd.V_drew HO_553001.out)
        have n3_ := Aside0.mk (blk_drew BK542.out)
        have n4_ := Aside0.mk (blk_drew BK552.out)
        have n5_ := Aside0.mk (below_drew1 HB.out)
        clear HO_7
        clear HO_543001
        clear HO_553001
        clear BK542
        clear BK552
        clear HB
        have HO_7 := n0_
        have HO_543001 := n1_
        have HO_553001 := n2_
        have BK542 := n3_
        have BK552 := n4_
        have HB := n5_
        clear n0_ n1_ n2_ n3_ n4_ n5_
        have p556 : 0 ≤ (x8_1 : Int) := of_decide_eq_true (by first | (with_reducible assumption) | assumption)
        have q556 : x8_1 < (t553.length : Int) := of_decide_eq_true (by first | (with_reducible assumption) | assumption)
        obtain ⟨ad556, e556, hx556_0⟩ := Kd.at_int (Kd.R_reads' HO_7.out).2.2 x8_1 p556 q556
        cases e556
        replace p556 := eq_true p556
        replace q556 := eq_true q556
        refine start_ (n := 11) (S := fun w' => w'.cell? ⟨gb552, 0, none⟩ = some (.int .i64 t547) ∧ w'.cell? ⟨gb552, 1, none⟩ = some (.slice Ao18 t548.length co18) ∧ w'.cell? (ad556.add (x8_1).toNat) = some (.int .i64 (rd t553 x8_1))) (ds := []) #[F_, F_, F_, F_, F_, F_, F_, F_, F_, F_, F_] (by kernel_rfl) rfl rfl ⟨(blk_cell BK552.out 0).trans rfl, (blk_cell BK552.out 1).trans rfl, hx556_0⟩ (fun hHeld => ?_); refine with_tabW elenchuslaw04_UnifyShifted.tab8 elenchuslaw04_UnifyShifted.bits8 (fun HT_ HW_ => ?_)
        generalize wr.drew = w28 at HO_7 HO_543001 HO_553001 BK542 BK552 HB hx556_0 hHeld ⊢
        refine pure_ (i := 0) (N := some 32) (v := ?_) (a' := ?_) #[T_, F_, F_, F_, F_, F_, F_, F_, F_, F_, F_] rfl rfl (any_of HT_.out (by kernel_rfl)) (fun _ _ _ h => h) (Or.inl ⟨by rfl, ?_⟩) ?_ ?_
        rotate_left
        ·intro w'
         go_simp
         with_reducible rfl
        rotate_left
        ·simp only [Act.put, sT, s0, sS, i64_w, i32_w]
         rfl
        refine pure_ (i := 1) (N := some 33) (v := ?_) (a' := ?_) #[T_, T_, F_, F_, F_, F_, F_, F_, F_, F_, F_] rfl rfl (any_of HT_.out (by kernel_rfl)) (fun _ _ _ h => h) (Or.inl ⟨by rfl, ?_⟩) ?_ ?_
        rotate_left
        ·intro w'
         go_simp
         with_reducible rfl
        rotate_left
        ·simp only [Act.put, sT, s0, sS, i64_w, i32_w]
         rfl
        refine pure_ (i := 2) (N := some 34) (v := ?_) (a' := ?_) #[T_, T_, T_, F_, F_, F_, F_, F_, F_, F_, F_] rfl rfl (any_of HT_.out (by kernel_rfl)) (fun _ _ _ h => h) (Or.inl ⟨by rfl, ?_⟩) ?_ ?_
        rotate_left
        ·intro w'
         go_simp
         with_reducible rfl
        rotate_left
        ·simp only [Act.put, sT, s0, sS, i64_w, i32_w]
         rfl
        refine pure_ (i := 3) (N := some 35) (v := ?_) (a' := ?_) #[T_, T_, T_, T_, F_, F_, F_, F_, F_, F_, F_] rfl rfl (any_of HT_.out (by kernel_rfl)) (fun _ _ _ h => h) (Or.inl ⟨by rfl, ?_⟩) ?_ ?_
        rotate_left
        ·intro w'
         go_simp
         with_reducible rfl
        rotate_left
        ·simp only [Act.put, sT, s0, sS, i64_w, i32_w]
         rfl
        refine pure_ (i := 4) (N := some 36) (v := ?_) (a' := ?_) #[T_, T_, T_, T_, T_, F_, F_, F_, F_, F_, F_] rfl rfl (any_of HT_.out (by kernel_rfl)) (fun _ _ _ h => h) (Or.inl ⟨by rfl, ?_⟩) ?_ ?_
        rotate_left
        ·intro w'
         go_simp
         with_reducible rfl
        rotate_left
        ·simp only [Act.put, sT, s0, sS, i64_w, i32_w]
         rfl
        refine pure_ (i := 5) (N := some 37) (v := ?_) (a' := ?_) #[T_, T_, T_, T_, T_, T_, F_, F_, F_, F_, F_] rfl rfl (any_of HT_.out (by kernel_rfl)) (fun _ _ _ h => h) (Or.inl ⟨by rfl, ?_⟩) ?_ ?_
        rotate_left
        ·intro w'
         go_simp
         with_reducible rfl
        rotate_left
        ·simp only [Act.put, sT, s0, sS, i64_w, i32_w]
         rfl
        refine take_ (i := 6) (N := some 38) (v := ?_) (a' := ?_) #[T_, T_, T_, T_, T_, T_, T_, F_, F_, F_, F_] rfl rfl (take_ofW HT_.out HW_.out (by kernel_rfl)) (fun _ _ _ h => h) (Or.inl ⟨by rfl, ?_⟩) hHeld ?_ ?_
        rotate_left
        ·rintro w' ⟨s0, s1, s2⟩
         go_simp
         with_reducible rfl
        rotate_left
        ·simp only [Act.put, sT, s0, sS, i64_w, i32_w]
         rfl
        refine take_ (i := 7) (N := some 39) (v := ?_) (a' := ?_) #[T_, T_, T_, T_, T_, T_, T_, T_, F_, F_, F_] rfl rfl (take_ofW HT_.out HW_.out (by kernel_rfl)) (fun _ _ _ h => h) (Or.inl ⟨by rfl, ?_⟩) hHeld ?_ ?_
        rotate_left
        ·rintro w' ⟨s0, s1, s2⟩
         go_simp
         with_reducible rfl
        rotate_left
        ·simp only [Act.put, sT, s0, sS, i64_w, i32_w]
         rfl
        refine one_ (i := 8) (N := some 40) #[T_, T_, T_, T_, T_, T_, T_, T_, T_, F_, F_] rfl rfl (one_of HT_.out (by kernel_rfl)) (by decide) (fun K hK => ?_)
        refine goes_ Try.func76 (by kernel_rfl) rfl #[.agg #[.int .i64 t547, .slice Ao18 t548.length co18]] (by rfl) rfl rfl (by (try simp only [List.map_toArray, List.map_cons, List.map_nil]); first | done | rfl | (simp only [List.length_drop, List.length_take]; rfl)) ?_
        with_reducible refine (elenchusref01_Vars.calls k1 t547 _ _ t548 t557 _ ?side1 ?side2 A26.out).mono ?_
        (case side1 => repeat (first | exact (Kd.V_reads' HO_553001.out).2.2 | (with_reducible refine Kd.C_alloc ?_ _) | (with_reducible refine Kd.C_drewN ?_ _) | (with_reducible refine Kd.C_drew ?_)))
        (case side2 => exact (Kd.V_reads' HO_553001.out).2.1)
        rintro e w29 ⟨v558, rfl, ho0, hb⟩
        have HS2_ := (hb.cell (World.block_lt_of_cell? _ _ (hHeld.2.2))).trans (hHeld.2.2)
        refine ⟨_, rfl, ?_⟩
        have n0_ := Aside0.mk (Kd.R_elder' (by (with_reducible repeat (first | apply Kd.R_alloc | apply Kd.R_drewN | apply Kd.R_drew)); exact HO_7.out) (Kd.R_base ho0) hb)
        have n1_ := Aside0.mk (Kd.V_elder' (by (with_reducible repeat (first | apply vA | apply vN | apply vD)); exact HO_543001.out) (Kd.R_base ho0) hb)
        have n2_ := Aside0.mk (Kd.V_elder' (by (with_reducible repeat (first | apply vA | apply vN | apply vD)); exact HO_553001.out) (Kd.R_base ho0) hb)
        have n3_ := Aside0.mk (Kd.R_lower (Kd.R_new' (Kd.R_newM (M := fun k_ => (w.heap.size ≤ k_)) ho0 (below_size (by repeat (first | (with_reducible first | exact HB.out | apply wA | apply wN | apply wD | refine wS ?_ GE542.out | refine wS ?_ GE552.out) | exact HB.out))) (fun k_ h_ => h_)) (Kd.R_lt (by (with_reducible repeat (first | apply Kd.R_alloc | apply Kd.R_drewN | apply Kd.R_drew)); exact HO_7.out))) (below_size (by repeat (first | (with_reducible first | exact HB.out | apply wA | apply wN | apply wD | refine wS ?_ GE542.out | refine wS ?_ GE552.out) | exact HB.out))))
        have n4_ := Aside0.mk (blk_below (g := gb542) (o := .cells #[.int .i64 a0_0, .slice A0_1 l0_1.length c0_1] 25 (0, 0)) (by (with_reducible repeat (first | refine bN ?_ _ | refine bD ?_ | refine bA ?_ _)); exact BK542.out) hb)
        have n5_ := Aside0.mk (blk_below (g := gb552) (o := .cells #[.int .i64 t547, .slice Ao18 t548.length co18] 25 (0, 0)) (by (with_reducible repeat (first | refine bN ?_ _ | refine bD ?_ | refine bA ?_ _)); exact BK552.out) hb)
        have n6_ := Aside0.mk (below_step (by repeat (first | (with_reducible first | exact HB.out | apply wA | apply wN | apply wD | refine wS ?_ GE542.out | refine wS ?_ GE552.out) | exact HB.out)) hb)
        clear HO_7
        clear HO_543001
        clear HO_553001
        clear BK542
        clear BK552
        clear HB
        have HO_7 := n0_
        have HO_543001 := n1_
        have HO_553001 := n2_
        have HO559 := n3_
        have BK542 := n4_
        have BK552 := n5_
        have HB := n6_
        clear n0_ n1_ n2_ n3_ n4_ n5_ n6_
        (try clear hb)
        (try clear hb2)
        (try clear hk)
        (try clear hi)
        (try clear ho0)
        obtain ⟨Ao30, co30, eo30⟩ := Kd.R_slice HO559.out
        (first | subst eo30 | (injection eo30 with f1_ f2_ f3_; have f4_ := f1_.symm; have f5_ := f3_.symm; clear f1_ f2_ f3_; subst f4_; subst f5_))
        refine hK.out _ _ ⟨(blk_cell BK552.out 0).trans rfl, (blk_cell BK552.out 1).trans rfl, HS2_⟩ (fun hHeld => ?_)
        clear hK K
        refine norm_ (a' := ?_) ?_ ?_
        rotate_left
        ·show Act.put _ (some 40) _ = _
         simp only [Act.put, sT, s0, sS, i64_w, i32_w]
         rfl
        refine one_ (i := 9) (N := some 41) #[T_, T_, T_, T_, T_, T_, T_, T_, T_, T_, F_] rfl rfl (one_of HT_.out (by kernel_rfl)) (by decide) (fun K hK => ?_)
        refine goes_ Try.func40 (by kernel_rfl) rfl #[.int .i64 (rd t553 x8_1), .slice Ao30 t557.length co30] (by rfl) rfl rfl (by (try simp only [List.map_toArray, List.map_cons, List.map_nil]); first | done | rfl | (simp only [List.length_drop, List.length_take]; rfl)) ?_
        with_reducible refine (elenchusref01_In.calls (rd t553 x8_1) _ _ t557 t560 _ ?side1 ?side2 A27.out).mono ?_
        (case side1 => repeat (first | exact (Kd.R_reads' HO559.out).2.2 | (with_reducible refine Kd.C_alloc ?_ _) | (with_reducible refine Kd.C_drewN ?_ _) | (with_reducible refine Kd.C_drew ?_)))
        (case side2 => exact (Kd.R_reads' HO559.out).2.1)
        rintro e w31 ⟨rfl, hb⟩
        have HS2_ := (hb.cell (World.block_lt_of_cell? _ _ (hHeld.2.2))).trans (hHeld.2.2)
        refine ⟨_, rfl, ?_⟩
        have n0_ := Aside0.mk (Kd.R_below (by (with_reducible repeat (first | apply Kd.R_alloc | apply Kd.R_drewN | apply Kd.R_drew)); exact HO_7.out) hb)
        have n1_ := Aside0.mk (Kd.V_below (by (with_reducible repeat (first | apply vA | apply vN | apply vD)); exact HO_543001.out) hb)
        have n2_ := Aside0.mk (Kd.V_below (by (with_reducible repeat (first | apply vA | apply vN | apply vD)); exact HO_553001.out) hb)
        have n3_ := Aside0.mk (Kd.R_below (by (with_reducible repeat (first | apply Kd.R_alloc | apply Kd.R_drewN | apply Kd.R_drew)); exact HO559.out) hb)
        have n4_ := Aside0.mk (blk_below (g := gb542) (o := .cells #[.int .i64 a0_0, .slice A0_1 l0_1.length c0_1] 25 (0, 0)) (by (with_reducible repeat (first | refine bN ?_ _ | refine bD ?_ | refine bA ?_ _)); exact BK542.out) hb)
        have n5_ := Aside0.mk (blk_below (g := gb552) (o := .cells #[.int .i64 t547, .slice Ao18 t548.length co18] 25 (0, 0)) (by (with_reducible repeat (first | refine bN ?_ _ | refine bD ?_ | refine bA ?_ _)); exact BK552.out) hb)
        have n6_ := Aside0.mk (below_step (by repeat (first | (with_reducible first | exact HB.out | apply wA | apply wN | apply wD | refine wS ?_ GE542.out | refine wS ?_ GE552.out) | exact HB.out)) hb)
        clear HO_7
        clear HO_543001
        clear HO_553001
        clear HO559
        clear BK542
        clear BK552
        clear HB
        have HO_7 := n0_
        have HO_543001 := n1_
        have HO_553001 := n2_
        have HO559 := n3_
        have BK542 := n4_
        have BK552 := n5_
        have HB := n6_
        clear n0_ n1_ n2_ n3_ n4_ n5_ n6_
        (try clear hb)
        (try clear hb2)
        (try clear hk)
        (try clear hi)
        refine hK.out _ _ ⟨(blk_cell BK552.out 0).trans rfl, (blk_cell BK552.out 1).trans rfl, HS2_⟩ (fun hHeld => ?_)
        clear hK K
        refine norm_ (a' := ?_) ?_ ?_
        rotate_left
        ·show Act.put _ (some 41) _ = _
         simp only [Act.put, sT, s0, sS, i64_w, i32_w]
         rfl
        refine pure_ (i := 10) (N := some 42) (v := ?_) (a' := ?_) #[T_, T_, T_, T_, T_, T_, T_, T_, T_, T_, T_] rfl rfl (any_of HT_.out (by kernel_rfl)) (fun _ _ _ h => h) (Or.inl ⟨by rfl, ?_⟩) ?_ ?_
        rotate_left
        ·intro w'
         go_simp
         with_reducible rfl
        rotate_left
        ·simp only [Act.put, sT, s0, sS, i64_w, i32_w]
         rfl
        refine done_ (done_of HT_.out (by kernel_rfl)) ?_
        try go_wp2
        go_meet
        case rel => exact ⟨_, (t560), (by first | rfl | (simp; done) | (simp [*]; done)), H', ⟨by have := HK1.out; first | omega | exact Nat.le_refl _⟩, ⟨by (with_reducible repeat (first | apply Kd.R_alloc | apply Kd.R_drewN | apply Kd.R_drew)); exact Kd.R_mono HO_7.out (fun _ hk => hk.1)⟩, ⟨by (with_reducible repeat (first | apply vA | apply vN | apply vD)); exact Kd.V_mono HO_543001.out (fun _ hk => ⟨hk.1.1, ⟨hk.1.2.1, ⟨hk.1.2.2.1, hk.1.2.2.2⟩⟩⟩)⟩, ⟨by (with_reducible repeat (first | apply vA | apply vN | apply vD)); exact Kd.V_mono HO_553001.out (fun _ hk => ⟨hk.1.1, ⟨hk.1.2.1, ⟨hk.1.2.2.1, hk.1.2.2.2⟩⟩⟩)⟩, ⟨by (with_reducible repeat (first | refine bN ?_ _ | refine bD ?_ | refine bA ?_ _)); exact BK542.out⟩, ⟨by (with_reducible repeat (first | refine bN ?_ _ | refine bD ?_ | refine bA ?_ _)); exact BK552.out⟩, ⟨by repeat (first | (with_reducible first | exact HB.out | apply wA | apply wN | apply wD | refine wS ?_ GE542.out | refine wS ?_ GE552.out) | exact HB.out)⟩⟩
       ·rw [if_neg c25] at H
        exact absurd H (by simp)
      ·rw [if_neg c24] at H
       have c24b0 : (t551 == 0) = false := beq_eq_false_iff_ne.mpr c24
       have c24b1 : (t551 != 0) = true := bne_iff_ne.mpr c24
       (first | rw [c24b0] | (simp only [i64_w, i32_w]; rw [c24b0]) | skip)
       have H' := Aside0.mk H
       clear H
       try go_wp2
       have n0_ := Aside0.mk (Kd.R_drew HO_7.out)
       have n1_ := Aside0.mk (Kd.V_drew HO_543001.out)
       have n2_ := Aside0.mk (Kd.V_drew HO_553001.out)
       have n3_ := Aside0.mk (blk_drew BK542.out)
       have n4_ := Aside0.mk (blk_drew BK552.out)
       have n5_ := Aside0.mk (below_drew1 HB.out)
       clear HO_7
       clear HO_543001
       clear HO_553001
       clear BK542
       clear BK552
       clear HB
       have HO_7 := n0_
       have HO_543001 := n1_
       have HO_553001 := n2_
       have BK542 := n3_
       have BK552 := n4_
       have HB := n5_
       clear n0_ n1_ n2_ n3_ n4_ n5_
       refine start_ (n := 11) (S := fun w' => True) (ds := []) #[F_, F_, F_, F_, F_, F_, F_, F_, F_, F_, F_] (by kernel_rfl) rfl rfl trivial (fun hHeld => ?_); refine with_tabW elenchuslaw04_UnifyShifted.tab8 elenchuslaw04_UnifyShifted.bits8 (fun HT_ HW_ => ?_)
       generalize wr.drew = w32 at HO_7 HO_543001 HO_553001 BK542 BK552 HB hHeld ⊢
       refine pure_ (i := 0) (N := some 32) (v := ?_) (a' := ?_) #[T_, F_, F_, F_, F_, F_, F_, F_, F_, F_, F_] rfl rfl (any_of HT_.out (by kernel_rfl)) (fun _ _ _ h => h) (Or.inl ⟨by rfl, ?_⟩) ?_ ?_
       rotate_left
       ·intro w'
        go_simp
        with_reducible rfl
       rotate_left
       ·simp only [Act.put, sT, s0, sS, i64_w, i32_w]
        rfl
       refine pure_ (i := 1) (N := some 33) (v := ?_) (a' := ?_) #[T_, T_, F_, F_, F_, F_, F_, F_, F_, F_, F_] rfl rfl (any_of HT_.out (by kernel_rfl)) (fun _ _ _ h => h) (Or.inl ⟨by rfl, ?_⟩) ?_ ?_
       rotate_left
       ·intro w'
        go_simp
        with_reducible rfl
       rotate_left
       ·simp only [Act.put, sT, s0, sS, i64_w, i32_w]
        rfl
       refine pure_ (i := 2) (N := some 34) (v := ?_) (a' := ?_) #[T_, T_, T_, F_, F_, F_, F_, F_, F_, F_, F_] rfl rfl (any_of HT_.out (by kernel_rfl)) (fun _ _ _ h => h) (Or.inl ⟨by rfl, ?_⟩) ?_ ?_
       rotate_left
       ·intro w'
        go_simp
        with_reducible rfl
       rotate_left
       ·simp only [Act.put, sT, s0, sS, i64_w, i32_w]
        rfl
       refine pure_ (i := 3) (N := some 35) (v := undef) (a' := ?_) #[T_, T_, T_, T_, F_, F_, F_, F_, F_, F_, F_] rfl rfl (any_of HT_.out (by kernel_rfl)) (fun _ _ _ h => h) (Or.inr ⟨by rfl, rfl⟩) ?_ ?_
       rotate_left
       ·simp only [Act.put, sT, s0, sS, i64_w, i32_w]
        rfl
       refine pure_ (i := 4) (N := some 36) (v := undef) (a' := ?_) #[T_, T_, T_, T_, T_, F_, F_, F_, F_, F_, F_] rfl rfl (any_of HT_.out (by kernel_rfl)) (fun _ _ _ h => h) (Or.inr ⟨by rfl, rfl⟩) ?_ ?_
       rotate_left
       ·simp only [Act.put, sT, s0, sS, i64_w, i32_w]
        rfl
       refine pure_ (i := 5) (N := some 37) (v := undef) (a' := ?_) #[T_, T_, T_, T_, T_, T_, F_, F_, F_, F_, F_] rfl rfl (any_of HT_.out (by kernel_rfl)) (fun _ _ _ h => h) (Or.inr ⟨by rfl, rfl⟩) ?_ ?_
       rotate_left
       ·simp only [Act.put, sT, s0, sS, i64_w, i32_w]
        rfl
       refine pure_ (i := 6) (N := some 38) (v := undef) (a' := ?_) #[T_, T_, T_, T_, T_, T_, T_, F_, F_, F_, F_] rfl rfl (any_of HT_.out (by kernel_rfl)) (fun _ _ _ h => h) (Or.inr ⟨by rfl, rfl⟩) ?_ ?_
       rotate_left
       ·simp only [Act.put, sT, s0, sS, i64_w, i32_w]
        rfl
       refine pure_ (i := 7) (N := some 39) (v := undef) (a' := ?_) #[T_, T_, T_, T_, T_, T_, T_, T_, F_, F_, F_] rfl rfl (any_of HT_.out (by kernel_rfl)) (fun _ _ _ h => h) (Or.inr ⟨by rfl, rfl⟩) ?_ ?_
       rotate_left
       ·simp only [Act.put, sT, s0, sS, i64_w, i32_w]
        rfl
       refine pure_ (i := 8) (N := some 40) (v := undef) (a' := ?_) #[T_, T_, T_, T_, T_, T_, T_, T_, T_, F_, F_] rfl rfl (any_of HT_.out (by kernel_rfl)) (fun _ _ _ h => h) (Or.inr ⟨by rfl, rfl⟩) ?_ ?_
       rotate_left
       ·simp only [Act.put, sT, s0, sS, i64_w, i32_w]
        rfl
       refine pure_ (i := 9) (N := some 41) (v := undef) (a' := ?_) #[T_, T_, T_, T_, T_, T_, T_, T_, T_, T_, F_] rfl rfl (any_of HT_.out (by kernel_rfl)) (fun _ _ _ h => h) (Or.inr ⟨by rfl, rfl⟩) ?_ ?_
       rotate_left
       ·simp only [Act.put, sT, s0, sS, i64_w, i32_w]
        rfl
       refine pure_ (i := 10) (N := some 42) (v := ?_) (a' := ?_) #[T_, T_, T_, T_, T_, T_, T_, T_, T_, T_, T_] rfl rfl (any_of HT_.out (by kernel_rfl)) (fun _ _ _ h => h) (Or.inl ⟨by rfl, ?_⟩) ?_ ?_
       rotate_left
       ·intro w'
        go_simp
        with_reducible rfl
       rotate_left
       ·simp only [Act.put, sT, s0, sS, i64_w, i32_w]
        rfl
       refine done_ (done_of HT_.out (by kernel_rfl)) ?_
       try go_wp2
       go_meet
       case rel => exact ⟨_, (false), (by first | rfl | (simp; done) | (simp [*]; done)), H', ⟨by have := HK1.out; first | omega | exact Nat.le_refl _⟩, ⟨by (with_reducible repeat (first | apply Kd.R_alloc | apply Kd.R_drewN | apply Kd.R_drew)); exact HO_7.out⟩, ⟨by (with_reducible repeat (first | apply vA | apply vN | apply vD)); exact HO_543001.out⟩, ⟨by (with_reducible repeat (first | apply vA | apply vN | apply vD)); exact HO_553001.out⟩, ⟨by (with_reducible repeat (first | refine bN ?_ _ | refine bD ?_ | refine bA ?_ _)); exact BK542.out⟩, ⟨by (with_reducible repeat (first | refine bN ?_ _ | refine bD ?_ | refine bA ?_ _)); exact BK552.out⟩, ⟨by repeat (first | (with_reducible first | exact HB.out | apply wA | apply wN | apply wD | refine wS ?_ GE542.out | refine wS ?_ GE552.out) | exact HB.out)⟩⟩
     case rest =>
      clear HC22
      try clear c1
      try clear c2
      try clear p2
      try clear c4
      try clear c5
      try clear p5
      try clear q5
      try clear hx5
      try clear c7
      try clear c16
      try clear c21
      try clear c21b0
      try clear c24
      try clear c24b0
      try clear c24b1
      try clear c25
      try clear c25b0
      try clear c29
      try clear hcz13_0
      try clear hcz13_1
      try clear hcz17_0
      try clear hcz17_1
      try clear hcz19_0
      try clear hcz19_1
      try clear hcz8_0
      try clear hcz8_1
      try clear hfz13_0
      try clear hfz13_1
      try clear hfz17_0
      try clear hfz17_1
      try clear hfz19_0
      try clear hfz19_1
      try clear hfz8_0
      try clear hfz8_1
      try clear hx556_0
      try clear p2
      try clear p556
      try clear q556
      obtain ⟨kq, x42_21, rfl, HA, HJ21, HO_7, HO_543001, HO_553001, BK542, BK552, HB⟩ := hcut
      cases kq with
      | zero => exact absurd HA.out (by simp [elenchuslaw04_UnifyShifted.j1])
      | succ kj21 =>
       have H := HA.out
       clear HA
       simp only [elenchuslaw04_UnifyShifted.j1] at H
       by_cases c33 : x42_21 = true
       ·subst c33
        have H1 : ((elenchuslaw04_awake.f).bind fun t561 => (some t561)) = some r := by rw [if_pos rfl] at H; exact H
        clear H
        have H := H1
        clear H1
        replace H := Option.bind_eq_some_iff.mp H
        obtain ⟨t561, A340, H⟩ := H
        replace H : (some t561) = some r := H
        have A34 := Aside0.mk A340
        clear A340
        obtain rfl := Option.some.inj H
        go_wp2_with (first | ((with_reducible refine gate_callee (f := 57) rfl ?_); refine goesL_ (some 43) rfl rfl Try.func57 (by kernel_rfl) rfl #[] rfl (by (try simp only [List.map_toArray, List.map_cons, List.map_nil]); first | done | rfl | (simp only [List.length_drop, List.length_take]; rfl)) ?_; (with_reducible refine (elenchuslaw04_awake.calls  t561 _ A34.out).mono ?_); rintro e w35 ⟨rfl, hb⟩; refine ⟨_, rfl, ?_⟩; have n0_ := Aside0.mk (Kd.R_below (by (with_reducible repeat (first | apply Kd.R_alloc | apply Kd.R_drewN | apply Kd.R_drew)); exact HO_7.out) hb); have n1_ := Aside0.mk (Kd.V_below (by (with_reducible repeat (first | apply vA | apply vN | apply vD)); exact HO_543001.out) hb); have n2_ := Aside0.mk (Kd.V_below (by (with_reducible repeat (first | apply vA | apply vN | apply vD)); exact HO_553001.out) hb); have n3_ := Aside0.mk (blk_below (g := gb542) (o := .cells #[.int .i64 a0_0, .slice A0_1 l0_1.length c0_1] 25 (0, 0)) (by (with_reducible repeat (first | refine bN ?_ _ | refine bD ?_ | refine bA ?_ _)); exact BK542.out) hb); have n4_ := Aside0.mk (blk_below (g := gb552) (o := .cells #[.int .i64 t547, .slice Ao18 t548.length co18] 25 (0, 0)) (by (with_reducible repeat (first | refine bN ?_ _ | refine bD ?_ | refine bA ?_ _)); exact BK552.out) hb); have n5_ := Aside0.mk (below_step (by repeat (first | (with_reducible first | exact HB.out | apply wA | apply wN | apply wD | refine wS ?_ GE542.out | refine wS ?_ GE552.out) | exact HB.out)) hb); clear HO_7; clear HO_543001; clear HO_553001; clear BK542; clear BK552; clear HB; have HO_7 := n0_; have HO_543001 := n1_; have HO_553001 := n2_; have BK542 := n3_; have BK552 := n4_; have HB := n5_; clear n0_ n1_ n2_ n3_ n4_ n5_; (try clear hb); (try clear hb2); (try clear hk); (try clear hi)))
        go_ret
        exact ⟨by first | rfl | (simp [errW_none, errW_some] <;> rfl) | (simp [*, errW_none, errW_some] <;> rfl), by repeat (first | (with_reducible first | exact HB.out | apply wA | apply wN | apply wD | refine wS ?_ GE542.out | refine wS ?_ GE552.out) | exact HB.out)⟩
       ·replace c33 := Bool.eq_false_iff.mpr c33
        subst c33
        have H1 : (elenchuslaw04_UnifyShifted.l0 kj21 t551 t553 (wrap64 (x8_1 + 1)) a0_0 l0_1 t547 t548) = some r := by rw [if_neg (show ¬ (false = true) by decide)] at H; exact H
        clear H
        have H := H1
        clear H1
        have H' := Aside0.mk H
        clear H
        go_wp2
        go_roundg kj21
        case measure => have := HK1.out; have := HJ21.out; omega
        case rel => exact ⟨(wrap64 (x8_1 + 1)), (by first | rfl | (simp; done) | (simp [*]; done)), H', ⟨by have := HK1.out; have := HJ21.out; omega⟩, ⟨by (with_reducible repeat (first | apply Kd.R_alloc | apply Kd.R_drewN | apply Kd.R_drew)); exact HO_7.out⟩, ⟨by (with_reducible repeat (first | apply vA | apply vN | apply vD)); exact HO_543001.out⟩, ⟨by (with_reducible repeat (first | apply vA | apply vN | apply vD)); exact HO_553001.out⟩, ⟨by (with_reducible repeat (first | refine bN ?_ _ | refine bD ?_ | refine bA ?_ _)); exact BK542.out⟩, ⟨by (with_reducible repeat (first | refine bN ?_ _ | refine bD ?_ | refine bA ?_ _)); exact BK552.out⟩, ⟨by repeat (first | (with_reducible first | exact HB.out | apply wA | apply wN | apply wD | refine wS ?_ GE542.out | refine wS ?_ GE552.out) | exact HB.out)⟩⟩
    ·rw [if_neg c21] at H
     have c21b0 : decide (x8_1 < (t553.length : Int)) = false := decide_eq_false c21
     clear c21
     by_cases c36 : t551 = 0
     ·rw [if_pos c36] at H
      have c36b0 : (t551 == 0) = true := beq_iff_eq.mpr c36
      have c36b1 : (t551 != 0) = false := bne_eq_false_iff_eq.mpr c36
      clear c36
      replace H := Option.bind_eq_some_iff.mp H
      obtain ⟨⟨t563, t566, t567⟩, A370, H⟩ := H
      replace H : ((subst_Apply.f t563 a0_0 l0_1).bind fun bt568 => ((elenchuslaw04_awake.f).bind fun t574 => (if t574 = true then (if t566 = true then (if t567 = 0 then (if bt568.2.2 = 0 then ((elenchusref01_Size.f k1 bt568.1 bt568.2.1).bind fun t575 => ((elenchusref01_Size.f k1 a0_0 l0_1).bind fun t576 => (if t575 = t576 then (some ((t563.length : Int) == (t553.length : Int))) else (some false)))) else (some false)) else (some false)) else (some false)) else (some false)))) = some r := H
      have A37 := Aside0.mk A370
      clear A370
      replace H := Option.bind_eq_some_iff.mp H
      obtain ⟨⟨t568, t569, t572⟩, A380, H⟩ := H
      replace H : ((elenchuslaw04_awake.f).bind fun t574 => (if t574 = true then (if t566 = true then (if t567 = 0 then (if t572 = 0 then ((elenchusref01_Size.f k1 t568 t569).bind fun t575 => ((elenchusref01_Size.f k1 a0_0 l0_1).bind fun t576 => (if t575 = t576 then (some ((t563.length : Int) == (t553.length : Int))) else (some false)))) else (some false)) else (some false)) else (some false)) else (some false))) = some r := H
      have A38 := Aside0.mk A380
      clear A380
      replace H := Option.bind_eq_some_iff.mp H
      obtain ⟨t574, A390, H⟩ := H
      replace H : (if t574 = true then (if t566 = true then (if t567 = 0 then (if t572 = 0 then ((elenchusref01_Size.f k1 t568 t569).bind fun t575 => ((elenchusref01_Size.f k1 a0_0 l0_1).bind fun t576 => (if t575 = t576 then (some ((t563.length : Int) == (t553.length : Int))) else (some false)))) else (some false)) else (some false)) else (some false)) else (some false)) = some r := H
      have A39 := Aside0.mk A390
      clear A390
      by_cases c40 : t574 = true
      ·subst c40
       have H1 : (if t566 = true then (if t567 = 0 then (if t572 = 0 then ((elenchusref01_Size.f k1 t568 t569).bind fun t575 => ((elenchusref01_Size.f k1 a0_0 l0_1).bind fun t576 => (if t575 = t576 then (some ((t563.length : Int) == (t553.length : Int))) else (some false)))) else (some false)) else (some false)) else (some false)) = some r := by rw [if_pos rfl] at H; exact H
       clear H
       have H := H1
       clear H1
       by_cases c41 : t566 = true
       ·subst c41
        have H1 : (if t567 = 0 then (if t572 = 0 then ((elenchusref01_Size.f k1 t568 t569).bind fun t575 => ((elenchusref01_Size.f k1 a0_0 l0_1).bind fun t576 => (if t575 = t576 then (some ((t563.length : Int) == (t553.length : Int))) else (some false)))) else (some false)) else (some false)) = some r := by rw [if_pos rfl] at H; exact H
        clear H
        have H := H1
        clear H1
        by_cases c42 : t567 = 0
        ·rw [if_pos c42] at H
         have c42b0 : (t567 == 0) = true := beq_iff_eq.mpr c42
         have c42b1 : (t567 != 0) = false := bne_eq_false_iff_eq.mpr c42
         clear c42
         by_cases c43 : t572 = 0
         ·rw [if_pos c43] at H
          have c43b0 : (t572 == 0) = true := beq_iff_eq.mpr c43
          have c43b1 : (t572 != 0) = false := bne_eq_false_iff_eq.mpr c43
          clear c43
          replace H := Option.bind_eq_some_iff.mp H
          obtain ⟨t575, A440, H⟩ := H
          replace H : ((elenchusref01_Size.f k1 a0_0 l0_1).bind fun t576 => (if t575 = t576 then (some ((t563.length : Int) == (t553.length : Int))) else (some false))) = some r := H
          have A44 := Aside0.mk A440
          clear A440
          replace H := Option.bind_eq_some_iff.mp H
          obtain ⟨t576, A450, H⟩ := H
          replace H : (if t575 = t576 then (some ((t563.length : Int) == (t553.length : Int))) else (some false)) = some r := H
          have A45 := Aside0.mk A450
          clear A450
          by_cases c46 : t575 = t576
          ·rw [if_pos c46] at H
           have c46b0 : (t575 == t576) = true := beq_iff_eq.mpr c46
           have c46b1 : (t575 != t576) = false := bne_eq_false_iff_eq.mpr c46
           clear c46
           obtain rfl := Option.some.inj H
           obtain ⟨Ao47, co47, eo47⟩ := Kd.R_slice HO_7.out
           subst eo47
           have hnb48 := NB542_552.out
           have hnc48 := NB552_542.out
           have hcz49_0 : wr.cell? ⟨gb542, 0, none⟩ = some (.int .i64 a0_0) := (blk_cell BK542.out 0).trans rfl
           have hcz49_1 : wr.cell? ⟨gb542, 1, none⟩ = some (.slice A0_1 l0_1.length c0_1) := (blk_cell BK542.out 1).trans rfl
           have hfz49_0 := blk_frozen BK542.out 0
           have hfz49_1 := blk_frozen BK542.out 1
           have hcz50_0 : wr.cell? ⟨gb552, 0, none⟩ = some (.int .i64 t547) := (blk_cell BK552.out 0).trans rfl
           have hcz50_1 : wr.cell? ⟨gb552, 1, none⟩ = some (.slice Ao18 t548.length co18) := (blk_cell BK552.out 1).trans rfl
           have hfz50_0 := blk_frozen BK552.out 0
           have hfz50_1 := blk_frozen BK552.out 1
           try go_wp2_with (first | ((with_reducible refine gate_callee (f := 55) rfl ?_); refine goesL_ (some 50) rfl rfl Try.func55 (by kernel_rfl) rfl #[.agg #[.int .i64 a0_0, .slice A0_1 l0_1.length c0_1], .agg #[.int .i64 t547, .slice Ao18 t548.length co18]] rfl (by (try simp only [List.map_toArray, List.map_cons, List.map_nil]); first | done | rfl | (simp only [List.length_drop, List.length_take]; rfl)) ?_; (with_reducible refine (unify_Mgu.calls a0_0 (fun k_ => ((P0_1_ k_ ∨ w.heap.size ≤ k_) ∧ (some k_ ≠ (.slice Ao47 t553.length co47 : Value).ownBlock ∧ (k_ ≠ gb542 ∧ k_ ≠ gb552)))) _ _ l0_1 t547 (fun k_ => ((P0_1_ k_ ∨ w.heap.size ≤ k_) ∧ (some k_ ≠ (.slice Ao47 t553.length co47 : Value).ownBlock ∧ (k_ ≠ gb542 ∧ k_ ≠ gb552)))) _ _ t548 t563 true t567 _ ?side1 ?side2 A37.out).mono ?_); (case side1 => exact HO_543001.out); (case side2 => exact HO_553001.out); rintro e w51 ⟨v564, rfl, ho0, hb⟩; refine ⟨_, rfl, ?_⟩; have n0_ := Aside0.mk (Kd.R_below (by (with_reducible repeat (first | apply Kd.R_alloc | apply Kd.R_drewN | apply Kd.R_drew)); exact HO_7.out) hb); have n1_ := Aside0.mk (Kd.V_below (by (with_reducible repeat (first | apply vA | apply vN | apply vD)); exact HO_543001.out) hb); have n2_ := Aside0.mk (Kd.V_below (by (with_reducible repeat (first | apply vA | apply vN | apply vD)); exact HO_553001.out) hb); have n3_ := Aside0.mk (Kd.V_lower (Kd.V_mono (ok' := fun k_ => (P0_1_ k_ ∨ w.heap.size ≤ k_) ∧ some k_ ≠ (.slice Ao47 t553.length co47 : Value).ownBlock ∧ k_ ≠ gb542 ∧ k_ ≠ gb552) ho0 (fun k_ hk_ => ⟨Or.elim hk_ (fun hs_ => Or.elim hs_ (fun hs_ => hs_.1) (fun hs_ => hs_.1)) (fun hn_ => (.inr (Nat.le_trans (below_size (by repeat (first | (with_reducible first | exact HB.out | apply wA | apply wN | apply wD | refine wS ?_ GE542.out | refine wS ?_ GE552.out) | exact HB.out))) hn_))), Or.elim hk_ (fun hs_ => Or.elim hs_ (fun hs_ => hs_.2.1) (fun hs_ => hs_.2.1)) (fun hn_ => (Kd.fresh' (Kd.R_lt (by (with_reducible repeat (first | apply Kd.R_alloc | apply Kd.R_drewN | apply Kd.R_drew)); exact HO_7.out)) k_ hn_)), Or.elim hk_ (fun hs_ => Or.elim hs_ (fun hs_ => hs_.2.2.1) (fun hs_ => hs_.2.2.1)) (fun hn_ => (Kd.freshB (g := gb542) (o := .cells #[.int .i64 a0_0, .slice A0_1 l0_1.length c0_1] 25 (0, 0)) (by (with_reducible repeat (first | refine bN ?_ _ | refine bD ?_ | refine bA ?_ _)); exact BK542.out) k_ hn_)), Or.elim hk_ (fun hs_ => Or.elim hs_ (fun hs_ => hs_.2.2.2) (fun hs_ => hs_.2.2.2)) (fun hn_ => (Kd.freshB (g := gb552) (o := .cells #[.int .i64 t547, .slice Ao18 t548.length co18] 25 (0, 0)) (by (with_reducible repeat (first | refine bN ?_ _ | refine bD ?_ | refine bA ?_ _)); exact BK552.out) k_ hn_))⟩)) (below_size (by repeat (first | (with_reducible first | exact HB.out | apply wA | apply wN | apply wD | refine wS ?_ GE542.out | refine wS ?_ GE552.out) | exact HB.out)))); have n4_ := Aside0.mk (blk_below (g := gb542) (o := .cells #[.int .i64 a0_0, .slice A0_1 l0_1.length c0_1] 25 (0, 0)) (by (with_reducible repeat (first | refine bN ?_ _ | refine bD ?_ | refine bA ?_ _)); exact BK542.out) hb); have n5_ := Aside0.mk (blk_below (g := gb552) (o := .cells #[.int .i64 t547, .slice Ao18 t548.length co18] 25 (0, 0)) (by (with_reducible repeat (first | refine bN ?_ _ | refine bD ?_ | refine bA ?_ _)); exact BK552.out) hb); have n6_ := Aside0.mk (below_step (by repeat (first | (with_reducible first | exact HB.out | apply wA | apply wN | apply wD | refine wS ?_ GE542.out | refine wS ?_ GE552.out) | exact HB.out)) hb); clear HO_7; clear HO_543001; clear HO_553001; clear BK542; clear BK552; clear HB; have HO_7 := n0_; have HO_543001 := n1_; have HO_553001 := n2_; have HO565 := n3_; have BK542 := n4_; have BK552 := n5_; have HB := n6_; clear n0_ n1_ n2_ n3_ n4_ n5_ n6_; (try clear hb); (try clear hb2); (try clear hk); (try clear hi); (try clear ho0); have hcz52_0 : w51.cell? ⟨gb542, 0, none⟩ = some (.int .i64 a0_0) := (blk_cell BK542.out 0).trans rfl; have hcz52_1 : w51.cell? ⟨gb542, 1, none⟩ = some (.slice A0_1 l0_1.length c0_1) := (blk_cell BK542.out 1).trans rfl; have hfz52_0 := blk_frozen BK542.out 0; have hfz52_1 := blk_frozen BK542.out 1; obtain ⟨Ao53, co53, eo53⟩ := Kd.V_slice HO565.out; subst eo53) | ((with_reducible refine gate_callee (f := 27) rfl ?_); refine goesL_ (some 57) rfl rfl Try.func27 (by kernel_rfl) rfl #[.slice Ao53 t563.length co53, .agg #[.int .i64 a0_0, .slice A0_1 l0_1.length c0_1]] rfl (by (try simp only [List.map_toArray, List.map_cons, List.map_nil]); first | done | rfl | (simp only [List.length_drop, List.length_take]; rfl)) ?_; (with_reducible refine (subst_Apply.calls (fun k_ => ((P0_1_ k_ ∨ w.heap.size ≤ k_) ∧ (some k_ ≠ (.slice Ao47 t553.length co47 : Value).ownBlock ∧ (k_ ≠ gb542 ∧ k_ ≠ gb552)))) _ _ t563 a0_0 (fun k_ => ((P0_1_ k_ ∨ w.heap.size ≤ k_) ∧ (some k_ ≠ (.slice Ao47 t553.length co47 : Value).ownBlock ∧ (k_ ≠ gb542 ∧ k_ ≠ gb552)))) _ _ l0_1 t568 t569 t572 _ ?side1 ?side2 A38.out).mono ?_); (case side1 => exact HO565.out); (case side2 => exact HO_543001.out); rintro e w54 ⟨v570, rfl, ho0, hb⟩; refine ⟨_, rfl, ?_⟩; have n0_ := Aside0.mk (Kd.R_below (by (with_reducible repeat (first | apply Kd.R_alloc | apply Kd.R_drewN | apply Kd.R_drew)); exact HO_7.out) hb); have n1_ := Aside0.mk (Kd.V_below (by (with_reducible repeat (first | apply vA | apply vN | apply vD)); exact HO_543001.out) hb); have n2_ := Aside0.mk (Kd.V_below (by (with_reducible repeat (first | apply vA | apply vN | apply vD)); exact HO_553001.out) hb); have n3_ := Aside0.mk (Kd.V_below (by (with_reducible repeat (first | apply vA | apply vN | apply vD)); exact HO565.out) hb); have n4_ := Aside0.mk (Kd.V_lower (Kd.V_mono (ok' := fun k_ => (P0_1_ k_ ∨ w.heap.size ≤ k_) ∧ some k_ ≠ (.slice Ao47 t553.length co47 : Value).ownBlock ∧ k_ ≠ gb542 ∧ k_ ≠ gb552) ho0 (fun k_ hk_ => ⟨Or.elim hk_ (fun hs_ => Or.elim hs_ (fun hs_ => hs_.1) (fun hs_ => hs_.1)) (fun hn_ => (.inr (Nat.le_trans (below_size (by repeat (first | (with_reducible first | exact HB.out | apply wA | apply wN | apply wD | refine wS ?_ GE542.out | refine wS ?_ GE552.out) | exact HB.out))) hn_))), Or.elim hk_ (fun hs_ => Or.elim hs_ (fun hs_ => hs_.2.1) (fun hs_ => hs_.2.1)) (fun hn_ => (Kd.fresh' (Kd.R_lt (by (with_reducible repeat (first | apply Kd.R_alloc | apply Kd.R_drewN | apply Kd.R_drew)); exact HO_7.out)) k_ hn_)), Or.elim hk_ (fun hs_ => Or.elim hs_ (fun hs_ => hs_.2.2.1) (fun hs_ => hs_.2.2.1)) (fun hn_ => (Kd.freshB (g := gb542) (o := .cells #[.int .i64 a0_0, .slice A0_1 l0_1.length c0_1] 25 (0, 0)) (by (with_reducible repeat (first | refine bN ?_ _ | refine bD ?_ | refine bA ?_ _)); exact BK542.out) k_ hn_)), Or.elim hk_ (fun hs_ => Or.elim hs_ (fun hs_ => hs_.2.2.2) (fun hs_ => hs_.2.2.2)) (fun hn_ => (Kd.freshB (g := gb552) (o := .cells #[.int .i64 t547, .slice Ao18 t548.length co18] 25 (0, 0)) (by (with_reducible repeat (first | refine bN ?_ _ | refine bD ?_ | refine bA ?_ _)); exact BK552.out) k_ hn_))⟩)) (below_size (by repeat (first | (with_reducible first | exact HB.out | apply wA | apply wN | apply wD | refine wS ?_ GE542.out | refine wS ?_ GE552.out) | exact HB.out)))); have n5_ := Aside0.mk (blk_below (g := gb542) (o := .cells #[.int .i64 a0_0, .slice A0_1 l0_1.length c0_1] 25 (0, 0)) (by (with_reducible repeat (first | refine bN ?_ _ | refine bD ?_ | refine bA ?_ _)); exact BK542.out) hb); have n6_ := Aside0.mk (blk_below (g := gb552) (o := .cells #[.int .i64 t547, .slice Ao18 t548.length co18] 25 (0, 0)) (by (with_reducible repeat (first | refine bN ?_ _ | refine bD ?_ | refine bA ?_ _)); exact BK552.out) hb); have n7_ := Aside0.mk (below_step (by repeat (first | (with_reducible first | exact HB.out | apply wA | apply wN | apply wD | refine wS ?_ GE542.out | refine wS ?_ GE552.out) | exact HB.out)) hb); clear HO_7; clear HO_543001; clear HO_553001; clear HO565; clear BK542; clear BK552; clear HB; have HO_7 := n0_; have HO_543001 := n1_; have HO_553001 := n2_; have HO565 := n3_; have HO571 := n4_; have BK542 := n5_; have BK552 := n6_; have HB := n7_; clear n0_ n1_ n2_ n3_ n4_ n5_ n6_ n7_; (try clear hb); (try clear hb2); (try clear hk); (try clear hi); (try clear ho0)) | ((with_reducible refine gate_dst (N := 12) rfl ?_); (try (refine gate_guard (by rfl) ?_; dsimp only)); refine box_event ?hg (N := 12) ?hd (cs := #[.int .i64 0, .slice none 0 0]) (t := 25) ?hr ?_; (case hd => rfl); (case hg => rfl); (case hr => first | (go_simp; done) | (go_simp; rfl)); intro gb573 hg w55 hbox hb; have n0_ := Aside0.mk (Kd.R_below (by (with_reducible repeat (first | apply Kd.R_alloc | apply Kd.R_drewN | apply Kd.R_drew)); exact HO_7.out) hb); have n1_ := Aside0.mk (Kd.V_below (Kd.V_elderB (by (with_reducible repeat (first | apply vA | apply vN | apply vD)); exact HO_543001.out) gb573 (Nat.le_of_eq hg.symm)) hb); have n2_ := Aside0.mk (Kd.V_below (Kd.V_elderB (by (with_reducible repeat (first | apply vA | apply vN | apply vD)); exact HO_553001.out) gb573 (Nat.le_of_eq hg.symm)) hb); have n3_ := Aside0.mk (Kd.V_below (Kd.V_elderB (by (with_reducible repeat (first | apply vA | apply vN | apply vD)); exact HO565.out) gb573 (Nat.le_of_eq hg.symm)) hb); have n4_ := Aside0.mk (Kd.V_below (Kd.V_elderB (by (with_reducible repeat (first | apply vA | apply vN | apply vD)); exact HO571.out) gb573 (Nat.le_of_eq hg.symm)) hb); have n5_ := Aside0.mk (blk_below (g := gb542) (o := .cells #[.int .i64 a0_0, .slice A0_1 l0_1.length c0_1] 25 (0, 0)) (by (with_reducible repeat (first | refine bN ?_ _ | refine bD ?_ | refine bA ?_ _)); exact BK542.out) hb); have n6_ := Aside0.mk (blk_below (g := gb552) (o := .cells #[.int .i64 t547, .slice Ao18 t548.length co18] 25 (0, 0)) (by (with_reducible repeat (first | refine bN ?_ _ | refine bD ?_ | refine bA ?_ _)); exact BK552.out) hb); have n7_ := Aside0.mk (below_step (by repeat (first | (with_reducible first | exact HB.out | apply wA | apply wN | apply wD | refine wS ?_ GE542.out | refine wS ?_ GE552.out) | exact HB.out)) hb); have n8_ := Aside0.mk (hbox); have n9_ := Aside0.mk ((by rw [hg]; exact (below_size (by repeat (first | (with_reducible first | exact HB.out | apply wA | apply wN | apply wD | refine wS ?_ GE542.out | refine wS ?_ GE552.out) | exact HB.out))) : w.heap.size ≤ gb573)); have n10_ := Aside0.mk ((by rw [hg]; exact (below_size (by repeat (first | (with_reducible first | exact HB.out | apply wA | apply wN | apply wD | refine wS ?_ GE542.out | refine wS ?_ GE552.out) | exact HB.out))) : w.heap.size ≤ gb573)); have n11_ := Aside0.mk ((by rw [hg]; exact Nat.ne_of_lt (blk_lt (g := gb542) (o := .cells #[.int .i64 a0_0, .slice A0_1 l0_1.length c0_1] 25 (0, 0)) (by (with_reducible repeat (first | refine bN ?_ _ | refine bD ?_ | refine bA ?_ _)); exact BK542.out)) : gb542 ≠ gb573)); have n12_ := Aside0.mk ((by rw [hg]; exact Nat.ne_of_gt (blk_lt (g := gb542) (o := .cells #[.int .i64 a0_0, .slice A0_1 l0_1.length c0_1] 25 (0, 0)) (by (with_reducible repeat (first | refine bN ?_ _ | refine bD ?_ | refine bA ?_ _)); exact BK542.out)) : gb573 ≠ gb542)); have n13_ := Aside0.mk ((by rw [hg]; exact Nat.ne_of_lt (blk_lt (g := gb552) (o := .cells #[.int .i64 t547, .slice Ao18 t548.length co18] 25 (0, 0)) (by (with_reducible repeat (first | refine bN ?_ _ | refine bD ?_ | refine bA ?_ _)); exact BK552.out)) : gb552 ≠ gb573)); have n14_ := Aside0.mk ((by rw [hg]; exact Nat.ne_of_gt (blk_lt (g := gb552) (o := .cells #[.int .i64 t547, .slice Ao18 t548.length co18] 25 (0, 0)) (by (with_reducible repeat (first | refine bN ?_ _ | refine bD ?_ | refine bA ?_ _)); exact BK552.out)) : gb573 ≠ gb552)); clear HO_7; clear HO_543001; clear HO_553001; clear HO565; clear HO571; clear BK542; clear BK552; clear HB; have HO_7 := n0_; have HO_543001 := n1_; have HO_553001 := n2_; have HO565 := n3_; have HO571 := n4_; have BK542 := n5_; have BK552 := n6_; have HB := n7_; have BK573 := n8_; have GW573 := n9_; have GE573 := n10_; have NB542_573 := n11_; have NB573_542 := n12_; have NB552_573 := n13_; have NB573_552 := n14_; clear n0_ n1_ n2_ n3_ n4_ n5_ n6_ n7_ n8_ n9_ n10_ n11_ n12_ n13_ n14_; clear hb hbox hg; have hnb56 := NB573_542.out; have hnc56 := NB542_573.out; have hnb57 := NB573_552.out; have hnc57 := NB552_573.out; have hcz58_0 : w55.cell? ⟨gb573, 0, none⟩ = some (.int .i64 0) := (blk_cell BK573.out 0).trans rfl; have hcz58_1 : w55.cell? ⟨gb573, 1, none⟩ = some (.slice none 0 0) := (blk_cell BK573.out 1).trans rfl; have hfz58_0 := blk_frozen BK573.out 0; have hfz58_1 := blk_frozen BK573.out 1; obtain ⟨Ao59, co59, eo59⟩ := Kd.V_slice HO571.out; subst eo59))
           have n0_ : Aside0 (Kd.R (Kd.int .i64) 3 ((w55.setCell ⟨gb573, 0, none⟩ (.int .i64 t568)).setCell ⟨gb573, 1, none⟩ (.slice Ao59 t569.length co59)) w.heap.size (fun k_ => (w.heap.size ≤ k_)) (.slice Ao47 t553.length co47) t553) := ⟨by (with_reducible repeat (first | apply Kd.R_alloc | apply Kd.R_drewN | apply Kd.R_drew)); exact Kd.R_mono (Kd.R_far (p := ⟨gb573, 1, none⟩) (Kd.R_far (p := ⟨gb573, 0, none⟩) (Kd.R_types HO_7.out BK573.out (by decide)) (fun _ hk => hk.2) (.int .i64 t568)) (fun _ hk => hk.2) (.slice Ao59 t569.length co59)) (fun _ hk => hk.1)⟩
           have n1_ : Aside0 (Kd.V k25 25 ((w55.setCell ⟨gb573, 0, none⟩ (.int .i64 t568)).setCell ⟨gb573, 1, none⟩ (.slice Ao59 t569.length co59)) w.heap.size (fun k_ => (P0_1_ k_ ∨ w.heap.size ≤ k_) ∧ some k_ ≠ (.slice Ao47 t553.length co47 : Value).ownBlock ∧ k_ ≠ gb542 ∧ k_ ≠ gb552 ∧ k_ ≠ gb573) (.slice A0_1 l0_1.length c0_1) l0_1) := ⟨by (with_reducible repeat (first | apply vA | apply vN | apply vD)); exact Kd.V_mono (Kd.V_far (p := ⟨gb573, 1, none⟩) (Kd.V_far (p := ⟨gb573, 0, none⟩) (Kd.V_mono HO_543001.out (fun k_ hk => (⟨hk, hk.2⟩ : _ ∧ k_ ≠ gb573))) (fun _ hk => hk.2) (.int .i64 t568)) (fun _ hk => hk.2) (.slice Ao59 t569.length co59)) (fun _ hk => ⟨hk.1.1.1, ⟨hk.1.1.2.1, ⟨hk.1.1.2.2.1, ⟨hk.1.1.2.2.2, hk.1.2⟩⟩⟩⟩)⟩
           have n2_ : Aside0 (Kd.V k25 25 ((w55.setCell ⟨gb573, 0, none⟩ (.int .i64 t568)).setCell ⟨gb573, 1, none⟩ (.slice Ao59 t569.length co59)) w.heap.size (fun k_ => (P0_1_ k_ ∨ w.heap.size ≤ k_) ∧ some k_ ≠ (.slice Ao47 t553.length co47 : Value).ownBlock ∧ k_ ≠ gb542 ∧ k_ ≠ gb552 ∧ k_ ≠ gb573) (.slice Ao18 t548.length co18) t548) := ⟨by (with_reducible repeat (first | apply vA | apply vN | apply vD)); exact Kd.V_mono (Kd.V_far (p := ⟨gb573, 1, none⟩) (Kd.V_far (p := ⟨gb573, 0, none⟩) (Kd.V_mono HO_553001.out (fun k_ hk => (⟨hk, hk.2⟩ : _ ∧ k_ ≠ gb573))) (fun _ hk => hk.2) (.int .i64 t568)) (fun _ hk => hk.2) (.slice Ao59 t569.length co59)) (fun _ hk => ⟨hk.1.1.1, ⟨hk.1.1.2.1, ⟨hk.1.1.2.2.1, ⟨hk.1.1.2.2.2, hk.1.2⟩⟩⟩⟩)⟩
           have n3_ : Aside0 (Kd.V k60 60 ((w55.setCell ⟨gb573, 0, none⟩ (.int .i64 t568)).setCell ⟨gb573, 1, none⟩ (.slice Ao59 t569.length co59)) w.heap.size (fun k_ => (P0_1_ k_ ∨ w.heap.size ≤ k_) ∧ some k_ ≠ (.slice Ao47 t553.length co47 : Value).ownBlock ∧ k_ ≠ gb542 ∧ k_ ≠ gb552 ∧ k_ ≠ gb573) (.slice Ao53 t563.length co53) t563) := ⟨by (with_reducible repeat (first | apply vA | apply vN | apply vD)); exact Kd.V_mono (Kd.V_far (p := ⟨gb573, 1, none⟩) (Kd.V_far (p := ⟨gb573, 0, none⟩) (Kd.V_mono HO565.out (fun k_ hk => (⟨hk, hk.2⟩ : _ ∧ k_ ≠ gb573))) (fun _ hk => hk.2) (.int .i64 t568)) (fun _ hk => hk.2) (.slice Ao59 t569.length co59)) (fun _ hk => ⟨hk.1.1.1, ⟨hk.1.1.2.1, ⟨hk.1.1.2.2.1, ⟨hk.1.1.2.2.2, hk.1.2⟩⟩⟩⟩)⟩
           have n4_ : Aside0 (Kd.V k25 25 ((w55.setCell ⟨gb573, 0, none⟩ (.int .i64 t568)).setCell ⟨gb573, 1, none⟩ (.slice Ao59 t569.length co59)) w.heap.size (fun k_ => (P0_1_ k_ ∨ w.heap.size ≤ k_) ∧ some k_ ≠ (.slice Ao47 t553.length co47 : Value).ownBlock ∧ k_ ≠ gb542 ∧ k_ ≠ gb552 ∧ k_ ≠ gb573) (.slice Ao59 t569.length co59) t569) := ⟨by (with_reducible repeat (first | apply vA | apply vN | apply vD)); exact Kd.V_mono (Kd.V_far (p := ⟨gb573, 1, none⟩) (Kd.V_far (p := ⟨gb573, 0, none⟩) (Kd.V_mono HO571.out (fun k_ hk => (⟨hk, hk.2⟩ : _ ∧ k_ ≠ gb573))) (fun _ hk => hk.2) (.int .i64 t568)) (fun _ hk => hk.2) (.slice Ao59 t569.length co59)) (fun _ hk => ⟨hk.1.1.1, ⟨hk.1.1.2.1, ⟨hk.1.1.2.2.1, ⟨hk.1.1.2.2.2, hk.1.2⟩⟩⟩⟩)⟩
           have n5_ : Aside0 (((w55.setCell ⟨gb573, 0, none⟩ (.int .i64 t568)).setCell ⟨gb573, 1, none⟩ (.slice Ao59 t569.length co59)).heap[gb542]? = some (.cells #[.int .i64 a0_0, .slice A0_1 l0_1.length c0_1] 25 (0, 0))) := ⟨by (with_reducible repeat (first | refine bN ?_ _ | refine bD ?_ | refine bA ?_ _)); refine blk_far ?_ NB542_573.out _; (with_reducible repeat (first | refine bN ?_ _ | refine bD ?_ | refine bA ?_ _)); refine blk_far ?_ NB542_573.out _; (with_reducible repeat (first | refine bN ?_ _ | refine bD ?_ | refine bA ?_ _)); exact BK542.out⟩
           have n6_ : Aside0 (((w55.setCell ⟨gb573, 0, none⟩ (.int .i64 t568)).setCell ⟨gb573, 1, none⟩ (.slice Ao59 t569.length co59)).heap[gb552]? = some (.cells #[.int .i64 t547, .slice Ao18 t548.length co18] 25 (0, 0))) := ⟨by (with_reducible repeat (first | refine bN ?_ _ | refine bD ?_ | refine bA ?_ _)); refine blk_far ?_ NB552_573.out _; (with_reducible repeat (first | refine bN ?_ _ | refine bD ?_ | refine bA ?_ _)); refine blk_far ?_ NB552_573.out _; (with_reducible repeat (first | refine bN ?_ _ | refine bD ?_ | refine bA ?_ _)); exact BK552.out⟩
           have n7_ : Aside0 (((w55.setCell ⟨gb573, 0, none⟩ (.int .i64 t568)).setCell ⟨gb573, 1, none⟩ (.slice Ao59 t569.length co59)).heap[gb573]? = some (.cells #[.int .i64 t568, .slice Ao59 t569.length co59] 25 (0, 0))) := ⟨by (with_reducible repeat (first | refine bN ?_ _ | refine bD ?_ | refine bA ?_ _)); refine blk_put (cs := #[.int .i64 t568, .slice none 0 0]) ?_ 1 _ rfl; (with_reducible repeat (first | refine bN ?_ _ | refine bD ?_ | refine bA ?_ _)); refine blk_put (cs := #[.int .i64 0, .slice none 0 0]) ?_ 0 _ rfl; (with_reducible repeat (first | refine bN ?_ _ | refine bD ?_ | refine bA ?_ _)); exact BK573.out⟩
           have n8_ : Aside0 (Below w.heap.size w ((w55.setCell ⟨gb573, 0, none⟩ (.int .i64 t568)).setCell ⟨gb573, 1, none⟩ (.slice Ao59 t569.length co59))) := ⟨by repeat (first | (with_reducible first | exact HB.out | apply wA | apply wN | apply wD | refine wS ?_ GE542.out | refine wS ?_ GE552.out | refine wS ?_ GE573.out) | exact HB.out)⟩
           (try clear HO_7)
           (try clear HO_543001)
           (try clear HO_553001)
           (try clear HO565)
           (try clear HO571)
           (try clear BK542)
           (try clear BK552)
           (try clear BK573)
           (try clear HB)
           generalize ((w55.setCell ⟨gb573, 0, none⟩ (.int .i64 t568)).setCell ⟨gb573, 1, none⟩ (.slice Ao59 t569.length co59)) = w60 at n0_ n1_ n2_ n3_ n4_ n5_ n6_ n7_ n8_ ⊢
           have HO_7 := n0_
           have HO_543001 := n1_
           have HO_553001 := n2_
           have HO565 := n3_
           have HO571 := n4_
           have BK542 := n5_
           have BK552 := n6_
           have BK573 := n7_
           have HB := n8_
           clear n0_ n1_ n2_ n3_ n4_ n5_ n6_ n7_ n8_
           have n0_ := Aside0.mk (Kd.R_drew HO_7.out)
           have n1_ := Aside0.mk (Kd.V_drew HO_543001.out)
           have n2_ := Aside0.mk (Kd.V_drew HO_553001.out)
           have n3_ := Aside0.mk (Kd.V_drew HO565.out)
           have n4_ := Aside0.mk (Kd.V_drew HO571.out)
           have n5_ := Aside0.mk (blk_drew BK542.out)
           have n6_ := Aside0.mk (blk_drew BK552.out)
           have n7_ := Aside0.mk (blk_drew BK573.out)
           have n8_ := Aside0.mk (below_drew1 HB.out)
           clear HO_7
           clear HO_543001
           clear HO_553001
           clear HO565
           clear HO571
           clear BK542
           clear BK552
           clear BK573
           clear HB
           have HO_7 := n0_
           have HO_543001 := n1_
           have HO_553001 := n2_
           have HO565 := n3_
           have HO571 := n4_
           have BK542 := n5_
           have BK552 := n6_
           have BK573 := n7_
           have HB := n8_
           clear n0_ n1_ n2_ n3_ n4_ n5_ n6_ n7_ n8_
           refine start_ (n := 27) (S := fun w' => w'.cell? ⟨gb573, 0, none⟩ = some (.int .i64 t568) ∧ w'.cell? ⟨gb573, 1, none⟩ = some (.slice Ao59 t569.length co59) ∧ w'.cell? ⟨gb542, 0, none⟩ = some (.int .i64 a0_0) ∧ w'.cell? ⟨gb542, 1, none⟩ = some (.slice A0_1 l0_1.length c0_1)) (ds := []) #[F_, F_, F_, F_, F_, F_, F_, F_, F_, F_, F_, F_, F_, F_, F_, F_, F_, F_, F_, F_, F_, F_, F_, F_, F_, F_, F_] (by kernel_rfl) rfl rfl ⟨(blk_cell BK573.out 0).trans rfl, (blk_cell BK573.out 1).trans rfl, (blk_cell BK542.out 0).trans rfl, (blk_cell BK542.out 1).trans rfl⟩ (fun hHeld => ?_); refine with_tabW elenchuslaw04_UnifyShifted.tab14 elenchuslaw04_UnifyShifted.bits14 (fun HT_ HW_ => ?_)
           generalize w60.drew = w61 at HO_7 HO_543001 HO_553001 HO565 HO571 BK542 BK552 BK573 HB hHeld ⊢
           refine one_ (i := 0) (N := some 60) #[T_, F_, F_, F_, F_, F_, F_, F_, F_, F_, F_, F_, F_, F_, F_, F_, F_, F_, F_, F_, F_, F_, F_, F_, F_, F_, F_] rfl rfl (one_of HT_.out (by kernel_rfl)) (by decide) (fun K hK => ?_)
           refine goes_ Try.func57 (by kernel_rfl) rfl #[] (by rfl) rfl rfl (by (try simp only [List.map_toArray, List.map_cons, List.map_nil]); first | done | rfl | (simp only [List.length_drop, List.length_take]; rfl)) ?_
           with_reducible refine (elenchuslaw04_awake.calls  true _ A39.out).mono ?_
           rintro e w62 ⟨rfl, hb⟩
           refine ⟨_, rfl, ?_⟩
           have n0_ := Aside0.mk (Kd.R_below (by (with_reducible repeat (first | apply Kd.R_alloc | apply Kd.R_drewN | apply Kd.R_drew)); exact HO_7.out) hb)
           have n1_ := Aside0.mk (Kd.V_below (by (with_reducible repeat (first | apply vA | apply vN | apply vD)); exact HO_543001.out) hb)
           have n2_ := Aside0.mk (Kd.V_below (by (with_reducible repeat (first | apply vA | apply vN | apply vD)); exact HO_553001.out) hb)
           have n3_ := Aside0.mk (Kd.V_below (by (with_reducible repeat (first | apply vA | apply vN | apply vD)); exact HO565.out) hb)
           have n4_ := Aside0.mk (Kd.V_below (by (with_reducible repeat (first | apply vA | apply vN | apply vD)); exact HO571.out) hb)
           have n5_ := Aside0.mk (blk_below (g := gb542) (o := .cells #[.int .i64 a0_0, .slice A0_1 l0_1.length c0_1] 25 (0, 0)) (by (with_reducible repeat (first | refine bN ?_ _ | refine bD ?_ | refine bA ?_ _)); exact BK542.out) hb)
           have n6_ := Aside0.mk (blk_below (g := gb552) (o := .cells #[.int .i64 t547, .slice Ao18 t548.length co18] 25 (0, 0)) (by (with_reducible repeat (first | refine bN ?_ _ | refine bD ?_ | refine bA ?_ _)); exact BK552.out) hb)
           have n7_ := Aside0.mk (blk_below (g := gb573) (o := .cells #[.int .i64 t568, .slice Ao59 t569.length co59] 25 (0, 0)) (by (with_reducible repeat (first | refine bN ?_ _ | refine bD ?_ | refine bA ?_ _)); exact BK573.out) hb)
           have n8_ := Aside0.mk (below_step (by repeat (first | (with_reducible first | exact HB.out | apply wA | apply wN | apply wD | refine wS ?_ GE542.out | refine wS ?_ GE552.out | refine wS ?_ GE573.out) | exact HB.out)) hb)
           clear HO_7
           clear HO_543001
           clear HO_553001
           clear HO565
           clear HO571
           clear BK542
           clear BK552
           clear BK573
           clear HB
           have HO_7 := n0_
           have HO_543001 := n1_
           have HO_553001 := n2_
           have HO565 := n3_
           have HO571 := n4_
           have BK542 := n5_
           have BK552 := n6_
           have BK573 := n7_
           have HB := n8_
           clear n0_ n1_ n2_ n3_ n4_ n5_ n6_ n7_ n8_
           (try clear hb)
           (try clear hb2)
           (try clear hk)
           (try clear hi)
           refine hK.out _ _ ⟨(blk_cell BK573.out 0).trans rfl, (blk_cell BK573.out 1).trans rfl, (blk_cell BK542.out 0).trans rfl, (blk_cell BK542.out 1).trans rfl⟩ (fun hHeld => ?_)
           clear hK K
           refine norm_ (a' := ?_) ?_ ?_
           rotate_left
           ·show Act.put _ (some 60) _ = _
            simp only [Act.put, sT, s0, sS, i64_w, i32_w]
            rfl
           refine pure_ (i := 1) (N := some 61) (v := ?_) (a' := ?_) #[T_, T_, F_, F_, F_, F_, F_, F_, F_, F_, F_, F_, F_, F_, F_, F_, F_, F_, F_, F_, F_, F_, F_, F_, F_, F_, F_] rfl rfl (any_of HT_.out (by kernel_rfl)) (fun _ _ _ h => h) (Or.inl ⟨by rfl, ?_⟩) ?_ ?_
           rotate_left
           ·intro w'
            go_simp
            with_reducible rfl
           rotate_left
           ·simp only [Act.put, sT, s0, sS, i64_w, i32_w]
            rfl
           refine pure_ (i := 2) (N := some 62) (v := ?_) (a' := ?_) #[T_, T_, T_, F_, F_, F_, F_, F_, F_, F_, F_, F_, F_, F_, F_, F_, F_, F_, F_, F_, F_, F_, F_, F_, F_, F_, F_] rfl rfl (any_of HT_.out (by kernel_rfl)) (fun _ _ _ h => h) (Or.inl ⟨by rfl, ?_⟩) ?_ ?_
           rotate_left
           ·intro w'
            go_simp
            with_reducible rfl
           rotate_left
           ·simp only [Act.put, sT, s0, sS, i64_w, i32_w]
            rfl
           refine pure_ (i := 3) (N := some 63) (v := ?_) (a' := ?_) #[T_, T_, T_, T_, F_, F_, F_, F_, F_, F_, F_, F_, F_, F_, F_, F_, F_, F_, F_, F_, F_, F_, F_, F_, F_, F_, F_] rfl rfl (any_of HT_.out (by kernel_rfl)) (fun _ _ _ h => h) (Or.inl ⟨by rfl, ?_⟩) ?_ ?_
           rotate_left
           ·intro w'
            go_simp
            with_reducible rfl
           rotate_left
           ·simp only [Act.put, sT, s0, sS, i64_w, i32_w]
            rfl
           refine pure_ (i := 4) (N := some 64) (v := ?_) (a' := ?_) #[T_, T_, T_, T_, T_, F_, F_, F_, F_, F_, F_, F_, F_, F_, F_, F_, F_, F_, F_, F_, F_, F_, F_, F_, F_, F_, F_] rfl rfl (any_of HT_.out (by kernel_rfl)) (fun _ _ _ h => h) (Or.inl ⟨by rfl, ?_⟩) ?_ ?_
           rotate_left
           ·intro w'
            go_simp
            with_reducible rfl
           rotate_left
           ·simp only [Act.put, sT, s0, sS, i64_w, i32_w]
            rfl
           refine pure_ (i := 5) (N := some 65) (v := ?_) (a' := ?_) #[T_, T_, T_, T_, T_, T_, F_, F_, F_, F_, F_, F_, F_, F_, F_, F_, F_, F_, F_, F_, F_, F_, F_, F_, F_, F_, F_] rfl rfl (any_of HT_.out (by kernel_rfl)) (fun _ _ _ h => h) (Or.inl ⟨by rfl, ?_⟩) ?_ ?_
           rotate_left
           ·intro w'
            go_simp
            with_reducible rfl
           rotate_left
           ·simp only [Act.put, sT, s0, sS, i64_w, i32_w]
            rfl
           refine pure_ (i := 6) (N := some 66) (v := ?_) (a' := ?_) #[T_, T_, T_, T_, T_, T_, T_, F_, F_, F_, F_, F_, F_, F_, F_, F_, F_, F_, F_, F_, F_, F_, F_, F_, F_, F_, F_] rfl rfl (any_of HT_.out (by kernel_rfl)) (fun _ _ _ h => h) (Or.inl ⟨by rfl, ?_⟩) ?_ ?_
           rotate_left
           ·intro w'
            go_simp
            with_reducible rfl
           rotate_left
           ·simp only [Act.put, sT, s0, sS, i64_w, i32_w]
            rfl
           refine pure_ (i := 7) (N := some 67) (v := ?_) (a' := ?_) #[T_, T_, T_, T_, T_, T_, T_, T_, F_, F_, F_, F_, F_, F_, F_, F_, F_, F_, F_, F_, F_, F_, F_, F_, F_, F_, F_] rfl rfl (any_of HT_.out (by kernel_rfl)) (fun _ _ _ h => h) (Or.inl ⟨by rfl, ?_⟩) ?_ ?_
           rotate_left
           ·intro w'
            go_simp
            with_reducible rfl
           rotate_left
           ·simp only [Act.put, sT, s0, sS, i64_w, i32_w]
            rfl
           refine pure_ (i := 8) (N := some 68) (v := ?_) (a' := ?_) #[T_, T_, T_, T_, T_, T_, T_, T_, T_, F_, F_, F_, F_, F_, F_, F_, F_, F_, F_, F_, F_, F_, F_, F_, F_, F_, F_] rfl rfl (any_of HT_.out (by kernel_rfl)) (fun _ _ _ h => h) (Or.inl ⟨by rfl, ?_⟩) ?_ ?_
           rotate_left
           ·intro w'
            go_simp
            with_reducible rfl
           rotate_left
           ·simp only [Act.put, sT, s0, sS, i64_w, i32_w]
            rfl
           refine pure_ (i := 9) (N := some 69) (v := ?_) (a' := ?_) #[T_, T_, T_, T_, T_, T_, T_, T_, T_, T_, F_, F_, F_, F_, F_, F_, F_, F_, F_, F_, F_, F_, F_, F_, F_, F_, F_] rfl rfl (any_of HT_.out (by kernel_rfl)) (fun _ _ _ h => h) (Or.inl ⟨by rfl, ?_⟩) ?_ ?_
           rotate_left
           ·intro w'
            go_simp
            with_reducible rfl
           rotate_left
           ·simp only [Act.put, sT, s0, sS, i64_w, i32_w]
            rfl
           refine pure_ (i := 10) (N := some 70) (v := ?_) (a' := ?_) #[T_, T_, T_, T_, T_, T_, T_, T_, T_, T_, T_, F_, F_, F_, F_, F_, F_, F_, F_, F_, F_, F_, F_, F_, F_, F_, F_] rfl rfl (any_of HT_.out (by kernel_rfl)) (fun _ _ _ h => h) (Or.inl ⟨by rfl, ?_⟩) ?_ ?_
           rotate_left
           ·intro w'
            go_simp
            with_reducible rfl
           rotate_left
           ·simp only [Act.put, sT, s0, sS, i64_w, i32_w]
            rfl
           refine pure_ (i := 11) (N := some 71) (v := ?_) (a' := ?_) #[T_, T_, T_, T_, T_, T_, T_, T_, T_, T_, T_, T_, F_, F_, F_, F_, F_, F_, F_, F_, F_, F_, F_, F_, F_, F_, F_] rfl rfl (any_of HT_.out (by kernel_rfl)) (fun _ _ _ h => h) (Or.inl ⟨by rfl, ?_⟩) ?_ ?_
           rotate_left
           ·intro w'
            go_simp
            with_reducible rfl
           rotate_left
           ·simp only [Act.put, sT, s0, sS, i64_w, i32_w]
            rfl
           refine pure_ (i := 12) (N := some 72) (v := ?_) (a' := ?_) #[T_, T_, T_, T_, T_, T_, T_, T_, T_, T_, T_, T_, T_, F_, F_, F_, F_, F_, F_, F_, F_, F_, F_, F_, F_, F_, F_] rfl rfl (any_of HT_.out (by kernel_rfl)) (fun _ _ _ h => h) (Or.inl ⟨by rfl, ?_⟩) ?_ ?_
           rotate_left
           ·intro w'
            go_simp
            with_reducible rfl
           rotate_left
           ·simp only [Act.put, sT, s0, sS, i64_w, i32_w]
            rfl
           refine take_ (i := 13) (N := some 73) (v := ?_) (a' := ?_) #[T_, T_, T_, T_, T_, T_, T_, T_, T_, T_, T_, T_, T_, T_, F_, F_, F_, F_, F_, F_, F_, F_, F_, F_, F_, F_, F_] rfl rfl (take_ofW HT_.out HW_.out (by kernel_rfl)) (fun _ _ _ h => h) (Or.inl ⟨by rfl, ?_⟩) hHeld ?_ ?_
           rotate_left
           ·rintro w' ⟨s0, s1, s2, s3⟩
            go_simp
            with_reducible rfl
           rotate_left
           ·simp only [Act.put, sT, s0, sS, i64_w, i32_w]
            rfl
           refine take_ (i := 15) (N := some 75) (v := ?_) (a' := ?_) #[T_, T_, T_, T_, T_, T_, T_, T_, T_, T_, T_, T_, T_, T_, F_, T_, F_, F_, F_, F_, F_, F_, F_, F_, F_, F_, F_] rfl rfl (take_ofW HT_.out HW_.out (by kernel_rfl)) (fun _ _ _ h => h) (Or.inl ⟨by rfl, ?_⟩) hHeld ?_ ?_
           rotate_left
           ·rintro w' ⟨s0, s1, s2, s3⟩
            go_simp
            with_reducible rfl
           rotate_left
           ·simp only [Act.put, sT, s0, sS, i64_w, i32_w]
            rfl
           refine one_ (i := 14) (N := some 74) #[T_, T_, T_, T_, T_, T_, T_, T_, T_, T_, T_, T_, T_, T_, T_, T_, F_, F_, F_, F_, F_, F_, F_, F_, F_, F_, F_] rfl rfl (one_of HT_.out (by kernel_rfl)) (by decide) (fun K hK => ?_)
           refine goes_ Try.func77 (by kernel_rfl) rfl #[.agg #[.int .i64 t568, .slice Ao59 t569.length co59]] (by rfl) rfl rfl (by (try simp only [List.map_toArray, List.map_cons, List.map_nil]); first | done | rfl | (simp only [List.length_drop, List.length_take]; rfl)) ?_
           with_reducible refine (elenchusref01_Size.calls k1 t568 _ _ t569 t575 _ ?side1 ?side2 A44.out).mono ?_
           (case side1 => repeat (first | exact (Kd.V_reads' HO571.out).2.2 | (with_reducible refine Kd.C_alloc ?_ _) | (with_reducible refine Kd.C_drewN ?_ _) | (with_reducible refine Kd.C_drew ?_)))
           (case side2 => exact (Kd.V_reads' HO571.out).2.1)
           rintro e w63 ⟨rfl, hb⟩
           refine ⟨_, rfl, ?_⟩
           have n0_ := Aside0.mk (Kd.R_below (by (with_reducible repeat (first | apply Kd.R_alloc | apply Kd.R_drewN | apply Kd.R_drew)); exact HO_7.out) hb)
           have n1_ := Aside0.mk (Kd.V_below (by (with_reducible repeat (first | apply vA | apply vN | apply vD)); exact HO_543001.out) hb)
           have n2_ := Aside0.mk (Kd.V_below (by (with_reducible repeat (first | apply vA | apply vN | apply vD)); exact HO_553001.out) hb)
           have n3_ := Aside0.mk (Kd.V_below (by (with_reducible repeat (first | apply vA | apply vN | apply vD)); exact HO565.out) hb)
           have n4_ := Aside0.mk (Kd.V_below (by (with_reducible repeat (first | apply vA | apply vN | apply vD)); exact HO571.out) hb)
           have n5_ := Aside0.mk (blk_below (g := gb542) (o := .cells #[.int .i64 a0_0, .slice A0_1 l0_1.length c0_1] 25 (0, 0)) (by (with_reducible repeat (first | refine bN ?_ _ | refine bD ?_ | refine bA ?_ _)); exact BK542.out) hb)
           have n6_ := Aside0.mk (blk_below (g := gb552) (o := .cells #[.int .i64 t547, .slice Ao18 t548.length co18] 25 (0, 0)) (by (with_reducible repeat (first | refine bN ?_ _ | refine bD ?_ | refine bA ?_ _)); exact BK552.out) hb)
           have n7_ := Aside0.mk (blk_below (g := gb573) (o := .cells #[.int .i64 t568, .slice Ao59 t569.length co59] 25 (0, 0)) (by (with_reducible repeat (first | refine bN ?_ _ | refine bD ?_ | refine bA ?_ _)); exact BK573.out) hb)
           have n8_ := Aside0.mk (below_step (by repeat (first | (with_reducible first | exact HB.out | apply wA | apply wN | apply wD | refine wS ?_ GE542.out | refine wS ?_ GE552.out | refine wS ?_ GE573.out) | exact HB.out)) hb)
           clear HO_7
           clear HO_543001
           clear HO_553001
           clear HO565
           clear HO571
           clear BK542
           clear BK552
           clear BK573
           clear HB
           have HO_7 := n0_
           have HO_543001 := n1_
           have HO_553001 := n2_
           have HO565 := n3_
           have HO571 := n4_
           have BK542 := n5_
           have BK552 := n6_
           have BK573 := n7_
           have HB := n8_
           clear n0_ n1_ n2_ n3_ n4_ n5_ n6_ n7_ n8_
           (try clear hb)
           (try clear hb2)
           (try clear hk)
           (try clear hi)
           refine hK.out _ _ ⟨(blk_cell BK573.out 0).trans rfl, (blk_cell BK573.out 1).trans rfl, (blk_cell BK542.out 0).trans rfl, (blk_cell BK542.out 1).trans rfl⟩ (fun hHeld => ?_)
           clear hK K
           refine norm_ (a' := ?_) ?_ ?_
           rotate_left
           ·show Act.put _ (some 74) _ = _
            simp only [Act.put, sT, s0, sS, i64_w, i32_w]
            rfl
           refine one_ (i := 16) (N := some 76) #[T_, T_, T_, T_, T_, T_, T_, T_, T_, T_, T_, T_, T_, T_, T_, T_, T_, F_, F_, F_, F_, F_, F_, F_, F_, F_, F_] rfl rfl (one_of HT_.out (by kernel_rfl)) (by decide) (fun K hK => ?_)
           refine goes_ Try.func77 (by kernel_rfl) rfl #[.agg #[.int .i64 a0_0, .slice A0_1 l0_1.length c0_1]] (by rfl) rfl rfl (by (try simp only [List.map_toArray, List.map_cons, List.map_nil]); first | done | rfl | (simp only [List.length_drop, List.length_take]; rfl)) ?_
           with_reducible refine (elenchusref01_Size.calls k1 a0_0 _ _ l0_1 t576 _ ?side1 ?side2 A45.out).mono ?_
           (case side1 => repeat (first | exact (Kd.V_reads' HO_543001.out).2.2 | (with_reducible refine Kd.C_alloc ?_ _) | (with_reducible refine Kd.C_drewN ?_ _) | (with_reducible refine Kd.C_drew ?_)))
           (case side2 => exact (Kd.V_reads' HO_543001.out).2.1)
           rintro e w64 ⟨rfl, hb⟩
           refine ⟨_, rfl, ?_⟩
           have n0_ := Aside0.mk (Kd.R_below (by (with_reducible repeat (first | apply Kd.R_alloc | apply Kd.R_drewN | apply Kd.R_drew)); exact HO_7.out) hb)
           have n1_ := Aside0.mk (Kd.V_below (by (with_reducible repeat (first | apply vA | apply vN | apply vD)); exact HO_543001.out) hb)
           have n2_ := Aside0.mk (Kd.V_below (by (with_reducible repeat (first | apply vA | apply vN | apply vD)); exact HO_553001.out) hb)
           have n3_ := Aside0.mk (Kd.V_below (by (with_reducible repeat (first | apply vA | apply vN | apply vD)); exact HO565.out) hb)
           have n4_ := Aside0.mk (Kd.V_below (by (with_reducible repeat (first | apply vA | apply vN | apply vD)); exact HO571.out) hb)
           have n5_ := Aside0.mk (blk_below (g := gb542) (o := .cells #[.int .i64 a0_0, .slice A0_1 l0_1.length c0_1] 25 (0, 0)) (by (with_reducible repeat (first | refine bN ?_ _ | refine bD ?_ | refine bA ?_ _)); exact BK542.out) hb)
           have n6_ := Aside0.mk (blk_below (g := gb552) (o := .cells #[.int .i64 t547, .slice Ao18 t548.length co18] 25 (0, 0)) (by (with_reducible repeat (first | refine bN ?_ _ | refine bD ?_ | refine bA ?_ _)); exact BK552.out) hb)
           have n7_ := Aside0.mk (blk_below (g := gb573) (o := .cells #[.int .i64 t568, .slice Ao59 t569.length co59] 25 (0, 0)) (by (with_reducible repeat (first | refine bN ?_ _ | refine bD ?_ | refine bA ?_ _)); exact BK573.out) hb)
           have n8_ := Aside0.mk (below_step (by repeat (first | (with_reducible first | exact HB.out | apply wA | apply wN | apply wD | refine wS ?_ GE542.out | refine wS ?_ GE552.out | refine wS ?_ GE573.out) | exact HB.out)) hb)
           clear HO_7
           clear HO_543001
           clear HO_553001
           clear HO565
           clear HO571
           clear BK542
           clear BK552
           clear BK573
           clear HB
           have HO_7 := n0_
           have HO_543001 := n1_
           have HO_553001 := n2_
           have HO565 := n3_
           have HO571 := n4_
           have BK542 := n5_
           have BK552 := n6_
           have BK573 := n7_
           have HB := n8_
           clear n0_ n1_ n2_ n3_ n4_ n5_ n6_ n7_ n8_
           (try clear hb)
           (try clear hb2)
           (try clear hk)
           (try clear hi)
           refine hK.out _ _ ⟨(blk_cell BK573.out 0).trans rfl, (blk_cell BK573.out 1).trans rfl, (blk_cell BK542.out 0).trans rfl, (blk_cell BK542.out 1).trans rfl⟩ (fun hHeld => ?_)
           clear hK K
           refine norm_ (a' := ?_) ?_ ?_
           rotate_left
           ·show Act.put _ (some 76) _ = _
            simp only [Act.put, sT, s0, sS, i64_w, i32_w]
            rfl
           refine pure_ (i := 17) (N := some 77) (v := ?_) (a' := ?_) #[T_, T_, T_, T_, T_, T_, T_, T_, T_, T_, T_, T_, T_, T_, T_, T_, T_, T_, F_, F_, F_, F_, F_, F_, F_, F_, F_] rfl rfl (any_of HT_.out (by kernel_rfl)) (fun _ _ _ h => h) (Or.inl ⟨by rfl, ?_⟩) ?_ ?_
           rotate_left
           ·intro w'
            go_simp
            with_reducible rfl
           rotate_left
           ·simp only [Act.put, sT, s0, sS, i64_w, i32_w]
            rfl
           refine pure_ (i := 18) (N := some 78) (v := ?_) (a' := ?_) #[T_, T_, T_, T_, T_, T_, T_, T_, T_, T_, T_, T_, T_, T_, T_, T_, T_, T_, T_, F_, F_, F_, F_, F_, F_, F_, F_] rfl rfl (any_of HT_.out (by kernel_rfl)) (fun _ _ _ h => h) (Or.inl ⟨by rfl, ?_⟩) ?_ ?_
           rotate_left
           ·intro w'
            go_simp
            with_reducible rfl
           rotate_left
           ·simp only [Act.put, sT, s0, sS, i64_w, i32_w]
            rfl
           refine pure_ (i := 19) (N := some 79) (v := ?_) (a' := ?_) #[T_, T_, T_, T_, T_, T_, T_, T_, T_, T_, T_, T_, T_, T_, T_, T_, T_, T_, T_, T_, F_, F_, F_, F_, F_, F_, F_] rfl rfl (any_of HT_.out (by kernel_rfl)) (fun _ _ _ h => h) (Or.inl ⟨by rfl, ?_⟩) ?_ ?_
           rotate_left
           ·intro w'
            go_simp
            with_reducible rfl
           rotate_left
           ·simp only [Act.put, sT, s0, sS, i64_w, i32_w]
            rfl
           refine pure_ (i := 20) (N := some 80) (v := ?_) (a' := ?_) #[T_, T_, T_, T_, T_, T_, T_, T_, T_, T_, T_, T_, T_, T_, T_, T_, T_, T_, T_, T_, T_, F_, F_, F_, F_, F_, F_] rfl rfl (any_of HT_.out (by kernel_rfl)) (fun _ _ _ h => h) (Or.inl ⟨by rfl, ?_⟩) ?_ ?_
           rotate_left
           ·intro w'
            go_simp
            with_reducible rfl
           rotate_left
           ·simp only [Act.put, sT, s0, sS, i64_w, i32_w]
            rfl
           refine pure_ (i := 21) (N := some 81) (v := ?_) (a' := ?_) #[T_, T_, T_, T_, T_, T_, T_, T_, T_, T_, T_, T_, T_, T_, T_, T_, T_, T_, T_, T_, T_, T_, F_, F_, F_, F_, F_] rfl rfl (any_of HT_.out (by kernel_rfl)) (fun _ _ _ h => h) (Or.inl ⟨by rfl, ?_⟩) ?_ ?_
           rotate_left
           ·intro w'
            go_simp
            with_reducible rfl
           rotate_left
           ·simp only [Act.put, sT, s0, sS, i64_w, i32_w]
            rfl
           refine pure_ (i := 22) (N := some 82) (v := ?_) (a' := ?_) #[T_, T_, T_, T_, T_, T_, T_, T_, T_, T_, T_, T_, T_, T_, T_, T_, T_, T_, T_, T_, T_, T_, T_, F_, F_, F_, F_] rfl rfl (any_of HT_.out (by kernel_rfl)) (fun _ _ _ h => h) (Or.inl ⟨by rfl, ?_⟩) ?_ ?_
           rotate_left
           ·intro w'
            go_simp
            with_reducible rfl
           rotate_left
           ·simp only [Act.put, sT, s0, sS, i64_w, i32_w]
            rfl
           refine pure_ (i := 23) (N := some 83) (v := ?_) (a' := ?_) #[T_, T_, T_, T_, T_, T_, T_, T_, T_, T_, T_, T_, T_, T_, T_, T_, T_, T_, T_, T_, T_, T_, T_, T_, F_, F_, F_] rfl rfl (any_of HT_.out (by kernel_rfl)) (fun _ _ _ h => h) (Or.inl ⟨by rfl, ?_⟩) ?_ ?_
           rotate_left
           ·intro w'
            go_simp
            with_reducible rfl
           rotate_left
           ·simp only [Act.put, sT, s0, sS, i64_w, i32_w]
            rfl
           refine pure_ (i := 24) (N := some 84) (v := ?_) (a' := ?_) #[T_, T_, T_, T_, T_, T_, T_, T_, T_, T_, T_, T_, T_, T_, T_, T_, T_, T_, T_, T_, T_, T_, T_, T_, T_, F_, F_] rfl rfl (any_of HT_.out (by kernel_rfl)) (fun _ _ _ h => h) (Or.inl ⟨by rfl, ?_⟩) ?_ ?_
           rotate_left
           ·intro w'
            go_simp
            with_reducible rfl
           rotate_left
           ·simp only [Act.put, sT, s0, sS, i64_w, i32_w]
            rfl
           refine pure_ (i := 25) (N := some 85) (v := ?_) (a' := ?_) #[T_, T_, T_, T_, T_, T_, T_, T_, T_, T_, T_, T_, T_, T_, T_, T_, T_, T_, T_, T_, T_, T_, T_, T_, T_, T_, F_] rfl rfl (any_of HT_.out (by kernel_rfl)) (fun _ _ _ h => h) (Or.inl ⟨by rfl, ?_⟩) ?_ ?_
           rotate_left
           ·intro w'
            go_simp
            with_reducible rfl
           rotate_left
           ·simp only [Act.put, sT, s0, sS, i64_w, i32_w]
            rfl
           refine pure_ (i := 26) (N := some 4) (v := ?_) (a' := ?_) #[T_, T_, T_, T_, T_, T_, T_, T_, T_, T_, T_, T_, T_, T_, T_, T_, T_, T_, T_, T_, T_, T_, T_, T_, T_, T_, T_] rfl rfl (any_of HT_.out (by kernel_rfl)) (fun _ _ _ h => h) (Or.inl ⟨by rfl, ?_⟩) ?_ ?_
           rotate_left
           ·intro w'
            go_simp
            with_reducible rfl
           rotate_left
           ·simp only [Act.put, sT, s0, sS, i64_w, i32_w]
            rfl
           refine done_ (done_of HT_.out (by kernel_rfl)) ?_
           try go_wp2
           go_ret
           exact ⟨by first | rfl | (simp [errW_none, errW_some] <;> rfl) | (simp [*, errW_none, errW_some] <;> rfl), by repeat (first | (with_reducible first | exact HB.out | apply wA | apply wN | apply wD | refine wS ?_ GE542.out | refine wS ?_ GE552.out | refine wS ?_ GE573.out) | exact HB.out)⟩
          ·rw [if_neg c46] at H
           have c46b0 : (t575 == t576) = false := beq_eq_false_iff_ne.mpr c46
           have c46b1 : (t575 != t576) = true := bne_iff_ne.mpr c46
           obtain rfl := Option.some.inj H
           obtain ⟨Ao65, co65, eo65⟩ := Kd.R_slice HO_7.out
           subst eo65
           have hnb66 := NB542_552.out
           have hnc66 := NB552_542.out
           have hcz67_0 : wr.cell? ⟨gb542, 0, none⟩ = some (.int .i64 a0_0) := (blk_cell BK542.out 0).trans rfl
           have hcz67_1 : wr.cell? ⟨gb542, 1, none⟩ = some (.slice A0_1 l0_1.length c0_1) := (blk_cell BK542.out 1).trans rfl
           have hfz67_0 := blk_frozen BK542.out 0
           have hfz67_1 := blk_frozen BK542.out 1
           have hcz68_0 : wr.cell? ⟨gb552, 0, none⟩ = some (.int .i64 t547) := (blk_cell BK552.out 0).trans rfl
           have hcz68_1 : wr.cell? ⟨gb552, 1, none⟩ = some (.slice Ao18 t548.length co18) := (blk_cell BK552.out 1).trans rfl
           have hfz68_0 := blk_frozen BK552.out 0
           have hfz68_1 := blk_frozen BK552.out 1
           try go_wp2_with (first | ((with_reducible refine gate_callee (f := 55) rfl ?_); refine goesL_ (some 50) rfl rfl Try.func55 (by kernel_rfl) rfl #[.agg #[.int .i64 a0_0, .slice A0_1 l0_1.length c0_1], .agg #[.int .i64 t547, .slice Ao18 t548.length co18]] rfl (by (try simp only [List.map_toArray, List.map_cons, List.map_nil]); first | done | rfl | (simp only [List.length_drop, List.length_take]; rfl)) ?_; (with_reducible refine (unify_Mgu.calls a0_0 (fun k_ => ((P0_1_ k_ ∨ w.heap.size ≤ k_) ∧ (some k_ ≠ (.slice Ao65 t553.length co65 : Value).ownBlock ∧ (k_ ≠ gb542 ∧ k_ ≠ gb552)))) _ _ l0_1 t547 (fun k_ => ((P0_1_ k_ ∨ w.heap.size ≤ k_) ∧ (some k_ ≠ (.slice Ao65 t553.length co65 : Value).ownBlock ∧ (k_ ≠ gb542 ∧ k_ ≠ gb552)))) _ _ t548 t563 true t567 _ ?side1 ?side2 A37.out).mono ?_); (case side1 => exact HO_543001.out); (case side2 => exact HO_553001.out); rintro e w69 ⟨v564, rfl, ho0, hb⟩; refine ⟨_, rfl, ?_⟩; have n0_ := Aside0.mk (Kd.R_below (by (with_reducible repeat (first | apply Kd.R_alloc | apply Kd.R_drewN | apply Kd.R_drew)); exact HO_7.out) hb); have n1_ := Aside0.mk (Kd.V_below (by (with_reducible repeat (first | apply vA | apply vN | apply vD)); exact HO_543001.out) hb); have n2_ := Aside0.mk (Kd.V_below (by (with_reducible repeat (first | apply vA | apply vN | apply vD)); exact HO_553001.out) hb); have n3_ := Aside0.mk (Kd.V_lower (Kd.V_mono (ok' := fun k_ => (P0_1_ k_ ∨ w.heap.size ≤ k_) ∧ some k_ ≠ (.slice Ao65 t553.length co65 : Value).ownBlock ∧ k_ ≠ gb542 ∧ k_ ≠ gb552) ho0 (fun k_ hk_ => ⟨Or.elim hk_ (fun hs_ => Or.elim hs_ (fun hs_ => hs_.1) (fun hs_ => hs_.1)) (fun hn_ => (.inr (Nat.le_trans (below_size (by repeat (first | (with_reducible first | exact HB.out | apply wA | apply wN | apply wD | refine wS ?_ GE542.out | refine wS ?_ GE552.out) | exact HB.out))) hn_))), Or.elim hk_ (fun hs_ => Or.elim hs_ (fun hs_ => hs_.2.1) (fun hs_ => hs_.2.1)) (fun hn_ => (Kd.fresh' (Kd.R_lt (by (with_reducible repeat (first | apply Kd.R_alloc | apply Kd.R_drewN | apply Kd.R_drew)); exact HO_7.out)) k_ hn_)), Or.elim hk_ (fun hs_ => Or.elim hs_ (fun hs_ => hs_.2.2.1) (fun hs_ => hs_.2.2.1)) (fun hn_ => (Kd.freshB (g := gb542) (o := .cells #[.int .i64 a0_0, .slice A0_1 l0_1.length c0_1] 25 (0, 0)) (by (with_reducible repeat (first | refine bN ?_ _ | refine bD ?_ | refine bA ?_ _)); exact BK542.out) k_ hn_)), Or.elim hk_ (fun hs_ => Or.elim hs_ (fun hs_ => hs_.2.2.2) (fun hs_ => hs_.2.2.2)) (fun hn_ => (Kd.freshB (g := gb552) (o := .cells #[.int .i64 t547, .slice Ao18 t548.length co18] 25 (0, 0)) (by (with_reducible repeat (first | refine bN ?_ _ | refine bD ?_ | refine bA ?_ _)); exact BK552.out) k_ hn_))⟩)) (below_size (by repeat (first | (with_reducible first | exact HB.out | apply wA | apply wN | apply wD | refine wS ?_ GE542.out | refine wS ?_ GE552.out) | exact HB.out)))); have n4_ := Aside0.mk (blk_below (g := gb542) (o := .cells #[.int .i64 a0_0, .slice A0_1 l0_1.length c0_1] 25 (0, 0)) (by (with_reducible repeat (first | refine bN ?_ _ | refine bD ?_ | refine bA ?_ _)); exact BK542.out) hb); have n5_ := Aside0.mk (blk_below (g := gb552) (o := .cells #[.int .i64 t547, .slice Ao18 t548.length co18] 25 (0, 0)) (by (with_reducible repeat (first | refine bN ?_ _ | refine bD ?_ | refine bA ?_ _)); exact BK552.out) hb); have n6_ := Aside0.mk (below_step (by repeat (first | (with_reducible first | exact HB.out | apply wA | apply wN | apply wD | refine wS ?_ GE542.out | refine wS ?_ GE552.out) | exact HB.out)) hb); clear HO_7; clear HO_543001; clear HO_553001; clear BK542; clear BK552; clear HB; have HO_7 := n0_; have HO_543001 := n1_; have HO_553001 := n2_; have HO565 := n3_; have BK542 := n4_; have BK552 := n5_; have HB := n6_; clear n0_ n1_ n2_ n3_ n4_ n5_ n6_; (try clear hb); (try clear hb2); (try clear hk); (try clear hi); (try clear ho0); have hcz70_0 : w69.cell? ⟨gb542, 0, none⟩ = some (.int .i64 a0_0) := (blk_cell BK542.out 0).trans rfl; have hcz70_1 : w69.cell? ⟨gb542, 1, none⟩ = some (.slice A0_1 l0_1.length c0_1) := (blk_cell BK542.out 1).trans rfl; have hfz70_0 := blk_frozen BK542.out 0; have hfz70_1 := blk_frozen BK542.out 1; obtain ⟨Ao71, co71, eo71⟩ := Kd.V_slice HO565.out; subst eo71) | ((with_reducible refine gate_callee (f := 27) rfl ?_); refine goesL_ (some 57) rfl rfl Try.func27 (by kernel_rfl) rfl #[.slice Ao71 t563.length co71, .agg #[.int .i64 a0_0, .slice A0_1 l0_1.length c0_1]] rfl (by (try simp only [List.map_toArray, List.map_cons, List.map_nil]); first | done | rfl | (simp only [List.length_drop, List.length_take]; rfl)) ?_; (with_reducible refine (subst_Apply.calls (fun k_ => ((P0_1_ k_ ∨ w.heap.size ≤ k_) ∧ (some k_ ≠ (.slice Ao65 t553.length co65 : Value).ownBlock ∧ (k_ ≠ gb542 ∧ k_ ≠ gb552)))) _ _ t563 a0_0 (fun k_ => ((P0_1_ k_ ∨ w.heap.size ≤ k_) ∧ (some k_ ≠ (.slice Ao65 t553.length co65 : Value).ownBlock ∧ (k_ ≠ gb542 ∧ k_ ≠ gb552)))) _ _ l0_1 t568 t569 t572 _ ?side1 ?side2 A38.out).mono ?_); (case side1 => exact HO565.out); (case side2 => exact HO_543001.out); rintro e w72 ⟨v570, rfl, ho0, hb⟩; refine ⟨_, rfl, ?_⟩; have n0_ := Aside0.mk (Kd.R_below (by (with_reducible repeat (first | apply Kd.R_alloc | apply Kd.R_drewN | apply Kd.R_drew)); exact HO_7.out) hb); have n1_ := Aside0.mk (Kd.V_below (by (with_reducible repeat (first | apply vA | apply vN | apply vD)); exact HO_543001.out) hb); have n2_ := Aside0.mk (Kd.V_below (by (with_reducible repeat (first | apply vA | apply vN | apply vD)); exact HO_553001.out) hb); have n3_ := Aside0.mk (Kd.V_below (by (with_reducible repeat (first | apply vA | apply vN | apply vD)); exact HO565.out) hb); have n4_ := Aside0.mk (Kd.V_lower (Kd.V_mono (ok' := fun k_ => (P0_1_ k_ ∨ w.heap.size ≤ k_) ∧ some k_ ≠ (.slice Ao65 t553.length co65 : Value).ownBlock ∧ k_ ≠ gb542 ∧ k_ ≠ gb552) ho0 (fun k_ hk_ => ⟨Or.elim hk_ (fun hs_ => Or.elim hs_ (fun hs_ => hs_.1) (fun hs_ => hs_.1)) (fun hn_ => (.inr (Nat.le_trans (below_size (by repeat (first | (with_reducible first | exact HB.out | apply wA | apply wN | apply wD | refine wS ?_ GE542.out | refine wS ?_ GE552.out) | exact HB.out))) hn_))), Or.elim hk_ (fun hs_ => Or.elim hs_ (fun hs_ => hs_.2.1) (fun hs_ => hs_.2.1)) (fun hn_ => (Kd.fresh' (Kd.R_lt (by (with_reducible repeat (first | apply Kd.R_alloc | apply Kd.R_drewN | apply Kd.R_drew)); exact HO_7.out)) k_ hn_)), Or.elim hk_ (fun hs_ => Or.elim hs_ (fun hs_ => hs_.2.2.1) (fun hs_ => hs_.2.2.1)) (fun hn_ => (Kd.freshB (g := gb542) (o := .cells #[.int .i64 a0_0, .slice A0_1 l0_1.length c0_1] 25 (0, 0)) (by (with_reducible repeat (first | refine bN ?_ _ | refine bD ?_ | refine bA ?_ _)); exact BK542.out) k_ hn_)), Or.elim hk_ (fun hs_ => Or.elim hs_ (fun hs_ => hs_.2.2.2) (fun hs_ => hs_.2.2.2)) (fun hn_ => (Kd.freshB (g := gb552) (o := .cells #[.int .i64 t547, .slice Ao18 t548.length co18] 25 (0, 0)) (by (with_reducible repeat (first | refine bN ?_ _ | refine bD ?_ | refine bA ?_ _)); exact BK552.out) k_ hn_))⟩)) (below_size (by repeat (first | (with_reducible first | exact HB.out | apply wA | apply wN | apply wD | refine wS ?_ GE542.out | refine wS ?_ GE552.out) | exact HB.out)))); have n5_ := Aside0.mk (blk_below (g := gb542) (o := .cells #[.int .i64 a0_0, .slice A0_1 l0_1.length c0_1] 25 (0, 0)) (by (with_reducible repeat (first | refine bN ?_ _ | refine bD ?_ | refine bA ?_ _)); exact BK542.out) hb); have n6_ := Aside0.mk (blk_below (g := gb552) (o := .cells #[.int .i64 t547, .slice Ao18 t548.length co18] 25 (0, 0)) (by (with_reducible repeat (first | refine bN ?_ _ | refine bD ?_ | refine bA ?_ _)); exact BK552.out) hb); have n7_ := Aside0.mk (below_step (by repeat (first | (with_reducible first | exact HB.out | apply wA | apply wN | apply wD | refine wS ?_ GE542.out | refine wS ?_ GE552.out) | exact HB.out)) hb); clear HO_7; clear HO_543001; clear HO_553001; clear HO565; clear BK542; clear BK552; clear HB; have HO_7 := n0_; have HO_543001 := n1_; have HO_553001 := n2_; have HO565 := n3_; have HO571 := n4_; have BK542 := n5_; have BK552 := n6_; have HB := n7_; clear n0_ n1_ n2_ n3_ n4_ n5_ n6_ n7_; (try clear hb); (try clear hb2); (try clear hk); (try clear hi); (try clear ho0)) | ((with_reducible refine gate_dst (N := 12) rfl ?_); (try (refine gate_guard (by rfl) ?_; dsimp only)); refine box_event ?hg (N := 12) ?hd (cs := #[.int .i64 0, .slice none 0 0]) (t := 25) ?hr ?_; (case hd => rfl); (case hg => rfl); (case hr => first | (go_simp; done) | (go_simp; rfl)); intro gb573 hg w73 hbox hb; have n0_ := Aside0.mk (Kd.R_below (by (with_reducible repeat (first | apply Kd.R_alloc | apply Kd.R_drewN | apply Kd.R_drew)); exact HO_7.out) hb); have n1_ := Aside0.mk (Kd.V_below (Kd.V_elderB (by (with_reducible repeat (first | apply vA | apply vN | apply vD)); exact HO_543001.out) gb573 (Nat.le_of_eq hg.symm)) hb); have n2_ := Aside0.mk (Kd.V_below (Kd.V_elderB (by (with_reducible repeat (first | apply vA | apply vN | apply vD)); exact HO_553001.out) gb573 (Nat.le_of_eq hg.symm)) hb); have n3_ := Aside0.mk (Kd.V_below (Kd.V_elderB (by (with_reducible repeat (first | apply vA | apply vN | apply vD)); exact HO565.out) gb573 (Nat.le_of_eq hg.symm)) hb); have n4_ := Aside0.mk (Kd.V_below (Kd.V_elderB (by (with_reducible repeat (first | apply vA | apply vN | apply vD)); exact HO571.out) gb573 (Nat.le_of_eq hg.symm)) hb); have n5_ := Aside0.mk (blk_below (g := gb542) (o := .cells #[.int .i64 a0_0, .slice A0_1 l0_1.length c0_1] 25 (0, 0)) (by (with_reducible repeat (first | refine bN ?_ _ | refine bD ?_ | refine bA ?_ _)); exact BK542.out) hb); have n6_ := Aside0.mk (blk_below (g := gb552) (o := .cells #[.int .i64 t547, .slice Ao18 t548.length co18] 25 (0, 0)) (by (with_reducible repeat (first | refine bN ?_ _ | refine bD ?_ | refine bA ?_ _)); exact BK552.out) hb); have n7_ := Aside0.mk (below_step (by repeat (first | (with_reducible first | exact HB.out | apply wA | apply wN | apply wD | refine wS ?_ GE542.out | refine wS ?_ GE552.out) | exact HB.out)) hb); have n8_ := Aside0.mk (hbox); have n9_ := Aside0.mk ((by rw [hg]; exact (below_size (by repeat (first | (with_reducible first | exact HB.out | apply wA | apply wN | apply wD | refine wS ?_ GE542.out | refine wS ?_ GE552.out) | exact HB.out))) : w.heap.size ≤ gb573)); have n10_ := Aside0.mk ((by rw [hg]; exact (below_size (by repeat (first | (with_reducible first | exact HB.out | apply wA | apply wN | apply wD | refine wS ?_ GE542.out | refine wS ?_ GE552.out) | exact HB.out))) : w.heap.size ≤ gb573)); have n11_ := Aside0.mk ((by rw [hg]; exact Nat.ne_of_lt (blk_lt (g := gb542) (o := .cells #[.int .i64 a0_0, .slice A0_1 l0_1.length c0_1] 25 (0, 0)) (by (with_reducible repeat (first | refine bN ?_ _ | refine bD ?_ | refine bA ?_ _)); exact BK542.out)) : gb542 ≠ gb573)); have n12_ := Aside0.mk ((by rw [hg]; exact Nat.ne_of_gt (blk_lt (g := gb542) (o := .cells #[.int .i64 a0_0, .slice A0_1 l0_1.length c0_1] 25 (0, 0)) (by (with_reducible repeat (first | refine bN ?_ _ | refine bD ?_ | refine bA ?_ _)); exact BK542.out)) : gb573 ≠ gb542)); have n13_ := Aside0.mk ((by rw [hg]; exact Nat.ne_of_lt (blk_lt (g := gb552) (o := .cells #[.int .i64 t547, .slice Ao18 t548.length co18] 25 (0, 0)) (by (with_reducible repeat (first | refine bN ?_ _ | refine bD ?_ | refine bA ?_ _)); exact BK552.out)) : gb552 ≠ gb573)); have n14_ := Aside0.mk ((by rw [hg]; exact Nat.ne_of_gt (blk_lt (g := gb552) (o := .cells #[.int .i64 t547, .slice Ao18 t548.length co18] 25 (0, 0)) (by (with_reducible repeat (first | refine bN ?_ _ | refine bD ?_ | refine bA ?_ _)); exact BK552.out)) : gb573 ≠ gb552)); clear HO_7; clear HO_543001; clear HO_553001; clear HO565; clear HO571; clear BK542; clear BK552; clear HB; have HO_7 := n0_; have HO_543001 := n1_; have HO_553001 := n2_; have HO565 := n3_; have HO571 := n4_; have BK542 := n5_; have BK552 := n6_; have HB := n7_; have BK573 := n8_; have GW573 := n9_; have GE573 := n10_; have NB542_573 := n11_; have NB573_542 := n12_; have NB552_573 := n13_; have NB573_552 := n14_; clear n0_ n1_ n2_ n3_ n4_ n5_ n6_ n7_ n8_ n9_ n10_ n11_ n12_ n13_ n14_; clear hb hbox hg; have hnb74 := NB573_542.out; have hnc74 := NB542_573.out; have hnb75 := NB573_552.out; have hnc75 := NB552_573.out; have hcz76_0 : w73.cell? ⟨gb573, 0, none⟩ = some (.int .i64 0) := (blk_cell BK573.out 0).trans rfl; have hcz76_1 : w73.cell? ⟨gb573, 1, none⟩ = some (.slice none 0 0) := (blk_cell BK573.out 1).trans rfl; have hfz76_0 := blk_frozen BK573.out 0; have hfz76_1 := blk_frozen BK573.out 1; obtain ⟨Ao77, co77, eo77⟩ := Kd.V_slice HO571.out; subst eo77))
           have n0_ : Aside0 (Kd.R (Kd.int .i64) 3 ((w73.setCell ⟨gb573, 0, none⟩ (.int .i64 t568)).setCell ⟨gb573, 1, none⟩ (.slice Ao77 t569.length co77)) w.heap.size (fun k_ => (w.heap.size ≤ k_)) (.slice Ao65 t553.length co65) t553) := ⟨by (with_reducible repeat (first | apply Kd.R_alloc | apply Kd.R_drewN | apply Kd.R_drew)); exact Kd.R_mono (Kd.R_far (p := ⟨gb573, 1, none⟩) (Kd.R_far (p := ⟨gb573, 0, none⟩) (Kd.R_types HO_7.out BK573.out (by decide)) (fun _ hk => hk.2) (.int .i64 t568)) (fun _ hk => hk.2) (.slice Ao77 t569.length co77)) (fun _ hk => hk.1)⟩
           have n1_ : Aside0 (Kd.V k25 25 ((w73.setCell ⟨gb573, 0, none⟩ (.int .i64 t568)).setCell ⟨gb573, 1, none⟩ (.slice Ao77 t569.length co77)) w.heap.size (fun k_ => (P0_1_ k_ ∨ w.heap.size ≤ k_) ∧ some k_ ≠ (.slice Ao65 t553.length co65 : Value).ownBlock ∧ k_ ≠ gb542 ∧ k_ ≠ gb552 ∧ k_ ≠ gb573) (.slice A0_1 l0_1.length c0_1) l0_1) := ⟨by (with_reducible repeat (first | apply vA | apply vN | apply vD)); exact Kd.V_mono (Kd.V_far (p := ⟨gb573, 1, none⟩) (Kd.V_far (p := ⟨gb573, 0, none⟩) (Kd.V_mono HO_543001.out (fun k_ hk => (⟨hk, hk.2⟩ : _ ∧ k_ ≠ gb573))) (fun _ hk => hk.2) (.int .i64 t568)) (fun _ hk => hk.2) (.slice Ao77 t569.length co77)) (fun _ hk => ⟨hk.1.1.1, ⟨hk.1.1.2.1, ⟨hk.1.1.2.2.1, ⟨hk.1.1.2.2.2, hk.1.2⟩⟩⟩⟩)⟩
           have n2_ : Aside0 (Kd.V k25 25 ((w73.setCell ⟨gb573, 0, none⟩ (.int .i64 t568)).setCell ⟨gb573, 1, none⟩ (.slice Ao77 t569.length co77)) w.heap.size (fun k_ => (P0_1_ k_ ∨ w.heap.size ≤ k_) ∧ some k_ ≠ (.slice Ao65 t553.length co65 : Value).ownBlock ∧ k_ ≠ gb542 ∧ k_ ≠ gb552 ∧ k_ ≠ gb573) (.slice Ao18 t548.length co18) t548) := ⟨by (with_reducible repeat (first | apply vA | apply vN | apply vD)); exact Kd.V_mono (Kd.V_far (p := ⟨gb573, 1, none⟩) (Kd.V_far (p := ⟨gb573, 0, none⟩) (Kd.V_mono HO_553001.out (fun k_ hk => (⟨hk, hk.2⟩ : _ ∧ k_ ≠ gb573))) (fun _ hk => hk.2) (.int .i64 t568)) (fun _ hk => hk.2) (.slice Ao77 t569.length co77)) (fun _ hk => ⟨hk.1.1.1, ⟨hk.1.1.2.1, ⟨hk.1.1.2.2.1, ⟨hk.1.1.2.2.2, hk.1.2⟩⟩⟩⟩)⟩
           have n3_ : Aside0 (Kd.V k60 60 ((w73.setCell ⟨gb573, 0, none⟩ (.int .i64 t568)).setCell ⟨gb573, 1, none⟩ (.slice Ao77 t569.length co77)) w.heap.size (fun k_ => (P0_1_ k_ ∨ w.heap.size ≤ k_) ∧ some k_ ≠ (.slice Ao65 t553.length co65 : Value).ownBlock ∧ k_ ≠ gb542 ∧ k_ ≠ gb552 ∧ k_ ≠ gb573) (.slice Ao71 t563.length co71) t563) := ⟨by (with_reducible repeat (first | apply vA | apply vN | apply vD)); exact Kd.V_mono (Kd.V_far (p := ⟨gb573, 1, none⟩) (Kd.V_far (p := ⟨gb573, 0, none⟩) (Kd.V_mono HO565.out (fun k_ hk => (⟨hk, hk.2⟩ : _ ∧ k_ ≠ gb573))) (fun _ hk => hk.2) (.int .i64 t568)) (fun _ hk => hk.2) (.slice Ao77 t569.length co77)) (fun _ hk => ⟨hk.1.1.1, ⟨hk.1.1.2.1, ⟨hk.1.1.2.2.1, ⟨hk.1.1.2.2.2, hk.1.2⟩⟩⟩⟩)⟩
           have n4_ : Aside0 (Kd.V k25 25 ((w73.setCell ⟨gb573, 0, none⟩ (.int .i64 t568)).setCell ⟨gb573, 1, none⟩ (.slice Ao77 t569.length co77)) w.heap.size (fun k_ => (P0_1_ k_ ∨ w.heap.size ≤ k_) ∧ some k_ ≠ (.slice Ao65 t553.length co65 : Value).ownBlock ∧ k_ ≠ gb542 ∧ k_ ≠ gb552 ∧ k_ ≠ gb573) (.slice Ao77 t569.length co77) t569) := ⟨by (with_reducible repeat (first | apply vA | apply vN | apply vD)); exact Kd.V_mono (Kd.V_far (p := ⟨gb573, 1, none⟩) (Kd.V_far (p := ⟨gb573, 0, none⟩) (Kd.V_mono HO571.out (fun k_ hk => (⟨hk, hk.2⟩ : _ ∧ k_ ≠ gb573))) (fun _ hk => hk.2) (.int .i64 t568)) (fun _ hk => hk.2) (.slice Ao77 t569.length co77)) (fun _ hk => ⟨hk.1.1.1, ⟨hk.1.1.2.1, ⟨hk.1.1.2.2.1, ⟨hk.1.1.2.2.2, hk.1.2⟩⟩⟩⟩)⟩
           have n5_ : Aside0 (((w73.setCell ⟨gb573, 0, none⟩ (.int .i64 t568)).setCell ⟨gb573, 1, none⟩ (.slice Ao77 t569.length co77)).heap[gb542]? = some (.cells #[.int .i64 a0_0, .slice A0_1 l0_1.length c0_1] 25 (0, 0))) := ⟨by (with_reducible repeat (first | refine bN ?_ _ | refine bD ?_ | refine bA ?_ _)); refine blk_far ?_ NB542_573.out _; (with_reducible repeat (first | refine bN ?_ _ | refine bD ?_ | refine bA ?_ _)); refine blk_far ?_ NB542_573.out _; (with_reducible repeat (first | refine bN ?_ _ | refine bD ?_ | refine bA ?_ _)); exact BK542.out⟩
           have n6_ : Aside0 (((w73.setCell ⟨gb573, 0, none⟩ (.int .i64 t568)).setCell ⟨gb573, 1, none⟩ (.slice Ao77 t569.length co77)).heap[gb552]? = some (.cells #[.int .i64 t547, .slice Ao18 t548.length co18] 25 (0, 0))) := ⟨by (with_reducible repeat (first | refine bN ?_ _ | refine bD ?_ | refine bA ?_ _)); refine blk_far ?_ NB552_573.out _; (with_reducible repeat (first | refine bN ?_ _ | refine bD ?_ | refine bA ?_ _)); refine blk_far ?_ NB552_573.out _; (with_reducible repeat (first | refine bN ?_ _ | refine bD ?_ | refine bA ?_ _)); exact BK552.out⟩
           have n7_ : Aside0 (((w73.setCell ⟨gb573, 0, none⟩ (.int .i64 t568)).setCell ⟨gb573, 1, none⟩ (.slice Ao77 t569.length co77)).heap[gb573]? = some (.cells #[.int .i64 t568, .slice Ao77 t569.length co77] 25 (0, 0))) := ⟨by (with_reducible repeat (first | refine bN ?_ _ | refine bD ?_ | refine bA ?_ _)); refine blk_put (cs := #[.int .i64 t568, .slice none 0 0]) ?_ 1 _ rfl; (with_reducible repeat (first | refine bN ?_ _ | refine bD ?_ | refine bA ?_ _)); refine blk_put (cs := #[.int .i64 0, .slice none 0 0]) ?_ 0 _ rfl; (with_reducible repeat (first | refine bN ?_ _ | refine bD ?_ | refine bA ?_ _)); exact BK573.out⟩
           have n8_ : Aside0 (Below w.heap.size w ((w73.setCell ⟨gb573, 0, none⟩ (.int .i64 t568)).setCell ⟨gb573, 1, none⟩ (.slice Ao77 t569.length co77))) := ⟨by repeat (first | (with_reducible first | exact HB.out | apply wA | apply wN | apply wD | refine wS ?_ GE542.out | refine wS ?_ GE552.out | refine wS ?_ GE573.out) | exact HB.out)⟩
           (try clear HO_7)
           (try clear HO_543001)
           (try clear HO_553001)
           (try clear HO565)
           (try clear HO571)
           (try clear BK542)
           (try clear BK552)
           (try clear BK573)
           (try clear HB)
           generalize ((w73.setCell ⟨gb573, 0, none⟩ (.int .i64 t568)).setCell ⟨gb573, 1, none⟩ (.slice Ao77 t569.length co77)) = w78 at n0_ n1_ n2_ n3_ n4_ n5_ n6_ n7_ n8_ ⊢
           have HO_7 := n0_
           have HO_543001 := n1_
           have HO_553001 := n2_
           have HO565 := n3_
           have HO571 := n4_
           have BK542 := n5_
           have BK552 := n6_
           have BK573 := n7_
           have HB := n8_
           clear n0_ n1_ n2_ n3_ n4_ n5_ n6_ n7_ n8_
           have n0_ := Aside0.mk (Kd.R_drew HO_7.out)
           have n1_ := Aside0.mk (Kd.V_drew HO_543001.out)
           have n2_ := Aside0.mk (Kd.V_drew HO_553001.out)
           have n3_ := Aside0.mk (Kd.V_drew HO565.out)
           have n4_ := Aside0.mk (Kd.V_drew HO571.out)
           have n5_ := Aside0.mk (blk_drew BK542.out)
           have n6_ := Aside0.mk (blk_drew BK552.out)
           have n7_ := Aside0.mk (blk_drew BK573.out)
           have n8_ := Aside0.mk (below_drew1 HB.out)
           clear HO_7
           clear HO_543001
           clear HO_553001
           clear HO565
           clear HO571
           clear BK542
           clear BK552
           clear BK573
           clear HB
           have HO_7 := n0_
           have HO_543001 := n1_
           have HO_553001 := n2_
           have HO565 := n3_
           have HO571 := n4_
           have BK542 := n5_
           have BK552 := n6_
           have BK573 := n7_
           have HB := n8_
           clear n0_ n1_ n2_ n3_ n4_ n5_ n6_ n7_ n8_
           refine start_ (n := 27) (S := fun w' => w'.cell? ⟨gb573, 0, none⟩ = some (.int .i64 t568) ∧ w'.cell? ⟨gb573, 1, none⟩ = some (.slice Ao77 t569.length co77) ∧ w'.cell? ⟨gb542, 0, none⟩ = some (.int .i64 a0_0) ∧ w'.cell? ⟨gb542, 1, none⟩ = some (.slice A0_1 l0_1.length c0_1)) (ds := []) #[F_, F_, F_, F_, F_, F_, F_, F_, F_, F_, F_, F_, F_, F_, F_, F_, F_, F_, F_, F_, F_, F_, F_, F_, F_, F_, F_] (by kernel_rfl) rfl rfl ⟨(blk_cell BK573.out 0).trans rfl, (blk_cell BK573.out 1).trans rfl, (blk_cell BK542.out 0).trans rfl, (blk_cell BK542.out 1).trans rfl⟩ (fun hHeld => ?_); refine with_tabW elenchuslaw04_UnifyShifted.tab14 elenchuslaw04_UnifyShifted.bits14 (fun HT_ HW_ => ?_)
           generalize w78.drew = w79 at HO_7 HO_543001 HO_553001 HO565 HO571 BK542 BK552 BK573 HB hHeld ⊢
           refine one_ (i := 0) (N := some 60) #[T_, F_, F_, F_, F_, F_, F_, F_, F_, F_, F_, F_, F_, F_, F_, F_, F_, F_, F_, F_, F_, F_, F_, F_, F_, F_, F_] rfl rfl (one_of HT_.out (by kernel_rfl)) (by decide) (fun K hK => ?_)
           refine goes_ Try.func57 (by kernel_rfl) rfl #[] (by rfl) rfl rfl (by (try simp only [List.map_toArray, List.map_cons, List.map_nil]); first | done | rfl | (simp only [List.length_drop, List.length_take]; rfl)) ?_
           with_reducible refine (elenchuslaw04_awake.calls  true _ A39.out).mono ?_
           rintro e w80 ⟨rfl, hb⟩
           refine ⟨_, rfl, ?_⟩
           have n0_ := Aside0.mk (Kd.R_below (by (with_reducible repeat (first | apply Kd.R_alloc | apply Kd.R_drewN | apply Kd.R_drew)); exact HO_7.out) hb)
           have n1_ := Aside0.mk (Kd.V_below (by (with_reducible repeat (first | apply vA | apply vN | apply vD)); exact HO_543001.out) hb)
           have n2_ := Aside0.mk (Kd.V_below (by (with_reducible repeat (first | apply vA | apply vN | apply vD)); exact HO_553001.out) hb)
           have n3_ := Aside0.mk (Kd.V_below (by (with_reducible repeat (first | apply vA | apply vN | apply vD)); exact HO565.out) hb)
           have n4_ := Aside0.mk (Kd.V_below (by (with_reducible repeat (first | apply vA | apply vN | apply vD)); exact HO571.out) hb)
           have n5_ := Aside0.mk (blk_below (g := gb542) (o := .cells #[.int .i64 a0_0, .slice A0_1 l0_1.length c0_1] 25 (0, 0)) (by (with_reducible repeat (first | refine bN ?_ _ | refine bD ?_ | refine bA ?_ _)); exact BK542.out) hb)
           have n6_ := Aside0.mk (blk_below (g := gb552) (o := .cells #[.int .i64 t547, .slice Ao18 t548.length co18] 25 (0, 0)) (by (with_reducible repeat (first | refine bN ?_ _ | refine bD ?_ | refine bA ?_ _)); exact BK552.out) hb)
           have n7_ := Aside0.mk (blk_below (g := gb573) (o := .cells #[.int .i64 t568, .slice Ao77 t569.length co77] 25 (0, 0)) (by (with_reducible repeat (first | refine bN ?_ _ | refine bD ?_ | refine bA ?_ _)); exact BK573.out) hb)
           have n8_ := Aside0.mk (below_step (by repeat (first | (with_reducible first | exact HB.out | apply wA | apply wN | apply wD | refine wS ?_ GE542.out | refine wS ?_ GE552.out | refine wS ?_ GE573.out) | exact HB.out)) hb)
           clear HO_7
           clear HO_543001
           clear HO_553001
           clear HO565
           clear HO571
           clear BK542
           clear BK552
           clear BK573
           clear HB
           have HO_7 := n0_
           have HO_543001 := n1_
           have HO_553001 := n2_
           have HO565 := n3_
           have HO571 := n4_
           have BK542 := n5_
           have BK552 := n6_
           have BK573 := n7_
           have HB := n8_
           clear n0_ n1_ n2_ n3_ n4_ n5_ n6_ n7_ n8_
           (try clear hb)
           (try clear hb2)
           (try clear hk)
           (try clear hi)
           refine hK.out _ _ ⟨(blk_cell BK573.out 0).trans rfl, (blk_cell BK573.out 1).trans rfl, (blk_cell BK542.out 0).trans rfl, (blk_cell BK542.out 1).trans rfl⟩ (fun hHeld => ?_)
           clear hK K
           refine norm_ (a' := ?_) ?_ ?_
           rotate_left
           ·show Act.put _ (some 60) _ = _
            simp only [Act.put, sT, s0, sS, i64_w, i32_w]
            rfl
           refine pure_ (i := 1) (N := some 61) (v := ?_) (a' := ?_) #[T_, T_, F_, F_, F_, F_, F_, F_, F_, F_, F_, F_, F_, F_, F_, F_, F_, F_, F_, F_, F_, F_, F_, F_, F_, F_, F_] rfl rfl (any_of HT_.out (by kernel_rfl)) (fun _ _ _ h => h) (Or.inl ⟨by rfl, ?_⟩) ?_ ?_
           rotate_left
           ·intro w'
            go_simp
            with_reducible rfl
           rotate_left
           ·simp only [Act.put, sT, s0, sS, i64_w, i32_w]
            rfl
           refine pure_ (i := 2) (N := some 62) (v := ?_) (a' := ?_) #[T_, T_, T_, F_, F_, F_, F_, F_, F_, F_, F_, F_, F_, F_, F_, F_, F_, F_, F_, F_, F_, F_, F_, F_, F_, F_, F_] rfl rfl (any_of HT_.out (by kernel_rfl)) (fun _ _ _ h => h) (Or.inl ⟨by rfl, ?_⟩) ?_ ?_
           rotate_left
           ·intro w'
            go_simp
            with_reducible rfl
           rotate_left
           ·simp only [Act.put, sT, s0, sS, i64_w, i32_w]
            rfl
           refine pure_ (i := 3) (N := some 63) (v := ?_) (a' := ?_) #[T_, T_, T_, T_, F_, F_, F_, F_, F_, F_, F_, F_, F_, F_, F_, F_, F_, F_, F_, F_, F_, F_, F_, F_, F_, F_, F_] rfl rfl (any_of HT_.out (by kernel_rfl)) (fun _ _ _ h => h) (Or.inl ⟨by rfl, ?_⟩) ?_ ?_
           rotate_left
           ·intro w'
            go_simp
            with_reducible rfl
           rotate_left
           ·simp only [Act.put, sT, s0, sS, i64_w, i32_w]
            rfl
           refine pure_ (i := 4) (N := some 64) (v := ?_) (a' := ?_) #[T_, T_, T_, T_, T_, F_, F_, F_, F_, F_, F_, F_, F_, F_, F_, F_, F_, F_, F_, F_, F_, F_, F_, F_, F_, F_, F_] rfl rfl (any_of HT_.out (by kernel_rfl)) (fun _ _ _ h => h) (Or.inl ⟨by rfl, ?_⟩) ?_ ?_
           rotate_left
           ·intro w'
            go_simp
            with_reducible rfl
           rotate_left
           ·simp only [Act.put, sT, s0, sS, i64_w, i32_w]
            rfl
           refine pure_ (i := 5) (N := some 65) (v := ?_) (a' := ?_) #[T_, T_, T_, T_, T_, T_, F_, F_, F_, F_, F_, F_, F_, F_, F_, F_, F_, F_, F_, F_, F_, F_, F_, F_, F_, F_, F_] rfl rfl (any_of HT_.out (by kernel_rfl)) (fun _ _ _ h => h) (Or.inl ⟨by rfl, ?_⟩) ?_ ?_
           rotate_left
           ·intro w'
            go_simp
            with_reducible rfl
           rotate_left
           ·simp only [Act.put, sT, s0, sS, i64_w, i32_w]
            rfl
           refine pure_ (i := 6) (N := some 66) (v := ?_) (a' := ?_) #[T_, T_, T_, T_, T_, T_, T_, F_, F_, F_, F_, F_, F_, F_, F_, F_, F_, F_, F_, F_, F_, F_, F_, F_, F_, F_, F_] rfl rfl (any_of HT_.out (by kernel_rfl)) (fun _ _ _ h => h) (Or.inl ⟨by rfl, ?_⟩) ?_ ?_
           rotate_left
           ·intro w'
            go_simp
            with_reducible rfl
           rotate_left
           ·simp only [Act.put, sT, s0, sS, i64_w, i32_w]
            rfl
           refine pure_ (i := 7) (N := some 67) (v := ?_) (a' := ?_) #[T_, T_, T_, T_, T_, T_, T_, T_, F_, F_, F_, F_, F_, F_, F_, F_, F_, F_, F_, F_, F_, F_, F_, F_, F_, F_, F_] rfl rfl (any_of HT_.out (by kernel_rfl)) (fun _ _ _ h => h) (Or.inl ⟨by rfl, ?_⟩) ?_ ?_
           rotate_left
           ·intro w'
            go_simp
            with_reducible rfl
           rotate_left
           ·simp only [Act.put, sT, s0, sS, i64_w, i32_w]
            rfl
           refine pure_ (i := 8) (N := some 68) (v := ?_) (a' := ?_) #[T_, T_, T_, T_, T_, T_, T_, T_, T_, F_, F_, F_, F_, F_, F_, F_, F_, F_, F_, F_, F_, F_, F_, F_, F_, F_, F_] rfl rfl (any_of HT_.out (by kernel_rfl)) (fun _ _ _ h => h) (Or.inl ⟨by rfl, ?_⟩) ?_ ?_
           rotate_left
           ·intro w'
            go_simp
            with_reducible rfl
           rotate_left
           ·simp only [Act.put, sT, s0, sS, i64_w, i32_w]
            rfl
           refine pure_ (i := 9) (N := some 69) (v := ?_) (a' := ?_) #[T_, T_, T_, T_, T_, T_, T_, T_, T_, T_, F_, F_, F_, F_, F_, F_, F_, F_, F_, F_, F_, F_, F_, F_, F_, F_, F_] rfl rfl (any_of HT_.out (by kernel_rfl)) (fun _ _ _ h => h) (Or.inl ⟨by rfl, ?_⟩) ?_ ?_
           rotate_left
           ·intro w'
            go_simp
            with_reducible rfl
           rotate_left
           ·simp only [Act.put, sT, s0, sS, i64_w, i32_w]
            rfl
           refine pure_ (i := 10) (N := some 70) (v := ?_) (a' := ?_) #[T_, T_, T_, T_, T_, T_, T_, T_, T_, T_, T_, F_, F_, F_, F_, F_, F_, F_, F_, F_, F_, F_, F_, F_, F_, F_, F_] rfl rfl (any_of HT_.out (by kernel_rfl)) (fun _ _ _ h => h) (Or.inl ⟨by rfl, ?_⟩) ?_ ?_
           rotate_left
           ·intro w'
            go_simp
            with_reducible rfl
           rotate_left
           ·simp only [Act.put, sT, s0, sS, i64_w, i32_w]
            rfl
           refine pure_ (i := 11) (N := some 71) (v := ?_) (a' := ?_) #[T_, T_, T_, T_, T_, T_, T_, T_, T_, T_, T_, T_, F_, F_, F_, F_, F_, F_, F_, F_, F_, F_, F_, F_, F_, F_, F_] rfl rfl (any_of HT_.out (by kernel_rfl)) (fun _ _ _ h => h) (Or.inl ⟨by rfl, ?_⟩) ?_ ?_
           rotate_left
           ·intro w'
            go_simp
            with_reducible rfl
           rotate_left
           ·simp only [Act.put, sT, s0, sS, i64_w, i32_w]
            rfl
           refine pure_ (i := 12) (N := some 72) (v := ?_) (a' := ?_) #[T_, T_, T_, T_, T_, T_, T_, T_, T_, T_, T_, T_, T_, F_, F_, F_, F_, F_, F_, F_, F_, F_, F_, F_, F_, F_, F_] rfl rfl (any_of HT_.out (by kernel_rfl)) (fun _ _ _ h => h) (Or.inl ⟨by rfl, ?_⟩) ?_ ?_
           rotate_left
           ·intro w'
            go_simp
            with_reducible rfl
           rotate_left
           ·simp only [Act.put, sT, s0, sS, i64_w, i32_w]
            rfl
           refine take_ (i := 13) (N := some 73) (v := ?_) (a' := ?_) #[T_, T_, T_, T_, T_, T_, T_, T_, T_, T_, T_, T_, T_, T_, F_, F_, F_, F_, F_, F_, F_, F_, F_, F_, F_, F_, F_] rfl rfl (take_ofW HT_.out HW_.out (by kernel_rfl)) (fun _ _ _ h => h) (Or.inl ⟨by rfl, ?_⟩) hHeld ?_ ?_
           rotate_left
           ·rintro w' ⟨s0, s1, s2, s3⟩
            go_simp
            with_reducible rfl
           rotate_left
           ·simp only [Act.put, sT, s0, sS, i64_w, i32_w]
            rfl
           refine take_ (i := 15) (N := some 75) (v := ?_) (a' := ?_) #[T_, T_, T_, T_, T_, T_, T_, T_, T_, T_, T_, T_, T_, T_, F_, T_, F_, F_, F_, F_, F_, F_, F_, F_, F_, F_, F_] rfl rfl (take_ofW HT_.out HW_.out (by kernel_rfl)) (fun _ _ _ h => h) (Or.inl ⟨by rfl, ?_⟩) hHeld ?_ ?_
           rotate_left
           ·rintro w' ⟨s0, s1, s2, s3⟩
            go_simp
            with_reducible rfl
           rotate_left
           ·simp only [Act.put, sT, s0, sS, i64_w, i32_w]
            rfl
           refine one_ (i := 14) (N := some 74) #[T_, T_, T_, T_, T_, T_, T_, T_, T_, T_, T_, T_, T_, T_, T_, T_, F_, F_, F_, F_, F_, F_, F_, F_, F_, F_, F_] rfl rfl (one_of HT_.out (by kernel_rfl)) (by decide) (fun K hK => ?_)
           refine goes_ Try.func77 (by kernel_rfl) rfl #[.agg #[.int .i64 t568, .slice Ao77 t569.length co77]] (by rfl) rfl rfl (by (try simp only [List.map_toArray, List.map_cons, List.map_nil]); first | done | rfl | (simp only [List.length_drop, List.length_take]; rfl)) ?_
           with_reducible refine (elenchusref01_Size.calls k1 t568 _ _ t569 t575 _ ?side1 ?side2 A44.out).mono ?_
           (case side1 => repeat (first | exact (Kd.V_reads' HO571.out).2.2 | (with_reducible refine Kd.C_alloc ?_ _) | (with_reducible refine Kd.C_drewN ?_ _) | (with_reducible refine Kd.C_drew ?_)))
           (case side2 => exact (Kd.V_reads' HO571.out).2.1)
           rintro e w81 ⟨rfl, hb⟩
           refine ⟨_, rfl, ?_⟩
           have n0_ := Aside0.mk (Kd.R_below (by (with_reducible repeat (first | apply Kd.R_alloc | apply Kd.R_drewN | apply Kd.R_drew)); exact HO_7.out) hb)
           have n1_ := Aside0.mk (Kd.V_below (by (with_reducible repeat (first | apply vA | apply vN | apply vD)); exact HO_543001.out) hb)
           have n2_ := Aside0.mk (Kd.V_below (by (with_reducible repeat (first | apply vA | apply vN | apply vD)); exact HO_553001.out) hb)
           have n3_ := Aside0.mk (Kd.V_below (by (with_reducible repeat (first | apply vA | apply vN | apply vD)); exact HO565.out) hb)
           have n4_ := Aside0.mk (Kd.V_below (by (with_reducible repeat (first | apply vA | apply vN | apply vD)); exact HO571.out) hb)
           have n5_ := Aside0.mk (blk_below (g := gb542) (o := .cells #[.int .i64 a0_0, .slice A0_1 l0_1.length c0_1] 25 (0, 0)) (by (with_reducible repeat (first | refine bN ?_ _ | refine bD ?_ | refine bA ?_ _)); exact BK542.out) hb)
           have n6_ := Aside0.mk (blk_below (g := gb552) (o := .cells #[.int .i64 t547, .slice Ao18 t548.length co18] 25 (0, 0)) (by (with_reducible repeat (first | refine bN ?_ _ | refine bD ?_ | refine bA ?_ _)); exact BK552.out) hb)
           have n7_ := Aside0.mk (blk_below (g := gb573) (o := .cells #[.int .i64 t568, .slice Ao77 t569.length co77] 25 (0, 0)) (by (with_reducible repeat (first | refine bN ?_ _ | refine bD ?_ | refine bA ?_ _)); exact BK573.out) hb)
           have n8_ := Aside0.mk (below_step (by repeat (first | (with_reducible first | exact HB.out | apply wA | apply wN | apply wD | refine wS ?_ GE542.out | refine wS ?_ GE552.out | refine wS ?_ GE573.out) | exact HB.out)) hb)
           clear HO_7
           clear HO_543001
           clear HO_553001
           clear HO565
           clear HO571
           clear BK542
           clear BK552
           clear BK573
           clear HB
           have HO_7 := n0_
           have HO_543001 := n1_
           have HO_553001 := n2_
           have HO565 := n3_
           have HO571 := n4_
           have BK542 := n5_
           have BK552 := n6_
           have BK573 := n7_
           have HB := n8_
           clear n0_ n1_ n2_ n3_ n4_ n5_ n6_ n7_ n8_
           (try clear hb)
           (try clear hb2)
           (try clear hk)
           (try clear hi)
           refine hK.out _ _ ⟨(blk_cell BK573.out 0).trans rfl, (blk_cell BK573.out 1).trans rfl, (blk_cell BK542.out 0).trans rfl, (blk_cell BK542.out 1).trans rfl⟩ (fun hHeld => ?_)
           clear hK K
           refine norm_ (a' := ?_) ?_ ?_
           rotate_left
           ·show Act.put _ (some 74) _ = _
            simp only [Act.put, sT, s0, sS, i64_w, i32_w]
            rfl
           refine one_ (i := 16) (N := some 76) #[T_, T_, T_, T_, T_, T_, T_, T_, T_, T_, T_, T_, T_, T_, T_, T_, T_, F_, F_, F_, F_, F_, F_, F_, F_, F_, F_] rfl rfl (one_of HT_.out (by kernel_rfl)) (by decide) (fun K hK => ?_)
           refine goes_ Try.func77 (by kernel_rfl) rfl #[.agg #[.int .i64 a0_0, .slice A0_1 l0_1.length c0_1]] (by rfl) rfl rfl (by (try simp only [List.map_toArray, List.map_cons, List.map_nil]); first | done | rfl | (simp only [List.length_drop, List.length_take]; rfl)) ?_
           with_reducible refine (elenchusref01_Size.calls k1 a0_0 _ _ l0_1 t576 _ ?side1 ?side2 A45.out).mono ?_
           (case side1 => repeat (first | exact (Kd.V_reads' HO_543001.out).2.2 | (with_reducible refine Kd.C_alloc ?_ _) | (with_reducible refine Kd.C_drewN ?_ _) | (with_reducible refine Kd.C_drew ?_)))
           (case side2 => exact (Kd.V_reads' HO_543001.out).2.1)
           rintro e w82 ⟨rfl, hb⟩
           refine ⟨_, rfl, ?_⟩
           have n0_ := Aside0.mk (Kd.R_below (by (with_reducible repeat (first | apply Kd.R_alloc | apply Kd.R_drewN | apply Kd.R_drew)); exact HO_7.out) hb)
           have n1_ := Aside0.mk (Kd.V_below (by (with_reducible repeat (first | apply vA | apply vN | apply vD)); exact HO_543001.out) hb)
           have n2_ := Aside0.mk (Kd.V_below (by (with_reducible repeat (first | apply vA | apply vN | apply vD)); exact HO_553001.out) hb)
           have n3_ := Aside0.mk (Kd.V_below (by (with_reducible repeat (first | apply vA | apply vN | apply vD)); exact HO565.out) hb)
           have n4_ := Aside0.mk (Kd.V_below (by (with_reducible repeat (first | apply vA | apply vN | apply vD)); exact HO571.out) hb)
           have n5_ := Aside0.mk (blk_below (g := gb542) (o := .cells #[.int .i64 a0_0, .slice A0_1 l0_1.length c0_1] 25 (0, 0)) (by (with_reducible repeat (first | refine bN ?_ _ | refine bD ?_ | refine bA ?_ _)); exact BK542.out) hb)
           have n6_ := Aside0.mk (blk_below (g := gb552) (o := .cells #[.int .i64 t547, .slice Ao18 t548.length co18] 25 (0, 0)) (by (with_reducible repeat (first | refine bN ?_ _ | refine bD ?_ | refine bA ?_ _)); exact BK552.out) hb)
           have n7_ := Aside0.mk (blk_below (g := gb573) (o := .cells #[.int .i64 t568, .slice Ao77 t569.length co77] 25 (0, 0)) (by (with_reducible repeat (first | refine bN ?_ _ | refine bD ?_ | refine bA ?_ _)); exact BK573.out) hb)
           have n8_ := Aside0.mk (below_step (by repeat (first | (with_reducible first | exact HB.out | apply wA | apply wN | apply wD | refine wS ?_ GE542.out | refine wS ?_ GE552.out | refine wS ?_ GE573.out) | exact HB.out)) hb)
           clear HO_7
           clear HO_543001
           clear HO_553001
           clear HO565
           clear HO571
           clear BK542
           clear BK552
           clear BK573
           clear HB
           have HO_7 := n0_
           have HO_543001 := n1_
           have HO_553001 := n2_
           have HO565 := n3_
           have HO571 := n4_
           have BK542 := n5_
           have BK552 := n6_
           have BK573 := n7_
           have HB := n8_
           clear n0_ n1_ n2_ n3_ n4_ n5_ n6_ n7_ n8_
           (try clear hb)
           (try clear hb2)
           (try clear hk)
           (try clear hi)
           refine hK.out _ _ ⟨(blk_cell BK573.out 0).trans rfl, (blk_cell BK573.out 1).trans rfl, (blk_cell BK542.out 0).trans rfl, (blk_cell BK542.out 1).trans rfl⟩ (fun hHeld => ?_)
           clear hK K
           refine norm_ (a' := ?_) ?_ ?_
           rotate_left
           ·show Act.put _ (some 76) _ = _
            simp only [Act.put, sT, s0, sS, i64_w, i32_w]
            rfl
           refine pure_ (i := 17) (N := some 77) (v := ?_) (a' := ?_) #[T_, T_, T_, T_, T_, T_, T_, T_, T_, T_, T_, T_, T_, T_, T_, T_, T_, T_, F_, F_, F_, F_, F_, F_, F_, F_, F_] rfl rfl (any_of HT_.out (by kernel_rfl)) (fun _ _ _ h => h) (Or.inl ⟨by rfl, ?_⟩) ?_ ?_
           rotate_left
           ·intro w'
            go_simp
            with_reducible rfl
           rotate_left
           ·simp only [Act.put, sT, s0, sS, i64_w, i32_w]
            rfl
           refine pure_ (i := 18) (N := some 78) (v := ?_) (a' := ?_) #[T_, T_, T_, T_, T_, T_, T_, T_, T_, T_, T_, T_, T_, T_, T_, T_, T_, T_, T_, F_, F_, F_, F_, F_, F_, F_, F_] rfl rfl (any_of HT_.out (by kernel_rfl)) (fun _ _ _ h => h) (Or.inl ⟨by rfl, ?_⟩) ?_ ?_
           rotate_left
           ·intro w'
            go_simp
            with_reducible rfl
           rotate_left
           ·simp only [Act.put, sT, s0, sS, i64_w, i32_w]
            rfl
           refine pure_ (i := 19) (N := some 79) (v := ?_) (a' := ?_) #[T_, T_, T_, T_, T_, T_, T_, T_, T_, T_, T_, T_, T_, T_, T_, T_, T_, T_, T_, T_, F_, F_, F_, F_, F_, F_, F_] rfl rfl (any_of HT_.out (by kernel_rfl)) (fun _ _ _ h => h) (Or.inl ⟨by rfl, ?_⟩) ?_ ?_
           rotate_left
           ·intro w'
            go_simp
            with_reducible rfl
           rotate_left
           ·simp only [Act.put, sT, s0, sS, i64_w, i32_w]
            rfl
           refine pure_ (i := 20) (N := some 80) (v := undef) (a' := ?_) #[T_, T_, T_, T_, T_, T_, T_, T_, T_, T_, T_, T_, T_, T_, T_, T_, T_, T_, T_, T_, T_, F_, F_, F_, F_, F_, F_] rfl rfl (any_of HT_.out (by kernel_rfl)) (fun _ _ _ h => h) (Or.inr ⟨by rfl, rfl⟩) ?_ ?_
           rotate_left
           ·simp only [Act.put, sT, s0, sS, i64_w, i32_w]
            rfl
           refine pure_ (i := 21) (N := some 81) (v := undef) (a' := ?_) #[T_, T_, T_, T_, T_, T_, T_, T_, T_, T_, T_, T_, T_, T_, T_, T_, T_, T_, T_, T_, T_, T_, F_, F_, F_, F_, F_] rfl rfl (any_of HT_.out (by kernel_rfl)) (fun _ _ _ h => h) (Or.inr ⟨by rfl, rfl⟩) ?_ ?_
           rotate_left
           ·simp only [Act.put, sT, s0, sS, i64_w, i32_w]
            rfl
           refine pure_ (i := 22) (N := some 82) (v := undef) (a' := ?_) #[T_, T_, T_, T_, T_, T_, T_, T_, T_, T_, T_, T_, T_, T_, T_, T_, T_, T_, T_, T_, T_, T_, T_, F_, F_, F_, F_] rfl rfl (any_of HT_.out (by kernel_rfl)) (fun _ _ _ h => h) (Or.inr ⟨by rfl, rfl⟩) ?_ ?_
           rotate_left
           ·simp only [Act.put, sT, s0, sS, i64_w, i32_w]
            rfl
           refine pure_ (i := 23) (N := some 83) (v := undef) (a' := ?_) #[T_, T_, T_, T_, T_, T_, T_, T_, T_, T_, T_, T_, T_, T_, T_, T_, T_, T_, T_, T_, T_, T_, T_, T_, F_, F_, F_] rfl rfl (any_of HT_.out (by kernel_rfl)) (fun _ _ _ h => h) (Or.inr ⟨by rfl, rfl⟩) ?_ ?_
           rotate_left
           ·simp only [Act.put, sT, s0, sS, i64_w, i32_w]
            rfl
           refine pure_ (i := 24) (N := some 84) (v := undef) (a' := ?_) #[T_, T_, T_, T_, T_, T_, T_, T_, T_, T_, T_, T_, T_, T_, T_, T_, T_, T_, T_, T_, T_, T_, T_, T_, T_, F_, F_] rfl rfl (any_of HT_.out (by kernel_rfl)) (fun _ _ _ h => h) (Or.inr ⟨by rfl, rfl⟩) ?_ ?_
           rotate_left
           ·simp only [Act.put, sT, s0, sS, i64_w, i32_w]
            rfl
           refine pure_ (i := 25) (N := some 85) (v := ?_) (a' := ?_) #[T_, T_, T_, T_, T_, T_, T_, T_, T_, T_, T_, T_, T_, T_, T_, T_, T_, T_, T_, T_, T_, T_, T_, T_, T_, T_, F_] rfl rfl (any_of HT_.out (by kernel_rfl)) (fun _ _ _ h => h) (Or.inl ⟨by rfl, ?_⟩) ?_ ?_
           rotate_left
           ·intro w'
            go_simp
            with_reducible rfl
           rotate_left
           ·simp only [Act.put, sT, s0, sS, i64_w, i32_w]
            rfl
           refine pure_ (i := 26) (N := some 4) (v := ?_) (a' := ?_) #[T_, T_, T_, T_, T_, T_, T_, T_, T_, T_, T_, T_, T_, T_, T_, T_, T_, T_, T_, T_, T_, T_, T_, T_, T_, T_, T_] rfl rfl (any_of HT_.out (by kernel_rfl)) (fun _ _ _ h => h) (Or.inl ⟨by rfl, ?_⟩) ?_ ?_
           rotate_left
           ·intro w'
            go_simp
            with_reducible rfl
           rotate_left
           ·simp only [Act.put, sT, s0, sS, i64_w, i32_w]
            rfl
           refine done_ (done_of HT_.out (by kernel_rfl)) ?_
           try go_wp2
           go_ret
           exact ⟨by first | rfl | (simp [errW_none, errW_some] <;> rfl) | (simp [*, errW_none, errW_some] <;> rfl), by repeat (first | (with_reducible first | exact HB.out | apply wA | apply wN | apply wD | refine wS ?_ GE542.out | refine wS ?_ GE552.out | refine wS ?_ GE573.out) | exact HB.out)⟩
         ·rw [if_neg c43] at H
          have c43b0 : (t572 == 0) = false := beq_eq_false_iff_ne.mpr c43
          have c43b1 : (t572 != 0) = true := bne_iff_ne.mpr c43
          obtain rfl := Option.some.inj H
          obtain ⟨Ao83, co83, eo83⟩ := Kd.R_slice HO_7.out
          subst eo83
          have hnb84 := NB542_552.out
          have hnc84 := NB552_542.out
          have hcz85_0 : wr.cell? ⟨gb542, 0, none⟩ = some (.int .i64 a0_0) := (blk_cell BK542.out 0).trans rfl
          have hcz85_1 : wr.cell? ⟨gb542, 1, none⟩ = some (.slice A0_1 l0_1.length c0_1) := (blk_cell BK542.out 1).trans rfl
          have hfz85_0 := blk_frozen BK542.out 0
          have hfz85_1 := blk_frozen BK542.out 1
          have hcz86_0 : wr.cell? ⟨gb552, 0, none⟩ = some (.int .i64 t547) := (blk_cell BK552.out 0).trans rfl
          have hcz86_1 : wr.cell? ⟨gb552, 1, none⟩ = some (.slice Ao18 t548.length co18) := (blk_cell BK552.out 1).trans rfl
          have hfz86_0 := blk_frozen BK552.out 0
          have hfz86_1 := blk_frozen BK552.out 1
          try go_wp2_with (first | ((with_reducible refine gate_callee (f := 55) rfl ?_); refine goesL_ (some 50) rfl rfl Try.func55 (by kernel_rfl) rfl #[.agg #[.int .i64 a0_0, .slice A0_1 l0_1.length c0_1], .agg #[.int .i64 t547, .slice Ao18 t548.length co18]] rfl (by (try simp only [List.map_toArray, List.map_cons, List.map_nil]); first | done | rfl | (simp only [List.length_drop, List.length_take]; rfl)) ?_; (with_reducible refine (unify_Mgu.calls a0_0 (fun k_ => ((P0_1_ k_ ∨ w.heap.size ≤ k_) ∧ (some k_ ≠ (.slice Ao83 t553.length co83 : Value).ownBlock ∧ (k_ ≠ gb542 ∧ k_ ≠ gb552)))) _ _ l0_1 t547 (fun k_ => ((P0_1_ k_ ∨ w.heap.size ≤ k_) ∧ (some k_ ≠ (.slice Ao83 t553.length co83 : Value).ownBlock ∧ (k_ ≠ gb542 ∧ k_ ≠ gb552)))) _ _ t548 t563 true t567 _ ?side1 ?side2 A37.out).mono ?_); (case side1 => exact HO_543001.out); (case side2 => exact HO_553001.out); rintro e w87 ⟨v564, rfl, ho0, hb⟩; refine ⟨_, rfl, ?_⟩; have n0_ := Aside0.mk (Kd.R_below (by (with_reducible repeat (first | apply Kd.R_alloc | apply Kd.R_drewN | apply Kd.R_drew)); exact HO_7.out) hb); have n1_ := Aside0.mk (Kd.V_below (by (with_reducible repeat (first | apply vA | apply vN | apply vD)); exact HO_543001.out) hb); have n2_ := Aside0.mk (Kd.V_below (by (with_reducible repeat (first | apply vA | apply vN | apply vD)); exact HO_553001.out) hb); have n3_ := Aside0.mk (Kd.V_lower (Kd.V_mono (ok' := fun k_ => (P0_1_ k_ ∨ w.heap.size ≤ k_) ∧ some k_ ≠ (.slice Ao83 t553.length co83 : Value).ownBlock ∧ k_ ≠ gb542 ∧ k_ ≠ gb552) ho0 (fun k_ hk_ => ⟨Or.elim hk_ (fun hs_ => Or.elim hs_ (fun hs_ => hs_.1) (fun hs_ => hs_.1)) (fun hn_ => (.inr (Nat.le_trans (below_size (by repeat (first | (with_reducible first | exact HB.out | apply wA | apply wN | apply wD | refine wS ?_ GE542.out | refine wS ?_ GE552.out) | exact HB.out))) hn_))), Or.elim hk_ (fun hs_ => Or.elim hs_ (fun hs_ => hs_.2.1) (fun hs_ => hs_.2.1)) (fun hn_ => (Kd.fresh' (Kd.R_lt (by (with_reducible repeat (first | apply Kd.R_alloc | apply Kd.R_drewN | apply Kd.R_drew)); exact HO_7.out)) k_ hn_)), Or.elim hk_ (fun hs_ => Or.elim hs_ (fun hs_ => hs_.2.2.1) (fun hs_ => hs_.2.2.1)) (fun hn_ => (Kd.freshB (g := gb542) (o := .cells #[.int .i64 a0_0, .slice A0_1 l0_1.length c0_1] 25 (0, 0)) (by (with_reducible repeat (first | refine bN ?_ _ | refine bD ?_ | refine bA ?_ _)); exact BK542.out) k_ hn_)), Or.elim hk_ (fun hs_ => Or.elim hs_ (fun hs_ => hs_.2.2.2) (fun hs_ => hs_.2.2.2)) (fun hn_ => (Kd.freshB (g := gb552) (o := .cells #[.int .i64 t547, .slice Ao18 t548.length co18] 25 (0, 0)) (by (with_reducible repeat (first | refine bN ?_ _ | refine bD ?_ | refine bA ?_ _)); exact BK552.out) k_ hn_))⟩)) (below_size (by repeat (first | (with_reducible first | exact HB.out | apply wA | apply wN | apply wD | refine wS ?_ GE542.out | refine wS ?_ GE552.out) | exact HB.out)))); have n4_ := Aside0.mk (blk_below (g := gb542) (o := .cells #[.int .i64 a0_0, .slice A0_1 l0_1.length c0_1] 25 (0, 0)) (by (with_reducible repeat (first | refine bN ?_ _ | refine bD ?_ | refine bA ?_ _)); exact BK542.out) hb); have n5_ := Aside0.mk (blk_below (g := gb552) (o := .cells #[.int .i64 t547, .slice Ao18 t548.length co18] 25 (0, 0)) (by (with_reducible repeat (first | refine bN ?_ _ | refine bD ?_ | refine bA ?_ _)); exact BK552.out) hb); have n6_ := Aside0.mk (below_step (by repeat (first | (with_reducible first | exact HB.out | apply wA | apply wN | apply wD | refine wS ?_ GE542.out | refine wS ?_ GE552.out) | exact HB.out)) hb); clear HO_7; clear HO_543001; clear HO_553001; clear BK542; clear BK552; clear HB; have HO_7 := n0_; have HO_543001 := n1_; have HO_553001 := n2_; have HO565 := n3_; have BK542 := n4_; have BK552 := n5_; have HB := n6_; clear n0_ n1_ n2_ n3_ n4_ n5_ n6_; (try clear hb); (try clear hb2); (try clear hk); (try clear hi); (try clear ho0); have hcz88_0 : w87.cell? ⟨gb542, 0, none⟩ = some (.int .i64 a0_0) := (blk_cell BK542.out 0).trans rfl; have hcz88_1 : w87.cell? ⟨gb542, 1, none⟩ = some (.slice A0_1 l0_1.length c0_1) := (blk_cell BK542.out 1).trans rfl; have hfz88_0 := blk_frozen BK542.out 0; have hfz88_1 := blk_frozen BK542.out 1; obtain ⟨Ao89, co89, eo89⟩ := Kd.V_slice HO565.out; subst eo89) | ((with_reducible refine gate_callee (f := 27) rfl ?_); refine goesL_ (some 57) rfl rfl Try.func27 (by kernel_rfl) rfl #[.slice Ao89 t563.length co89, .agg #[.int .i64 a0_0, .slice A0_1 l0_1.length c0_1]] rfl (by (try simp only [List.map_toArray, List.map_cons, List.map_nil]); first | done | rfl | (simp only [List.length_drop, List.length_take]; rfl)) ?_; (with_reducible refine (subst_Apply.calls (fun k_ => ((P0_1_ k_ ∨ w.heap.size ≤ k_) ∧ (some k_ ≠ (.slice Ao83 t553.length co83 : Value).ownBlock ∧ (k_ ≠ gb542 ∧ k_ ≠ gb552)))) _ _ t563 a0_0 (fun k_ => ((P0_1_ k_ ∨ w.heap.size ≤ k_) ∧ (some k_ ≠ (.slice Ao83 t553.length co83 : Value).ownBlock ∧ (k_ ≠ gb542 ∧ k_ ≠ gb552)))) _ _ l0_1 t568 t569 t572 _ ?side1 ?side2 A38.out).mono ?_); (case side1 => exact HO565.out); (case side2 => exact HO_543001.out); rintro e w90 ⟨v570, rfl, ho0, hb⟩; refine ⟨_, rfl, ?_⟩; have n0_ := Aside0.mk (Kd.R_below (by (with_reducible repeat (first | apply Kd.R_alloc | apply Kd.R_drewN | apply Kd.R_drew)); exact HO_7.out) hb); have n1_ := Aside0.mk (Kd.V_below (by (with_reducible repeat (first | apply vA | apply vN | apply vD)); exact HO_543001.out) hb); have n2_ := Aside0.mk (Kd.V_below (by (with_reducible repeat (first | apply vA | apply vN | apply vD)); exact HO_553001.out) hb); have n3_ := Aside0.mk (Kd.V_below (by (with_reducible repeat (first | apply vA | apply vN | apply vD)); exact HO565.out) hb); have n4_ := Aside0.mk (Kd.V_lower (Kd.V_mono (ok' := fun k_ => (P0_1_ k_ ∨ w.heap.size ≤ k_) ∧ some k_ ≠ (.slice Ao83 t553.length co83 : Value).ownBlock ∧ k_ ≠ gb542 ∧ k_ ≠ gb552) ho0 (fun k_ hk_ => ⟨Or.elim hk_ (fun hs_ => Or.elim hs_ (fun hs_ => hs_.1) (fun hs_ => hs_.1)) (fun hn_ => (.inr (Nat.le_trans (below_size (by repeat (first | (with_reducible first | exact HB.out | apply wA | apply wN | apply wD | refine wS ?_ GE542.out | refine wS ?_ GE552.out) | exact HB.out))) hn_))), Or.elim hk_ (fun hs_ => Or.elim hs_ (fun hs_ => hs_.2.1) (fun hs_ => hs_.2.1)) (fun hn_ => (Kd.fresh' (Kd.R_lt (by (with_reducible repeat (first | apply Kd.R_alloc | apply Kd.R_drewN | apply Kd.R_drew)); exact HO_7.out)) k_ hn_)), Or.elim hk_ (fun hs_ => Or.elim hs_ (fun hs_ => hs_.2.2.1) (fun hs_ => hs_.2.2.1)) (fun hn_ => (Kd.freshB (g := gb542) (o := .cells #[.int .i64 a0_0, .slice A0_1 l0_1.length c0_1] 25 (0, 0)) (by (with_reducible repeat (first | refine bN ?_ _ | refine bD ?_ | refine bA ?_ _)); exact BK542.out) k_ hn_)), Or.elim hk_ (fun hs_ => Or.elim hs_ (fun hs_ => hs_.2.2.2) (fun hs_ => hs_.2.2.2)) (fun hn_ => (Kd.freshB (g := gb552) (o := .cells #[.int .i64 t547, .slice Ao18 t548.length co18] 25 (0, 0)) (by (with_reducible repeat (first | refine bN ?_ _ | refine bD ?_ | refine bA ?_ _)); exact BK552.out) k_ hn_))⟩)) (below_size (by repeat (first | (with_reducible first | exact HB.out | apply wA | apply wN | apply wD | refine wS ?_ GE542.out | refine wS ?_ GE552.out) | exact HB.out)))); have n5_ := Aside0.mk (blk_below (g := gb542) (o := .cells #[.int .i64 a0_0, .slice A0_1 l0_1.length c0_1] 25 (0, 0)) (by (with_reducible repeat (first | refine bN ?_ _ | refine bD ?_ | refine bA ?_ _)); exact BK542.out) hb); have n6_ := Aside0.mk (blk_below (g := gb552) (o := .cells #[.int .i64 t547, .slice Ao18 t548.length co18] 25 (0, 0)) (by (with_reducible repeat (first | refine bN ?_ _ | refine bD ?_ | refine bA ?_ _)); exact BK552.out) hb); have n7_ := Aside0.mk (below_step (by repeat (first | (with_reducible first | exact HB.out | apply wA | apply wN | apply wD | refine wS ?_ GE542.out | refine wS ?_ GE552.out) | exact HB.out)) hb); clear HO_7; clear HO_543001; clear HO_553001; clear HO565; clear BK542; clear BK552; clear HB; have HO_7 := n0_; have HO_543001 := n1_; have HO_553001 := n2_; have HO565 := n3_; have HO571 := n4_; have BK542 := n5_; have BK552 := n6_; have HB := n7_; clear n0_ n1_ n2_ n3_ n4_ n5_ n6_ n7_; (try clear hb); (try clear hb2); (try clear hk); (try clear hi); (try clear ho0)) | ((with_reducible refine gate_dst (N := 12) rfl ?_); (try (refine gate_guard (by rfl) ?_; dsimp only)); refine box_event ?hg (N := 12) ?hd (cs := #[.int .i64 0, .slice none 0 0]) (t := 25) ?hr ?_; (case hd => rfl); (case hg => rfl); (case hr => first | (go_simp; done) | (go_simp; rfl)); intro gb573 hg w91 hbox hb; have n0_ := Aside0.mk (Kd.R_below (by (with_reducible repeat (first | apply Kd.R_alloc | apply Kd.R_drewN | apply Kd.R_drew)); exact HO_7.out) hb); have n1_ := Aside0.mk (Kd.V_below (Kd.V_elderB (by (with_reducible repeat (first | apply vA | apply vN | apply vD)); exact HO_543001.out) gb573 (Nat.le_of_eq hg.symm)) hb); have n2_ := Aside0.mk (Kd.V_below (Kd.V_elderB (by (with_reducible repeat (first | apply vA | apply vN | apply vD)); exact HO_553001.out) gb573 (Nat.le_of_eq hg.symm)) hb); have n3_ := Aside0.mk (Kd.V_below (Kd.V_elderB (by (with_reducible repeat (first | apply vA | apply vN | apply vD)); exact HO565.out) gb573 (Nat.le_of_eq hg.symm)) hb); have n4_ := Aside0.mk (Kd.V_below (Kd.V_elderB (by (with_reducible repeat (first | apply vA | apply vN | apply vD)); exact HO571.out) gb573 (Nat.le_of_eq hg.symm)) hb); have n5_ := Aside0.mk (blk_below (g := gb542) (o := .cells #[.int .i64 a0_0, .slice A0_1 l0_1.length c0_1] 25 (0, 0)) (by (with_reducible repeat (first | refine bN ?_ _ | refine bD ?_ | refine bA ?_ _)); exact BK542.out) hb); have n6_ := Aside0.mk (blk_below (g := gb552) (o := .cells #[.int .i64 t547, .slice Ao18 t548.length co18] 25 (0, 0)) (by (with_reducible repeat (first | refine bN ?_ _ | refine bD ?_ | refine bA ?_ _)); exact BK552.out) hb); have n7_ := Aside0.mk (below_step (by repeat (first | (with_reducible first | exact HB.out | apply wA | apply wN | apply wD | refine wS ?_ GE542.out | refine wS ?_ GE552.out) | exact HB.out)) hb); have n8_ := Aside0.mk (hbox); have n9_ := Aside0.mk ((by rw [hg]; exact (below_size (by repeat (first | (with_reducible first | exact HB.out | apply wA | apply wN | apply wD | refine wS ?_ GE542.out | refine wS ?_ GE552.out) | exact HB.out))) : w.heap.size ≤ gb573)); have n10_ := Aside0.mk ((by rw [hg]; exact (below_size (by repeat (first | (with_reducible first | exact HB.out | apply wA | apply wN | apply wD | refine wS ?_ GE542.out | refine wS ?_ GE552.out) | exact HB.out))) : w.heap.size ≤ gb573)); have n11_ := Aside0.mk ((by rw [hg]; exact Nat.ne_of_lt (blk_lt (g := gb542) (o := .cells #[.int .i64 a0_0, .slice A0_1 l0_1.length c0_1] 25 (0, 0)) (by (with_reducible repeat (first | refine bN ?_ _ | refine bD ?_ | refine bA ?_ _)); exact BK542.out)) : gb542 ≠ gb573)); have n12_ := Aside0.mk ((by rw [hg]; exact Nat.ne_of_gt (blk_lt (g := gb542) (o := .cells #[.int .i64 a0_0, .slice A0_1 l0_1.length c0_1] 25 (0, 0)) (by (with_reducible repeat (first | refine bN ?_ _ | refine bD ?_ | refine bA ?_ _)); exact BK542.out)) : gb573 ≠ gb542)); have n13_ := Aside0.mk ((by rw [hg]; exact Nat.ne_of_lt (blk_lt (g := gb552) (o := .cells #[.int .i64 t547, .slice Ao18 t548.length co18] 25 (0, 0)) (by (with_reducible repeat (first | refine bN ?_ _ | refine bD ?_ | refine bA ?_ _)); exact BK552.out)) : gb552 ≠ gb573)); have n14_ := Aside0.mk ((by rw [hg]; exact Nat.ne_of_gt (blk_lt (g := gb552) (o := .cells #[.int .i64 t547, .slice Ao18 t548.length co18] 25 (0, 0)) (by (with_reducible repeat (first | refine bN ?_ _ | refine bD ?_ | refine bA ?_ _)); exact BK552.out)) : gb573 ≠ gb552)); clear HO_7; clear HO_543001; clear HO_553001; clear HO565; clear HO571; clear BK542; clear BK552; clear HB; have HO_7 := n0_; have HO_543001 := n1_; have HO_553001 := n2_; have HO565 := n3_; have HO571 := n4_; have BK542 := n5_; have BK552 := n6_; have HB := n7_; have BK573 := n8_; have GW573 := n9_; have GE573 := n10_; have NB542_573 := n11_; have NB573_542 := n12_; have NB552_573 := n13_; have NB573_552 := n14_; clear n0_ n1_ n2_ n3_ n4_ n5_ n6_ n7_ n8_ n9_ n10_ n11_ n12_ n13_ n14_; clear hb hbox hg; have hnb92 := NB573_542.out; have hnc92 := NB542_573.out; have hnb93 := NB573_552.out; have hnc93 := NB552_573.out; have hcz94_0 : w91.cell? ⟨gb573, 0, none⟩ = some (.int .i64 0) := (blk_cell BK573.out 0).trans rfl; have hcz94_1 : w91.cell? ⟨gb573, 1, none⟩ = some (.slice none 0 0) := (blk_cell BK573.out 1).trans rfl; have hfz94_0 := blk_frozen BK573.out 0; have hfz94_1 := blk_frozen BK573.out 1; obtain ⟨Ao95, co95, eo95⟩ := Kd.V_slice HO571.out; subst eo95))
          have n0_ : Aside0 (Kd.R (Kd.int .i64) 3 ((w91.setCell ⟨gb573, 0, none⟩ (.int .i64 t568)).setCell ⟨gb573, 1, none⟩ (.slice Ao95 t569.length co95)) w.heap.size (fun k_ => (w.heap.size ≤ k_)) (.slice Ao83 t553.length co83) t553) := ⟨by (with_reducible repeat (first | apply Kd.R_alloc | apply Kd.R_drewN | apply Kd.R_drew)); exact Kd.R_mono (Kd.R_far (p := ⟨gb573, 1, none⟩) (Kd.R_far (p := ⟨gb573, 0, none⟩) (Kd.R_types HO_7.out BK573.out (by decide)) (fun _ hk => hk.2) (.int .i64 t568)) (fun _ hk => hk.2) (.slice Ao95 t569.length co95)) (fun _ hk => hk.1)⟩
          have n1_ : Aside0 (Kd.V k25 25 ((w91.setCell ⟨gb573, 0, none⟩ (.int .i64 t568)).setCell ⟨gb573, 1, none⟩ (.slice Ao95 t569.length co95)) w.heap.size (fun k_ => (P0_1_ k_ ∨ w.heap.size ≤ k_) ∧ some k_ ≠ (.slice Ao83 t553.length co83 : Value).ownBlock ∧ k_ ≠ gb542 ∧ k_ ≠ gb552 ∧ k_ ≠ gb573) (.slice A0_1 l0_1.length c0_1) l0_1) := ⟨by (with_reducible repeat (first | apply vA | apply vN | apply vD)); exact Kd.V_mono (Kd.V_far (p := ⟨gb573, 1, none⟩) (Kd.V_far (p := ⟨gb573, 0, none⟩) (Kd.V_mono HO_543001.out (fun k_ hk => (⟨hk, hk.2⟩ : _ ∧ k_ ≠ gb573))) (fun _ hk => hk.2) (.int .i64 t568)) (fun _ hk => hk.2) (.slice Ao95 t569.length co95)) (fun _ hk => ⟨hk.1.1.1, ⟨hk.1.1.2.1, ⟨hk.1.1.2.2.1, ⟨hk.1.1.2.2.2, hk.1.2⟩⟩⟩⟩)⟩
          have n2_ : Aside0 (Kd.V k25 25 ((w91.setCell ⟨gb573, 0, none⟩ (.int .i64 t568)).setCell ⟨gb573, 1, none⟩ (.slice Ao95 t569.length co95)) w.heap.size (fun k_ => (P0_1_ k_ ∨ w.heap.size ≤ k_) ∧ some k_ ≠ (.slice Ao83 t553.length co83 : Value).ownBlock ∧ k_ ≠ gb542 ∧ k_ ≠ gb552 ∧ k_ ≠ gb573) (.slice Ao18 t548.length co18) t548) := ⟨by (with_reducible repeat (first | apply vA | apply vN | apply vD)); exact Kd.V_mono (Kd.V_far (p := ⟨gb573, 1, none⟩) (Kd.V_far (p := ⟨gb573, 0, none⟩) (Kd.V_mono HO_553001.out (fun k_ hk => (⟨hk, hk.2⟩ : _ ∧ k_ ≠ gb573))) (fun _ hk => hk.2) (.int .i64 t568)) (fun _ hk => hk.2) (.slice Ao95 t569.length co95)) (fun _ hk => ⟨hk.1.1.1, ⟨hk.1.1.2.1, ⟨hk.1.1.2.2.1, ⟨hk.1.1.2.2.2, hk.1.2⟩⟩⟩⟩)⟩
          have n3_ : Aside0 (Kd.V k60 60 ((w91.setCell ⟨gb573, 0, none⟩ (.int .i64 t568)).setCell ⟨gb573, 1, none⟩ (.slice Ao95 t569.length co95)) w.heap.size (fun k_ => (P0_1_ k_ ∨ w.heap.size ≤ k_) ∧ some k_ ≠ (.slice Ao83 t553.length co83 : Value).ownBlock ∧ k_ ≠ gb542 ∧ k_ ≠ gb552 ∧ k_ ≠ gb573) (.slice Ao89 t563.length co89) t563) := ⟨by (with_reducible repeat (first | apply vA | apply vN | apply vD)); exact Kd.V_mono (Kd.V_far (p := ⟨gb573, 1, none⟩) (Kd.V_far (p := ⟨gb573, 0, none⟩) (Kd.V_mono HO565.out (fun k_ hk => (⟨hk, hk.2⟩ : _ ∧ k_ ≠ gb573))) (fun _ hk => hk.2) (.int .i64 t568)) (fun _ hk => hk.2) (.slice Ao95 t569.length co95)) (fun _ hk => ⟨hk.1.1.1, ⟨hk.1.1.2.1, ⟨hk.1.1.2.2.1, ⟨hk.1.1.2.2.2, hk.1.2⟩⟩⟩⟩)⟩
          have n4_ : Aside0 (Kd.V k25 25 ((w91.setCell ⟨gb573, 0, none⟩ (.int .i64 t568)).setCell ⟨gb573, 1, none⟩ (.slice Ao95 t569.length co95)) w.heap.size (fun k_ => (P0_1_ k_ ∨ w.heap.size ≤ k_) ∧ some k_ ≠ (.slice Ao83 t553.length co83 : Value).ownBlock ∧ k_ ≠ gb542 ∧ k_ ≠ gb552 ∧ k_ ≠ gb573) (.slice Ao95 t569.length co95) t569) := ⟨by (with_reducible repeat (first | apply vA | apply vN | apply vD)); exact Kd.V_mono (Kd.V_far (p := ⟨gb573, 1, none⟩) (Kd.V_far (p := ⟨gb573, 0, none⟩) (Kd.V_mono HO571.out (fun k_ hk => (⟨hk, hk.2⟩ : _ ∧ k_ ≠ gb573))) (fun _ hk => hk.2) (.int .i64 t568)) (fun _ hk => hk.2) (.slice Ao95 t569.length co95)) (fun _ hk => ⟨hk.1.1.1, ⟨hk.1.1.2.1, ⟨hk.1.1.2.2.1, ⟨hk.1.1.2.2.2, hk.1.2⟩⟩⟩⟩)⟩
          have n5_ : Aside0 (((w91.setCell ⟨gb573, 0, none⟩ (.int .i64 t568)).setCell ⟨gb573, 1, none⟩ (.slice Ao95 t569.length co95)).heap[gb542]? = some (.cells #[.int .i64 a0_0, .slice A0_1 l0_1.length c0_1] 25 (0, 0))) := ⟨by (with_reducible repeat (first | refine bN ?_ _ | refine bD ?_ | refine bA ?_ _)); refine blk_far ?_ NB542_573.out _; (with_reducible repeat (first | refine bN ?_ _ | refine bD ?_ | refine bA ?_ _)); refine blk_far ?_ NB542_573.out _; (with_reducible repeat (first | refine bN ?_ _ | refine bD ?_ | refine bA ?_ _)); exact BK542.out⟩
          have n6_ : Aside0 (((w91.setCell ⟨gb573, 0, none⟩ (.int .i64 t568)).setCell ⟨gb573, 1, none⟩ (.slice Ao95 t569.length co95)).heap[gb552]? = some (.cells #[.int .i64 t547, .slice Ao18 t548.length co18] 25 (0, 0))) := ⟨by (with_reducible repeat (first | refine bN ?_ _ | refine bD ?_ | refine bA ?_ _)); refine blk_far ?_ NB552_573.out _; (with_reducible repeat (first | refine bN ?_ _ | refine bD ?_ | refine bA ?_ _)); refine blk_far ?_ NB552_573.out _; (with_reducible repeat (first | refine bN ?_ _ | refine bD ?_ | refine bA ?_ _)); exact BK552.out⟩
          have n7_ : Aside0 (((w91.setCell ⟨gb573, 0, none⟩ (.int .i64 t568)).setCell ⟨gb573, 1, none⟩ (.slice Ao95 t569.length co95)).heap[gb573]? = some (.cells #[.int .i64 t568, .slice Ao95 t569.length co95] 25 (0, 0))) := ⟨by (with_reducible repeat (first | refine bN ?_ _ | refine bD ?_ | refine bA ?_ _)); refine blk_put (cs := #[.int .i64 t568, .slice none 0 0]) ?_ 1 _ rfl; (with_reducible repeat (first | refine bN ?_ _ | refine bD ?_ | refine bA ?_ _)); refine blk_put (cs := #[.int .i64 0, .slice none 0 0]) ?_ 0 _ rfl; (with_reducible repeat (first | refine bN ?_ _ | refine bD ?_ | refine bA ?_ _)); exact BK573.out⟩
          have n8_ : Aside0 (Below w.heap.size w ((w91.setCell ⟨gb573, 0, none⟩ (.int .i64 t568)).setCell ⟨gb573, 1, none⟩ (.slice Ao95 t569.length co95))) := ⟨by repeat (first | (with_reducible first | exact HB.out | apply wA | apply wN | apply wD | refine wS ?_ GE542.out | refine wS ?_ GE552.out | refine wS ?_ GE573.out) | exact HB.out)⟩
          (try clear HO_7)
          (try clear HO_543001)
          (try clear HO_553001)
          (try clear HO565)
          (try clear HO571)
          (try clear BK542)
          (try clear BK552)
          (try clear BK573)
          (try clear HB)
          generalize ((w91.setCell ⟨gb573, 0, none⟩ (.int .i64 t568)).setCell ⟨gb573, 1, none⟩ (.slice Ao95 t569.length co95)) = w96 at n0_ n1_ n2_ n3_ n4_ n5_ n6_ n7_ n8_ ⊢
          have HO_7 := n0_
          have HO_543001 := n1_
          have HO_553001 := n2_
          have HO565 := n3_
          have HO571 := n4_
          have BK542 := n5_
          have BK552 := n6_
          have BK573 := n7_
          have HB := n8_
          clear n0_ n1_ n2_ n3_ n4_ n5_ n6_ n7_ n8_
          have n0_ := Aside0.mk (Kd.R_drew HO_7.out)
          have n1_ := Aside0.mk (Kd.V_drew HO_543001.out)
          have n2_ := Aside0.mk (Kd.V_drew HO_553001.out)
          have n3_ := Aside0.mk (Kd.V_drew HO565.out)
          have n4_ := Aside0.mk (Kd.V_drew HO571.out)
          have n5_ := Aside0.mk (blk_drew BK542.out)
          have n6_ := Aside0.mk (blk_drew BK552.out)
          have n7_ := Aside0.mk (blk_drew BK573.out)
          have n8_ := Aside0.mk (below_drew1 HB.out)
          clear HO_7
          clear HO_543001
          clear HO_553001
          clear HO565
          clear HO571
          clear BK542
          clear BK552
          clear BK573
          clear HB
          have HO_7 := n0_
          have HO_543001 := n1_
          have HO_553001 := n2_
          have HO565 := n3_
          have HO571 := n4_
          have BK542 := n5_
          have BK552 := n6_
          have BK573 := n7_
          have HB := n8_
          clear n0_ n1_ n2_ n3_ n4_ n5_ n6_ n7_ n8_
          refine start_ (n := 27) (S := fun w' => True) (ds := []) #[F_, F_, F_, F_, F_, F_, F_, F_, F_, F_, F_, F_, F_, F_, F_, F_, F_, F_, F_, F_, F_, F_, F_, F_, F_, F_, F_] (by kernel_rfl) rfl rfl trivial (fun hHeld => ?_); refine with_tabW elenchuslaw04_UnifyShifted.tab14 elenchuslaw04_UnifyShifted.bits14 (fun HT_ HW_ => ?_)
          generalize w96.drew = w97 at HO_7 HO_543001 HO_553001 HO565 HO571 BK542 BK552 BK573 HB hHeld ⊢
          refine one_ (i := 0) (N := some 60) #[T_, F_, F_, F_, F_, F_, F_, F_, F_, F_, F_, F_, F_, F_, F_, F_, F_, F_, F_, F_, F_, F_, F_, F_, F_, F_, F_] rfl rfl (one_of HT_.out (by kernel_rfl)) (by decide) (fun K hK => ?_)
          refine goes_ Try.func57 (by kernel_rfl) rfl #[] (by rfl) rfl rfl (by (try simp only [List.map_toArray, List.map_cons, List.map_nil]); first | done | rfl | (simp only [List.length_drop, List.length_take]; rfl)) ?_
          with_reducible refine (elenchuslaw04_awake.calls  true _ A39.out).mono ?_
          rintro e w98 ⟨rfl, hb⟩
          refine ⟨_, rfl, ?_⟩
          have n0_ := Aside0.mk (Kd.R_below (by (with_reducible repeat (first | apply Kd.R_alloc | apply Kd.R_drewN | apply Kd.R_drew)); exact HO_7.out) hb)
          have n1_ := Aside0.mk (Kd.V_below (by (with_reducible repeat (first | apply vA | apply vN | apply vD)); exact HO_543001.out) hb)
          have n2_ := Aside0.mk (Kd.V_below (by (with_reducible repeat (first | apply vA | apply vN | apply vD)); exact HO_553001.out) hb)
          have n3_ := Aside0.mk (Kd.V_below (by (with_reducible repeat (first | apply vA | apply vN | apply vD)); exact HO565.out) hb)
          have n4_ := Aside0.mk (Kd.V_below (by (with_reducible repeat (first | apply vA | apply vN | apply vD)); exact HO571.out) hb)
          have n5_ := Aside0.mk (blk_below (g := gb542) (o := .cells #[.int .i64 a0_0, .slice A0_1 l0_1.length c0_1] 25 (0, 0)) (by (with_reducible repeat (first | refine bN ?_ _ | refine bD ?_ | refine bA ?_ _)); exact BK542.out) hb)
          have n6_ := Aside0.mk (blk_below (g := gb552) (o := .cells #[.int .i64 t547, .slice Ao18 t548.length co18] 25 (0, 0)) (by (with_reducible repeat (first | refine bN ?_ _ | refine bD ?_ | refine bA ?_ _)); exact BK552.out) hb)
          have n7_ := Aside0.mk (blk_below (g := gb573) (o := .cells #[.int .i64 t568, .slice Ao95 t569.length co95] 25 (0, 0)) (by (with_reducible repeat (first | refine bN ?_ _ | refine bD ?_ | refine bA ?_ _)); exact BK573.out) hb)
          have n8_ := Aside0.mk (below_step (by repeat (first | (with_reducible first | exact HB.out | apply wA | apply wN | apply wD | refine wS ?_ GE542.out | refine wS ?_ GE552.out | refine wS ?_ GE573.out) | exact HB.out)) hb)
          clear HO_7
          clear HO_543001
          clear HO_553001
          clear HO565
          clear HO571
          clear BK542
          clear BK552
          clear BK573
          clear HB
          have HO_7 := n0_
          have HO_543001 := n1_
          have HO_553001 := n2_
          have HO565 := n3_
          have HO571 := n4_
          have BK542 := n5_
          have BK552 := n6_
          have BK573 := n7_
          have HB := n8_
          clear n0_ n1_ n2_ n3_ n4_ n5_ n6_ n7_ n8_
          (try clear hb)
          (try clear hb2)
          (try clear hk)
          (try clear hi)
          refine hK.out _ _ trivial (fun hHeld => ?_)
          clear hK K
          refine norm_ (a' := ?_) ?_ ?_
          rotate_left
          ·show Act.put _ (some 60) _ = _
           simp only [Act.put, sT, s0, sS, i64_w, i32_w]
           rfl
          refine pure_ (i := 1) (N := some 61) (v := ?_) (a' := ?_) #[T_, T_, F_, F_, F_, F_, F_, F_, F_, F_, F_, F_, F_, F_, F_, F_, F_, F_, F_, F_, F_, F_, F_, F_, F_, F_, F_] rfl rfl (any_of HT_.out (by kernel_rfl)) (fun _ _ _ h => h) (Or.inl ⟨by rfl, ?_⟩) ?_ ?_
          rotate_left
          ·intro w'
           go_simp
           with_reducible rfl
          rotate_left
          ·simp only [Act.put, sT, s0, sS, i64_w, i32_w]
           rfl
          refine pure_ (i := 2) (N := some 62) (v := ?_) (a' := ?_) #[T_, T_, T_, F_, F_, F_, F_, F_, F_, F_, F_, F_, F_, F_, F_, F_, F_, F_, F_, F_, F_, F_, F_, F_, F_, F_, F_] rfl rfl (any_of HT_.out (by kernel_rfl)) (fun _ _ _ h => h) (Or.inl ⟨by rfl, ?_⟩) ?_ ?_
          rotate_left
          ·intro w'
           go_simp
           with_reducible rfl
          rotate_left
          ·simp only [Act.put, sT, s0, sS, i64_w, i32_w]
           rfl
          refine pure_ (i := 3) (N := some 63) (v := ?_) (a' := ?_) #[T_, T_, T_, T_, F_, F_, F_, F_, F_, F_, F_, F_, F_, F_, F_, F_, F_, F_, F_, F_, F_, F_, F_, F_, F_, F_, F_] rfl rfl (any_of HT_.out (by kernel_rfl)) (fun _ _ _ h => h) (Or.inl ⟨by rfl, ?_⟩) ?_ ?_
          rotate_left
          ·intro w'
           go_simp
           with_reducible rfl
          rotate_left
          ·simp only [Act.put, sT, s0, sS, i64_w, i32_w]
           rfl
          refine pure_ (i := 4) (N := some 64) (v := ?_) (a' := ?_) #[T_, T_, T_, T_, T_, F_, F_, F_, F_, F_, F_, F_, F_, F_, F_, F_, F_, F_, F_, F_, F_, F_, F_, F_, F_, F_, F_] rfl rfl (any_of HT_.out (by kernel_rfl)) (fun _ _ _ h => h) (Or.inl ⟨by rfl, ?_⟩) ?_ ?_
          rotate_left
          ·intro w'
           go_simp
           with_reducible rfl
          rotate_left
          ·simp only [Act.put, sT, s0, sS, i64_w, i32_w]
           rfl
          refine pure_ (i := 5) (N := some 65) (v := ?_) (a' := ?_) #[T_, T_, T_, T_, T_, T_, F_, F_, F_, F_, F_, F_, F_, F_, F_, F_, F_, F_, F_, F_, F_, F_, F_, F_, F_, F_, F_] rfl rfl (any_of HT_.out (by kernel_rfl)) (fun _ _ _ h => h) (Or.inl ⟨by rfl, ?_⟩) ?_ ?_
          rotate_left
          ·intro w'
           go_simp
           with_reducible rfl
          rotate_left
          ·simp only [Act.put, sT, s0, sS, i64_w, i32_w]
           rfl
          refine pure_ (i := 6) (N := some 66) (v := ?_) (a' := ?_) #[T_, T_, T_, T_, T_, T_, T_, F_, F_, F_, F_, F_, F_, F_, F_, F_, F_, F_, F_, F_, F_, F_, F_, F_, F_, F_, F_] rfl rfl (any_of HT_.out (by kernel_rfl)) (fun _ _ _ h => h) (Or.inl ⟨by rfl, ?_⟩) ?_ ?_
          rotate_left
          ·intro w'
           go_simp
           with_reducible rfl
          rotate_left
          ·simp only [Act.put, sT, s0, sS, i64_w, i32_w]
           rfl
          refine pure_ (i := 7) (N := some 67) (v := ?_) (a' := ?_) #[T_, T_, T_, T_, T_, T_, T_, T_, F_, F_, F_, F_, F_, F_, F_, F_, F_, F_, F_, F_, F_, F_, F_, F_, F_, F_, F_] rfl rfl (any_of HT_.out (by kernel_rfl)) (fun _ _ _ h => h) (Or.inl ⟨by rfl, ?_⟩) ?_ ?_
          rotate_left
          ·intro w'
           go_simp
           with_reducible rfl
          rotate_left
          ·simp only [Act.put, sT, s0, sS, i64_w, i32_w]
           rfl
          refine pure_ (i := 8) (N := some 68) (v := ?_) (a' := ?_) #[T_, T_, T_, T_, T_, T_, T_, T_, T_, F_, F_, F_, F_, F_, F_, F_, F_, F_, F_, F_, F_, F_, F_, F_, F_, F_, F_] rfl rfl (any_of HT_.out (by kernel_rfl)) (fun _ _ _ h => h) (Or.inl ⟨by rfl, ?_⟩) ?_ ?_
          rotate_left
          ·intro w'
           go_simp
           with_reducible rfl
          rotate_left
          ·simp only [Act.put, sT, s0, sS, i64_w, i32_w]
           rfl
          refine pure_ (i := 9) (N := some 69) (v := ?_) (a' := ?_) #[T_, T_, T_, T_, T_, T_, T_, T_, T_, T_, F_, F_, F_, F_, F_, F_, F_, F_, F_, F_, F_, F_, F_, F_, F_, F_, F_] rfl rfl (any_of HT_.out (by kernel_rfl)) (fun _ _ _ h => h) (Or.inl ⟨by rfl, ?_⟩) ?_ ?_
          rotate_left
          ·intro w'
           go_simp
           with_reducible rfl
          rotate_left
          ·simp only [Act.put, sT, s0, sS, i64_w, i32_w]
           rfl
          refine pure_ (i := 10) (N := some 70) (v := ?_) (a' := ?_) #[T_, T_, T_, T_, T_, T_, T_, T_, T_, T_, T_, F_, F_, F_, F_, F_, F_, F_, F_, F_, F_, F_, F_, F_, F_, F_, F_] rfl rfl (any_of HT_.out (by kernel_rfl)) (fun _ _ _ h => h) (Or.inl ⟨by rfl, ?_⟩) ?_ ?_
          rotate_left
          ·intro w'
           go_simp
           with_reducible rfl
          rotate_left
          ·simp only [Act.put, sT, s0, sS, i64_w, i32_w]
           rfl
          refine pure_ (i := 11) (N := some 71) (v := ?_) (a' := ?_) #[T_, T_, T_, T_, T_, T_, T_, T_, T_, T_, T_, T_, F_, F_, F_, F_, F_, F_, F_, F_, F_, F_, F_, F_, F_, F_, F_] rfl rfl (any_of HT_.out (by kernel_rfl)) (fun _ _ _ h => h) (Or.inl ⟨by rfl, ?_⟩) ?_ ?_
          rotate_left
          ·intro w'
           go_simp
           with_reducible rfl
          rotate_left
          ·simp only [Act.put, sT, s0, sS, i64_w, i32_w]
           rfl
          refine pure_ (i := 12) (N := some 72) (v := ?_) (a' := ?_) #[T_, T_, T_, T_, T_, T_, T_, T_, T_, T_, T_, T_, T_, F_, F_, F_, F_, F_, F_, F_, F_, F_, F_, F_, F_, F_, F_] rfl rfl (any_of HT_.out (by kernel_rfl)) (fun _ _ _ h => h) (Or.inl ⟨by rfl, ?_⟩) ?_ ?_
          rotate_left
          ·intro w'
           go_simp
           with_reducible rfl
          rotate_left
          ·simp only [Act.put, sT, s0, sS, i64_w, i32_w]
           rfl
          refine pure_ (i := 13) (N := some 73) (v := undef) (a' := ?_) #[T_, T_, T_, T_, T_, T_, T_, T_, T_, T_, T_, T_, T_, T_, F_, F_, F_, F_, F_, F_, F_, F_, F_, F_, F_, F_, F_] rfl rfl (any_of HT_.out (by kernel_rfl)) (fun _ _ _ h => h) (Or.inr ⟨by rfl, rfl⟩) ?_ ?_
          rotate_left
          ·simp only [Act.put, sT, s0, sS, i64_w, i32_w]
           rfl
          refine pure_ (i := 14) (N := some 74) (v := undef) (a' := ?_) #[T_, T_, T_, T_, T_, T_, T_, T_, T_, T_, T_, T_, T_, T_, T_, F_, F_, F_, F_, F_, F_, F_, F_, F_, F_, F_, F_] rfl rfl (any_of HT_.out (by kernel_rfl)) (fun _ _ _ h => h) (Or.inr ⟨by rfl, rfl⟩) ?_ ?_
          rotate_left
          ·simp only [Act.put, sT, s0, sS, i64_w, i32_w]
           rfl
          refine pure_ (i := 15) (N := some 75) (v := undef) (a' := ?_) #[T_, T_, T_, T_, T_, T_, T_, T_, T_, T_, T_, T_, T_, T_, T_, T_, F_, F_, F_, F_, F_, F_, F_, F_, F_, F_, F_] rfl rfl (any_of HT_.out (by kernel_rfl)) (fun _ _ _ h => h) (Or.inr ⟨by rfl, rfl⟩) ?_ ?_
          rotate_left
          ·simp only [Act.put, sT, s0, sS, i64_w, i32_w]
           rfl
          refine pure_ (i := 16) (N := some 76) (v := undef) (a' := ?_) #[T_, T_, T_, T_, T_, T_, T_, T_, T_, T_, T_, T_, T_, T_, T_, T_, T_, F_, F_, F_, F_, F_, F_, F_, F_, F_, F_] rfl rfl (any_of HT_.out (by kernel_rfl)) (fun _ _ _ h => h) (Or.inr ⟨by rfl, rfl⟩) ?_ ?_
          rotate_left
          ·simp only [Act.put, sT, s0, sS, i64_w, i32_w]
           rfl
          refine pure_ (i := 17) (N := some 77) (v := undef) (a' := ?_) #[T_, T_, T_, T_, T_, T_, T_, T_, T_, T_, T_, T_, T_, T_, T_, T_, T_, T_, F_, F_, F_, F_, F_, F_, F_, F_, F_] rfl rfl (any_of HT_.out (by kernel_rfl)) (fun _ _ _ h => h) (Or.inr ⟨by rfl, rfl⟩) ?_ ?_
          rotate_left
          ·simp only [Act.put, sT, s0, sS, i64_w, i32_w]
           rfl
          refine pure_ (i := 18) (N := some 78) (v := ?_) (a' := ?_) #[T_, T_, T_, T_, T_, T_, T_, T_, T_, T_, T_, T_, T_, T_, T_, T_, T_, T_, T_, F_, F_, F_, F_, F_, F_, F_, F_] rfl rfl (any_of HT_.out (by kernel_rfl)) (fun _ _ _ h => h) (Or.inl ⟨by rfl, ?_⟩) ?_ ?_
          rotate_left
          ·intro w'
           go_simp
           with_reducible rfl
          rotate_left
          ·simp only [Act.put, sT, s0, sS, i64_w, i32_w]
           rfl
          refine pure_ (i := 19) (N := some 79) (v := ?_) (a' := ?_) #[T_, T_, T_, T_, T_, T_, T_, T_, T_, T_, T_, T_, T_, T_, T_, T_, T_, T_, T_, T_, F_, F_, F_, F_, F_, F_, F_] rfl rfl (any_of HT_.out (by kernel_rfl)) (fun _ _ _ h => h) (Or.inl ⟨by rfl, ?_⟩) ?_ ?_
          rotate_left
          ·intro w'
           go_simp
           with_reducible rfl
          rotate_left
          ·simp only [Act.put, sT, s0, sS, i64_w, i32_w]
           rfl
          refine pure_ (i := 20) (N := some 80) (v := undef) (a' := ?_) #[T_, T_, T_, T_, T_, T_, T_, T_, T_, T_, T_, T_, T_, T_, T_, T_, T_, T_, T_, T_, T_, F_, F_, F_, F_, F_, F_] rfl rfl (any_of HT_.out (by kernel_rfl)) (fun _ _ _ h => h) (Or.inr ⟨by rfl, rfl⟩) ?_ ?_
          rotate_left
          ·simp only [Act.put, sT, s0, sS, i64_w, i32_w]
           rfl
          refine pure_ (i := 21) (N := some 81) (v := undef) (a' := ?_) #[T_, T_, T_, T_, T_, T_, T_, T_, T_, T_, T_, T_, T_, T_, T_, T_, T_, T_, T_, T_, T_, T_, F_, F_, F_, F_, F_] rfl rfl (any_of HT_.out (by kernel_rfl)) (fun _ _ _ h => h) (Or.inr ⟨by rfl, rfl⟩) ?_ ?_
          rotate_left
          ·simp only [Act.put, sT, s0, sS, i64_w, i32_w]
           rfl
          refine pure_ (i := 22) (N := some 82) (v := undef) (a' := ?_) #[T_, T_, T_, T_, T_, T_, T_, T_, T_, T_, T_, T_, T_, T_, T_, T_, T_, T_, T_, T_, T_, T_, T_, F_, F_, F_, F_] rfl rfl (any_of HT_.out (by kernel_rfl)) (fun _ _ _ h => h) (Or.inr ⟨by rfl, rfl⟩) ?_ ?_
          rotate_left
          ·simp only [Act.put, sT, s0, sS, i64_w, i32_w]
           rfl
          refine pure_ (i := 23) (N := some 83) (v := undef) (a' := ?_) #[T_, T_, T_, T_, T_, T_, T_, T_, T_, T_, T_, T_, T_, T_, T_, T_, T_, T_, T_, T_, T_, T_, T_, T_, F_, F_, F_] rfl rfl (any_of HT_.out (by kernel_rfl)) (fun _ _ _ h => h) (Or.inr ⟨by rfl, rfl⟩) ?_ ?_
          rotate_left
          ·simp only [Act.put, sT, s0, sS, i64_w, i32_w]
           rfl
          refine pure_ (i := 24) (N := some 84) (v := undef) (a' := ?_) #[T_, T_, T_, T_, T_, T_, T_, T_, T_, T_, T_, T_, T_, T_, T_, T_, T_, T_, T_, T_, T_, T_, T_, T_, T_, F_, F_] rfl rfl (any_of HT_.out (by kernel_rfl)) (fun _ _ _ h => h) (Or.inr ⟨by rfl, rfl⟩) ?_ ?_
          rotate_left
          ·simp only [Act.put, sT, s0, sS, i64_w, i32_w]
           rfl
          refine pure_ (i := 25) (N := some 85) (v := ?_) (a' := ?_) #[T_, T_, T_, T_, T_, T_, T_, T_, T_, T_, T_, T_, T_, T_, T_, T_, T_, T_, T_, T_, T_, T_, T_, T_, T_, T_, F_] rfl rfl (any_of HT_.out (by kernel_rfl)) (fun _ _ _ h => h) (Or.inl ⟨by rfl, ?_⟩) ?_ ?_
          rotate_left
          ·intro w'
           go_simp
           with_reducible rfl
          rotate_left
          ·simp only [Act.put, sT, s0, sS, i64_w, i32_w]
           rfl
          refine pure_ (i := 26) (N := some 4) (v := ?_) (a' := ?_) #[T_, T_, T_, T_, T_, T_, T_, T_, T_, T_, T_, T_, T_, T_, T_, T_, T_, T_, T_, T_, T_, T_, T_, T_, T_, T_, T_] rfl rfl (any_of HT_.out (by kernel_rfl)) (fun _ _ _ h => h) (Or.inl ⟨by rfl, ?_⟩) ?_ ?_
          rotate_left
          ·intro w'
           go_simp
           with_reducible rfl
          rotate_left
          ·simp only [Act.put, sT, s0, sS, i64_w, i32_w]
           rfl
          refine done_ (done_of HT_.out (by kernel_rfl)) ?_
          try go_wp2
          go_ret
          exact ⟨by first | rfl | (simp [errW_none, errW_some] <;> rfl) | (simp [*, errW_none, errW_some] <;> rfl), by repeat (first | (with_reducible first | exact HB.out | apply wA | apply wN | apply wD | refine wS ?_ GE542.out | refine wS ?_ GE552.out | refine wS ?_ GE573.out) | exact HB.out)⟩
        ·rw [if_neg c42] at H
         have c42b0 : (t567 == 0) = false := beq_eq_false_iff_ne.mpr c42
         have c42b1 : (t567 != 0) = true := bne_iff_ne.mpr c42
         obtain rfl := Option.some.inj H
         obtain ⟨Ao99, co99, eo99⟩ := Kd.R_slice HO_7.out
         subst eo99
         have hnb100 := NB542_552.out
         have hnc100 := NB552_542.out
         have hcz101_0 : wr.cell? ⟨gb542, 0, none⟩ = some (.int .i64 a0_0) := (blk_cell BK542.out 0).trans rfl
         have hcz101_1 : wr.cell? ⟨gb542, 1, none⟩ = some (.slice A0_1 l0_1.length c0_1) := (blk_cell BK542.out 1).trans rfl
         have hfz101_0 := blk_frozen BK542.out 0
         have hfz101_1 := blk_frozen BK542.out 1
         have hcz102_0 : wr.cell? ⟨gb552, 0, none⟩ = some (.int .i64 t547) := (blk_cell BK552.out 0).trans rfl
         have hcz102_1 : wr.cell? ⟨gb552, 1, none⟩ = some (.slice Ao18 t548.length co18) := (blk_cell BK552.out 1).trans rfl
         have hfz102_0 := blk_frozen BK552.out 0
         have hfz102_1 := blk_frozen BK552.out 1
         try go_wp2_with (first | ((with_reducible refine gate_callee (f := 55) rfl ?_); refine goesL_ (some 50) rfl rfl Try.func55 (by kernel_rfl) rfl #[.agg #[.int .i64 a0_0, .slice A0_1 l0_1.length c0_1], .agg #[.int .i64 t547, .slice Ao18 t548.length co18]] rfl (by (try simp only [List.map_toArray, List.map_cons, List.map_nil]); first | done | rfl | (simp only [List.length_drop, List.length_take]; rfl)) ?_; (with_reducible refine (unify_Mgu.calls a0_0 (fun k_ => ((P0_1_ k_ ∨ w.heap.size ≤ k_) ∧ (some k_ ≠ (.slice Ao99 t553.length co99 : Value).ownBlock ∧ (k_ ≠ gb542 ∧ k_ ≠ gb552)))) _ _ l0_1 t547 (fun k_ => ((P0_1_ k_ ∨ w.heap.size ≤ k_) ∧ (some k_ ≠ (.slice Ao99 t553.length co99 : Value).ownBlock ∧ (k_ ≠ gb542 ∧ k_ ≠ gb552)))) _ _ t548 t563 true t567 _ ?side1 ?side2 A37.out).mono ?_); (case side1 => exact HO_543001.out); (case side2 => exact HO_553001.out); rintro e w103 ⟨v564, rfl, ho0, hb⟩; refine ⟨_, rfl, ?_⟩; have n0_ := Aside0.mk (Kd.R_below (by (with_reducible repeat (first | apply Kd.R_alloc | apply Kd.R_drewN | apply Kd.R_drew)); exact HO_7.out) hb); have n1_ := Aside0.mk (Kd.V_below (by (with_reducible repeat (first | apply vA | apply vN | apply vD)); exact HO_543001.out) hb); have n2_ := Aside0.mk (Kd.V_below (by (with_reducible repeat (first | apply vA | apply vN | apply vD)); exact HO_553001.out) hb); have n3_ := Aside0.mk (Kd.V_lower (Kd.V_mono (ok' := fun k_ => (P0_1_ k_ ∨ w.heap.size ≤ k_) ∧ some k_ ≠ (.slice Ao99 t553.length co99 : Value).ownBlock ∧ k_ ≠ gb542 ∧ k_ ≠ gb552) ho0 (fun k_ hk_ => ⟨Or.elim hk_ (fun hs_ => Or.elim hs_ (fun hs_ => hs_.1) (fun hs_ => hs_.1)) (fun hn_ => (.inr (Nat.le_trans (below_size (by repeat (first | (with_reducible first | exact HB.out | apply wA | apply wN | apply wD | refine wS ?_ GE542.out | refine wS ?_ GE552.out) | exact HB.out))) hn_))), Or.elim hk_ (fun hs_ => Or.elim hs_ (fun hs_ => hs_.2.1) (fun hs_ => hs_.2.1)) (fun hn_ => (Kd.fresh' (Kd.R_lt (by (with_reducible repeat (first | apply Kd.R_alloc | apply Kd.R_drewN | apply Kd.R_drew)); exact HO_7.out)) k_ hn_)), Or.elim hk_ (fun hs_ => Or.elim hs_ (fun hs_ => hs_.2.2.1) (fun hs_ => hs_.2.2.1)) (fun hn_ => (Kd.freshB (g := gb542) (o := .cells #[.int .i64 a0_0, .slice A0_1 l0_1.length c0_1] 25 (0, 0)) (by (with_reducible repeat (first | refine bN ?_ _ | refine bD ?_ | refine bA ?_ _)); exact BK542.out) k_ hn_)), Or.elim hk_ (fun hs_ => Or.elim hs_ (fun hs_ => hs_.2.2.2) (fun hs_ => hs_.2.2.2)) (fun hn_ => (Kd.freshB (g := gb552) (o := .cells #[.int .i64 t547, .slice Ao18 t548.length co18] 25 (0, 0)) (by (with_reducible repeat (first | refine bN ?_ _ | refine bD ?_ | refine bA ?_ _)); exact BK552.out) k_ hn_))⟩)) (below_size (by repeat (first | (with_reducible first | exact HB.out | apply wA | apply wN | apply wD | refine wS ?_ GE542.out | refine wS ?_ GE552.out) | exact HB.out)))); have n4_ := Aside0.mk (blk_below (g := gb542) (o := .cells #[.int .i64 a0_0, .slice A0_1 l0_1.length c0_1] 25 (0, 0)) (by (with_reducible repeat (first | refine bN ?_ _ | refine bD ?_ | refine bA ?_ _)); exact BK542.out) hb); have n5_ := Aside0.mk (blk_below (g := gb552) (o := .cells #[.int .i64 t547, .slice Ao18 t548.length co18] 25 (0, 0)) (by (with_reducible repeat (first | refine bN ?_ _ | refine bD ?_ | refine bA ?_ _)); exact BK552.out) hb); have n6_ := Aside0.mk (below_step (by repeat (first | (with_reducible first | exact HB.out | apply wA | apply wN | apply wD | refine wS ?_ GE542.out | refine wS ?_ GE552.out) | exact HB.out)) hb); clear HO_7; clear HO_543001; clear HO_553001; clear BK542; clear BK552; clear HB; have HO_7 := n0_; have HO_543001 := n1_; have HO_553001 := n2_; have HO565 := n3_; have BK542 := n4_; have BK552 := n5_; have HB := n6_; clear n0_ n1_ n2_ n3_ n4_ n5_ n6_; (try clear hb); (try clear hb2); (try clear hk); (try clear hi); (try clear ho0); have hcz104_0 : w103.cell? ⟨gb542, 0, none⟩ = some (.int .i64 a0_0) := (blk_cell BK542.out 0).trans rfl; have hcz104_1 : w103.cell? ⟨gb542, 1, none⟩ = some (.slice A0_1 l0_1.length c0_1) := (blk_cell BK542.out 1).trans rfl; have hfz104_0 := blk_frozen BK542.out 0; have hfz104_1 := blk_frozen BK542.out 1; obtain ⟨Ao105, co105, eo105⟩ := Kd.V_slice HO565.out; subst eo105) | ((with_reducible refine gate_callee (f := 27) rfl ?_); refine goesL_ (some 57) rfl rfl Try.func27 (by kernel_rfl) rfl #[.slice Ao105 t563.length co105, .agg #[.int .i64 a0_0, .slice A0_1 l0_1.length c0_1]] rfl (by (try simp only [List.map_toArray, List.map_cons, List.map_nil]); first | done | rfl | (simp only [List.length_drop, List.length_take]; rfl)) ?_; (with_reducible refine (subst_Apply.calls (fun k_ => ((P0_1_ k_ ∨ w.heap.size ≤ k_) ∧ (some k_ ≠ (.slice Ao99 t553.length co99 : Value).ownBlock ∧ (k_ ≠ gb542 ∧ k_ ≠ gb552)))) _ _ t563 a0_0 (fun k_ => ((P0_1_ k_ ∨ w.heap.size ≤ k_) ∧ (some k_ ≠ (.slice Ao99 t553.length co99 : Value).ownBlock ∧ (k_ ≠ gb542 ∧ k_ ≠ gb552)))) _ _ l0_1 t568 t569 t572 _ ?side1 ?side2 A38.out).mono ?_); (case side1 => exact HO565.out); (case side2 => exact HO_543001.out); rintro e w106 ⟨v570, rfl, ho0, hb⟩; refine ⟨_, rfl, ?_⟩; have n0_ := Aside0.mk (Kd.R_below (by (with_reducible repeat (first | apply Kd.R_alloc | apply Kd.R_drewN | apply Kd.R_drew)); exact HO_7.out) hb); have n1_ := Aside0.mk (Kd.V_below (by (with_reducible repeat (first | apply vA | apply vN | apply vD)); exact HO_543001.out) hb); have n2_ := Aside0.mk (Kd.V_below (by (with_reducible repeat (first | apply vA | apply vN | apply vD)); exact HO_553001.out) hb); have n3_ := Aside0.mk (Kd.V_below (by (with_reducible repeat (first | apply vA | apply vN | apply vD)); exact HO565.out) hb); have n4_ := Aside0.mk (Kd.V_lower (Kd.V_mono (ok' := fun k_ => (P0_1_ k_ ∨ w.heap.size ≤ k_) ∧ some k_ ≠ (.slice Ao99 t553.length co99 : Value).ownBlock ∧ k_ ≠ gb542 ∧ k_ ≠ gb552) ho0 (fun k_ hk_ => ⟨Or.elim hk_ (fun hs_ => Or.elim hs_ (fun hs_ => hs_.1) (fun hs_ => hs_.1)) (fun hn_ => (.inr (Nat.le_trans (below_size (by repeat (first | (with_reducible first | exact HB.out | apply wA | apply wN | apply wD | refine wS ?_ GE542.out | refine wS ?_ GE552.out) | exact HB.out))) hn_))), Or.elim hk_ (fun hs_ => Or.elim hs_ (fun hs_ => hs_.2.1) (fun hs_ => hs_.2.1)) (fun hn_ => (Kd.fresh' (Kd.R_lt (by (with_reducible repeat (first | apply Kd.R_alloc | apply Kd.R_drewN | apply Kd.R_drew)); exact HO_7.out)) k_ hn_)), Or.elim hk_ (fun hs_ => Or.elim hs_ (fun hs_ => hs_.2.2.1) (fun hs_ => hs_.2.2.1)) (fun hn_ => (Kd.freshB (g := gb542) (o := .cells #[.int .i64 a0_0, .slice A0_1 l0_1.length c0_1] 25 (0, 0)) (by (with_reducible repeat (first | refine bN ?_ _ | refine bD ?_ | refine bA ?_ _)); exact BK542.out) k_ hn_)), Or.elim hk_ (fun hs_ => Or.elim hs_ (fun hs_ => hs_.2.2.2) (fun hs_ => hs_.2.2.2)) (fun hn_ => (Kd.freshB (g := gb552) (o := .cells #[.int .i64 t547, .slice Ao18 t548.length co18] 25 (0, 0)) (by (with_reducible repeat (first | refine bN ?_ _ | refine bD ?_ | refine bA ?_ _)); exact BK552.out) k_ hn_))⟩)) (below_size (by repeat (first | (with_reducible first | exact HB.out | apply wA | apply wN | apply wD | refine wS ?_ GE542.out | refine wS ?_ GE552.out) | exact HB.out)))); have n5_ := Aside0.mk (blk_below (g := gb542) (o := .cells #[.int .i64 a0_0, .slice A0_1 l0_1.length c0_1] 25 (0, 0)) (by (with_reducible repeat (first | refine bN ?_ _ | refine bD ?_ | refine bA ?_ _)); exact BK542.out) hb); have n6_ := Aside0.mk (blk_below (g := gb552) (o := .cells #[.int .i64 t547, .slice Ao18 t548.length co18] 25 (0, 0)) (by (with_reducible repeat (first | refine bN ?_ _ | refine bD ?_ | refine bA ?_ _)); exact BK552.out) hb); have n7_ := Aside0.mk (below_step (by repeat (first | (with_reducible first | exact HB.out | apply wA | apply wN | apply wD | refine wS ?_ GE542.out | refine wS ?_ GE552.out) | exact HB.out)) hb); clear HO_7; clear HO_543001; clear HO_553001; clear HO565; clear BK542; clear BK552; clear HB; have HO_7 := n0_; have HO_543001 := n1_; have HO_553001 := n2_; have HO565 := n3_; have HO571 := n4_; have BK542 := n5_; have BK552 := n6_; have HB := n7_; clear n0_ n1_ n2_ n3_ n4_ n5_ n6_ n7_; (try clear hb); (try clear hb2); (try clear hk); (try clear hi); (try clear ho0)) | ((with_reducible refine gate_dst (N := 12) rfl ?_); (try (refine gate_guard (by rfl) ?_; dsimp only)); refine box_event ?hg (N := 12) ?hd (cs := #[.int .i64 0, .slice none 0 0]) (t := 25) ?hr ?_; (case hd => rfl); (case hg => rfl); (case hr => first | (go_simp; done) | (go_simp; rfl)); intro gb573 hg w107 hbox hb; have n0_ := Aside0.mk (Kd.R_below (by (with_reducible repeat (first | apply Kd.R_alloc | apply Kd.R_drewN | apply Kd.R_drew)); exact HO_7.out) hb); have n1_ := Aside0.mk (Kd.V_below (Kd.V_elderB (by (with_reducible repeat (first | apply vA | apply vN | apply vD)); exact HO_543001.out) gb573 (Nat.le_of_eq hg.symm)) hb); have n2_ := Aside0.mk (Kd.V_below (Kd.V_elderB (by (with_reducible repeat (first | apply vA | apply vN | apply vD)); exact HO_553001.out) gb573 (Nat.le_of_eq hg.symm)) hb); have n3_ := Aside0.mk (Kd.V_below (Kd.V_elderB (by (with_reducible repeat (first | apply vA | apply vN | apply vD)); exact HO565.out) gb573 (Nat.le_of_eq hg.symm)) hb); have n4_ := Aside0.mk (Kd.V_below (Kd.V_elderB (by (with_reducible repeat (first | apply vA | apply vN | apply vD)); exact HO571.out) gb573 (Nat.le_of_eq hg.symm)) hb); have n5_ := Aside0.mk (blk_below (g := gb542) (o := .cells #[.int .i64 a0_0, .slice A0_1 l0_1.length c0_1] 25 (0, 0)) (by (with_reducible repeat (first | refine bN ?_ _ | refine bD ?_ | refine bA ?_ _)); exact BK542.out) hb); have n6_ := Aside0.mk (blk_below (g := gb552) (o := .cells #[.int .i64 t547, .slice Ao18 t548.length co18] 25 (0, 0)) (by (with_reducible repeat (first | refine bN ?_ _ | refine bD ?_ | refine bA ?_ _)); exact BK552.out) hb); have n7_ := Aside0.mk (below_step (by repeat (first | (with_reducible first | exact HB.out | apply wA | apply wN | apply wD | refine wS ?_ GE542.out | refine wS ?_ GE552.out) | exact HB.out)) hb); have n8_ := Aside0.mk (hbox); have n9_ := Aside0.mk ((by rw [hg]; exact (below_size (by repeat (first | (with_reducible first | exact HB.out | apply wA | apply wN | apply wD | refine wS ?_ GE542.out | refine wS ?_ GE552.out) | exact HB.out))) : w.heap.size ≤ gb573)); have n10_ := Aside0.mk ((by rw [hg]; exact (below_size (by repeat (first | (with_reducible first | exact HB.out | apply wA | apply wN | apply wD | refine wS ?_ GE542.out | refine wS ?_ GE552.out) | exact HB.out))) : w.heap.size ≤ gb573)); have n11_ := Aside0.mk ((by rw [hg]; exact Nat.ne_of_lt (blk_lt (g := gb542) (o := .cells #[.int .i64 a0_0, .slice A0_1 l0_1.length c0_1] 25 (0, 0)) (by (with_reducible repeat (first | refine bN ?_ _ | refine bD ?_ | refine bA ?_ _)); exact BK542.out)) : gb542 ≠ gb573)); have n12_ := Aside0.mk ((by rw [hg]; exact Nat.ne_of_gt (blk_lt (g := gb542) (o := .cells #[.int .i64 a0_0, .slice A0_1 l0_1.length c0_1] 25 (0, 0)) (by (with_reducible repeat (first | refine bN ?_ _ | refine bD ?_ | refine bA ?_ _)); exact BK542.out)) : gb573 ≠ gb542)); have n13_ := Aside0.mk ((by rw [hg]; exact Nat.ne_of_lt (blk_lt (g := gb552) (o := .cells #[.int .i64 t547, .slice Ao18 t548.length co18] 25 (0, 0)) (by (with_reducible repeat (first | refine bN ?_ _ | refine bD ?_ | refine bA ?_ _)); exact BK552.out)) : gb552 ≠ gb573)); have n14_ := Aside0.mk ((by rw [hg]; exact Nat.ne_of_gt (blk_lt (g := gb552) (o := .cells #[.int .i64 t547, .slice Ao18 t548.length co18] 25 (0, 0)) (by (with_reducible repeat (first | refine bN ?_ _ | refine bD ?_ | refine bA ?_ _)); exact BK552.out)) : gb573 ≠ gb552)); clear HO_7; clear HO_543001; clear HO_553001; clear HO565; clear HO571; clear BK542; clear BK552; clear HB; have HO_7 := n0_; have HO_543001 := n1_; have HO_553001 := n2_; have HO565 := n3_; have HO571 := n4_; have BK542 := n5_; have BK552 := n6_; have HB := n7_; have BK573 := n8_; have GW573 := n9_; have GE573 := n10_; have NB542_573 := n11_; have NB573_542 := n12_; have NB552_573 := n13_; have NB573_552 := n14_; clear n0_ n1_ n2_ n3_ n4_ n5_ n6_ n7_ n8_ n9_ n10_ n11_ n12_ n13_ n14_; clear hb hbox hg; have hnb108 := NB573_542.out; have hnc108 := NB542_573.out; have hnb109 := NB573_552.out; have hnc109 := NB552_573.out; have hcz110_0 : w107.cell? ⟨gb573, 0, none⟩ = some (.int .i64 0) := (blk_cell BK573.out 0).trans rfl; have hcz110_1 : w107.cell? ⟨gb573, 1, none⟩ = some (.slice none 0 0) := (blk_cell BK573.out 1).trans rfl; have hfz110_0 := blk_frozen BK573.out 0; have hfz110_1 := blk_frozen BK573.out 1; obtain ⟨Ao111, co111, eo111⟩ := Kd.V_slice HO571.out; subst eo111))
         have n0_ : Aside0 (Kd.R (Kd.int .i64) 3 ((w107.setCell ⟨gb573, 0, none⟩ (.int .i64 t568)).setCell ⟨gb573, 1, none⟩ (.slice Ao111 t569.length co111)) w.heap.size (fun k_ => (w.heap.size ≤ k_)) (.slice Ao99 t553.length co99) t553) := ⟨by (with_reducible repeat (first | apply Kd.R_alloc | apply Kd.R_drewN | apply Kd.R_drew)); exact Kd.R_mono (Kd.R_far (p := ⟨gb573, 1, none⟩) (Kd.R_far (p := ⟨gb573, 0, none⟩) (Kd.R_types HO_7.out BK573.out (by decide)) (fun _ hk => hk.2) (.int .i64 t568)) (fun _ hk => hk.2) (.slice Ao111 t569.length co111)) (fun _ hk => hk.1)⟩
         have n1_ : Aside0 (Kd.V k25 25 ((w107.setCell ⟨gb573, 0, none⟩ (.int .i64 t568)).setCell ⟨gb573, 1, none⟩ (.slice Ao111 t569.length co111)) w.heap.size (fun k_ => (P0_1_ k_ ∨ w.heap.size ≤ k_) ∧ some k_ ≠ (.slice Ao99 t553.length co99 : Value).ownBlock ∧ k_ ≠ gb542 ∧ k_ ≠ gb552 ∧ k_ ≠ gb573) (.slice A0_1 l0_1.length c0_1) l0_1) := ⟨by (with_reducible repeat (first | apply vA | apply vN | apply vD)); exact Kd.V_mono (Kd.V_far (p := ⟨gb573, 1, none⟩) (Kd.V_far (p := ⟨gb573, 0, none⟩) (Kd.V_mono HO_543001.out (fun k_ hk => (⟨hk, hk.2⟩ : _ ∧ k_ ≠ gb573))) (fun _ hk => hk.2) (.int .i64 t568)) (fun _ hk => hk.2) (.slice Ao111 t569.length co111)) (fun _ hk => ⟨hk.1.1.1, ⟨hk.1.1.2.1, ⟨hk.1.1.2.2.1, ⟨hk.1.1.2.2.2, hk.1.2⟩⟩⟩⟩)⟩
         have n2_ : Aside0 (Kd.V k25 25 ((w107.setCell ⟨gb573, 0, none⟩ (.int .i64 t568)).setCell ⟨gb573, 1, none⟩ (.slice Ao111 t569.length co111)) w.heap.size (fun k_ => (P0_1_ k_ ∨ w.heap.size ≤ k_) ∧ some k_ ≠ (.slice Ao99 t553.length co99 : Value).ownBlock ∧ k_ ≠ gb542 ∧ k_ ≠ gb552 ∧ k_ ≠ gb573) (.slice Ao18 t548.length co18) t548) := ⟨by (with_reducible repeat (first | apply vA | apply vN | apply vD)); exact Kd.V_mono (Kd.V_far (p := ⟨gb573, 1, none⟩) (Kd.V_far (p := ⟨gb573, 0, none⟩) (Kd.V_mono HO_553001.out (fun k_ hk => (⟨hk, hk.2⟩ : _ ∧ k_ ≠ gb573))) (fun _ hk => hk.2) (.int .i64 t568)) (fun _ hk => hk.2) (.slice Ao111 t569.length co111)) (fun _ hk => ⟨hk.1.1.1, ⟨hk.1.1.2.1, ⟨hk.1.1.2.2.1, ⟨hk.1.1.2.2.2, hk.1.2⟩⟩⟩⟩)⟩
         have n3_ : Aside0 (Kd.V k60 60 ((w107.setCell ⟨gb573, 0, none⟩ (.int .i64 t568)).setCell ⟨gb573, 1, none⟩ (.slice Ao111 t569.length co111)) w.heap.size (fun k_ => (P0_1_ k_ ∨ w.heap.size ≤ k_) ∧ some k_ ≠ (.slice Ao99 t553.length co99 : Value).ownBlock ∧ k_ ≠ gb542 ∧ k_ ≠ gb552 ∧ k_ ≠ gb573) (.slice Ao105 t563.length co105) t563) := ⟨by (with_reducible repeat (first | apply vA | apply vN | apply vD)); exact Kd.V_mono (Kd.V_far (p := ⟨gb573, 1, none⟩) (Kd.V_far (p := ⟨gb573, 0, none⟩) (Kd.V_mono HO565.out (fun k_ hk => (⟨hk, hk.2⟩ : _ ∧ k_ ≠ gb573))) (fun _ hk => hk.2) (.int .i64 t568)) (fun _ hk => hk.2) (.slice Ao111 t569.length co111)) (fun _ hk => ⟨hk.1.1.1, ⟨hk.1.1.2.1, ⟨hk.1.1.2.2.1, ⟨hk.1.1.2.2.2, hk.1.2⟩⟩⟩⟩)⟩
         have n4_ : Aside0 (Kd.V k25 25 ((w107.setCell ⟨gb573, 0, none⟩ (.int .i64 t568)).setCell ⟨gb573, 1, none⟩ (.slice Ao111 t569.length co111)) w.heap.size (fun k_ => (P0_1_ k_ ∨ w.heap.size ≤ k_) ∧ some k_ ≠ (.slice Ao99 t553.length co99 : Value).ownBlock ∧ k_ ≠ gb542 ∧ k_ ≠ gb552 ∧ k_ ≠ gb573) (.slice Ao111 t569.length co111) t569) := ⟨by (with_reducible repeat (first | apply vA | apply vN | apply vD)); exact Kd.V_mono (Kd.V_far (p := ⟨gb573, 1, none⟩) (Kd.V_far (p := ⟨gb573, 0, none⟩) (Kd.V_mono HO571.out (fun k_ hk => (⟨hk, hk.2⟩ : _ ∧ k_ ≠ gb573))) (fun _ hk => hk.2) (.int .i64 t568)) (fun _ hk => hk.2) (.slice Ao111 t569.length co111)) (fun _ hk => ⟨hk.1.1.1, ⟨hk.1.1.2.1, ⟨hk.1.1.2.2.1, ⟨hk.1.1.2.2.2, hk.1.2⟩⟩⟩⟩)⟩
         have n5_ : Aside0 (((w107.setCell ⟨gb573, 0, none⟩ (.int .i64 t568)).setCell ⟨gb573, 1, none⟩ (.slice Ao111 t569.length co111)).heap[gb542]? = some (.cells #[.int .i64 a0_0, .slice A0_1 l0_1.length c0_1] 25 (0, 0))) := ⟨by (with_reducible repeat (first | refine bN ?_ _ | refine bD ?_ | refine bA ?_ _)); refine blk_far ?_ NB542_573.out _; (with_reducible repeat (first | refine bN ?_ _ | refine bD ?_ | refine bA ?_ _)); refine blk_far ?_ NB542_573.out _; (with_reducible repeat (first | refine bN ?_ _ | refine bD ?_ | refine bA ?_ _)); exact BK542.out⟩
         have n6_ : Aside0 (((w107.setCell ⟨gb573, 0, none⟩ (.int .i64 t568)).setCell ⟨gb573, 1, none⟩ (.slice Ao111 t569.length co111)).heap[gb552]? = some (.cells #[.int .i64 t547, .slice Ao18 t548.length co18] 25 (0, 0))) := ⟨by (with_reducible repeat (first | refine bN ?_ _ | refine bD ?_ | refine bA ?_ _)); refine blk_far ?_ NB552_573.out _; (with_reducible repeat (first | refine bN ?_ _ | refine bD ?_ | refine bA ?_ _)); refine blk_far ?_ NB552_573.out _; (with_reducible repeat (first | refine bN ?_ _ | refine bD ?_ | refine bA ?_ _)); exact BK552.out⟩
         have n7_ : Aside0 (((w107.setCell ⟨gb573, 0, none⟩ (.int .i64 t568)).setCell ⟨gb573, 1, none⟩ (.slice Ao111 t569.length co111)).heap[gb573]? = some (.cells #[.int .i64 t568, .slice Ao111 t569.length co111] 25 (0, 0))) := ⟨by (with_reducible repeat (first | refine bN ?_ _ | refine bD ?_ | refine bA ?_ _)); refine blk_put (cs := #[.int .i64 t568, .slice none 0 0]) ?_ 1 _ rfl; (with_reducible repeat (first | refine bN ?_ _ | refine bD ?_ | refine bA ?_ _)); refine blk_put (cs := #[.int .i64 0, .slice none 0 0]) ?_ 0 _ rfl; (with_reducible repeat (first | refine bN ?_ _ | refine bD ?_ | refine bA ?_ _)); exact BK573.out⟩
         have n8_ : Aside0 (Below w.heap.size w ((w107.setCell ⟨gb573, 0, none⟩ (.int .i64 t568)).setCell ⟨gb573, 1, none⟩ (.slice Ao111 t569.length co111))) := ⟨by repeat (first | (with_reducible first | exact HB.out | apply wA | apply wN | apply wD | refine wS ?_ GE542.out | refine wS ?_ GE552.out | refine wS ?_ GE573.out) | exact HB.out)⟩
         (try clear HO_7)
         (try clear HO_543001)
         (try clear HO_553001)
         (try clear HO565)
         (try clear HO571)
         (try clear BK542)
         (try clear BK552)
         (try clear BK573)
         (try clear HB)
         generalize ((w107.setCell ⟨gb573, 0, none⟩ (.int .i64 t568)).setCell ⟨gb573, 1, none⟩ (.slice Ao111 t569.length co111)) = w112 at n0_ n1_ n2_ n3_ n4_ n5_ n6_ n7_ n8_ ⊢
         have HO_7 := n0_
         have HO_543001 := n1_
         have HO_553001 := n2_
         have HO565 := n3_
         have HO571 := n4_
         have BK542 := n5_
         have BK552 := n6_
         have BK573 := n7_
         have HB := n8_
         clear n0_ n1_ n2_ n3_ n4_ n5_ n6_ n7_ n8_
         have n0_ := Aside0.mk (Kd.R_drew HO_7.out)
         have n1_ := Aside0.mk (Kd.V_drew HO_543001.out)
         have n2_ := Aside0.mk (Kd.V_drew HO_553001.out)
         have n3_ := Aside0.mk (Kd.V_drew HO565.out)
         have n4_ := Aside0.mk (Kd.V_drew HO571.out)
         have n5_ := Aside0.mk (blk_drew BK542.out)
         have n6_ := Aside0.mk (blk_drew BK552.out)
         have n7_ := Aside0.mk (blk_drew BK573.out)
         have n8_ := Aside0.mk (below_drew1 HB.out)
         clear HO_7
         clear HO_543001
         clear HO_553001
         clear HO565
         clear HO571
         clear BK542
         clear BK552
         clear BK573
         clear HB
         have HO_7 := n0_
         have HO_543001 := n1_
         have HO_553001 := n2_
         have HO565 := n3_
         have HO571 := n4_
         have BK542 := n5_
         have BK552 := n6_
         have BK573 := n7_
         have HB := n8_
         clear n0_ n1_ n2_ n3_ n4_ n5_ n6_ n7_ n8_
         refine start_ (n := 27) (S := fun w' => True) (ds := []) #[F_, F_, F_, F_, F_, F_, F_, F_, F_, F_, F_, F_, F_, F_, F_, F_, F_, F_, F_, F_, F_, F_, F_, F_, F_, F_, F_] (by kernel_rfl) rfl rfl trivial (fun hHeld => ?_); refine with_tabW elenchuslaw04_UnifyShifted.tab14 elenchuslaw04_UnifyShifted.bits14 (fun HT_ HW_ => ?_)
         generalize w112.drew = w113 at HO_7 HO_543001 HO_553001 HO565 HO571 BK542 BK552 BK573 HB hHeld ⊢
         refine one_ (i := 0) (N := some 60) #[T_, F_, F_, F_, F_, F_, F_, F_, F_, F_, F_, F_, F_, F_, F_, F_, F_, F_, F_, F_, F_, F_, F_, F_, F_, F_, F_] rfl rfl (one_of HT_.out (by kernel_rfl)) (by decide) (fun K hK => ?_)
         refine goes_ Try.func57 (by kernel_rfl) rfl #[] (by rfl) rfl rfl (by (try simp only [List.map_toArray, List.map_cons, List.map_nil]); first | done | rfl | (simp only [List.length_drop, List.length_take]; rfl)) ?_
         with_reducible refine (elenchuslaw04_awake.calls  true _ A39.out).mono ?_
         rintro e w114 ⟨rfl, hb⟩
         refine ⟨_, rfl, ?_⟩
         have n0_ := Aside0.mk (Kd.R_below (by (with_reducible repeat (first | apply Kd.R_alloc | apply Kd.R_drewN | apply Kd.R_drew)); exact HO_7.out) hb)
         have n1_ := Aside0.mk (Kd.V_below (by (with_reducible repeat (first | apply vA | apply vN | apply vD)); exact HO_543001.out) hb)
         have n2_ := Aside0.mk (Kd.V_below (by (with_reducible repeat (first | apply vA | apply vN | apply vD)); exact HO_553001.out) hb)
         have n3_ := Aside0.mk (Kd.V_below (by (with_reducible repeat (first | apply vA | apply vN | apply vD)); exact HO565.out) hb)
         have n4_ := Aside0.mk (Kd.V_below (by (with_reducible repeat (first | apply vA | apply vN | apply vD)); exact HO571.out) hb)
         have n5_ := Aside0.mk (blk_below (g := gb542) (o := .cells #[.int .i64 a0_0, .slice A0_1 l0_1.length c0_1] 25 (0, 0)) (by (with_reducible repeat (first | refine bN ?_ _ | refine bD ?_ | refine bA ?_ _)); exact BK542.out) hb)
         have n6_ := Aside0.mk (blk_below (g := gb552) (o := .cells #[.int .i64 t547, .slice Ao18 t548.length co18] 25 (0, 0)) (by (with_reducible repeat (first | refine bN ?_ _ | refine bD ?_ | refine bA ?_ _)); exact BK552.out) hb)
         have n7_ := Aside0.mk (blk_below (g := gb573) (o := .cells #[.int .i64 t568, .slice Ao111 t569.length co111] 25 (0, 0)) (by (with_reducible repeat (first | refine bN ?_ _ | refine bD ?_ | refine bA ?_ _)); exact BK573.out) hb)
         have n8_ := Aside0.mk (below_step (by repeat (first | (with_reducible first | exact HB.out | apply wA | apply wN | apply wD | refine wS ?_ GE542.out | refine wS ?_ GE552.out | refine wS ?_ GE573.out) | exact HB.out)) hb)
         clear HO_7
         clear HO_543001
         clear HO_553001
         clear HO565
         clear HO571
         clear BK542
         clear BK552
         clear BK573
         clear HB
         have HO_7 := n0_
         have HO_543001 := n1_
         have HO_553001 := n2_
         have HO565 := n3_
         have HO571 := n4_
         have BK542 := n5_
         have BK552 := n6_
         have BK573 := n7_
         have HB := n8_
         clear n0_ n1_ n2_ n3_ n4_ n5_ n6_ n7_ n8_
         (try clear hb)
         (try clear hb2)
         (try clear hk)
         (try clear hi)
         refine hK.out _ _ trivial (fun hHeld => ?_)
         clear hK K
         refine norm_ (a' := ?_) ?_ ?_
         rotate_left
         ·show Act.put _ (some 60) _ = _
          simp only [Act.put, sT, s0, sS, i64_w, i32_w]
          rfl
         refine pure_ (i := 1) (N := some 61) (v := ?_) (a' := ?_) #[T_, T_, F_, F_, F_, F_, F_, F_, F_, F_, F_, F_, F_, F_, F_, F_, F_, F_, F_, F_, F_, F_, F_, F_, F_, F_, F_] rfl rfl (any_of HT_.out (by kernel_rfl)) (fun _ _ _ h => h) (Or.inl ⟨by rfl, ?_⟩) ?_ ?_
         rotate_left
         ·intro w'
          go_simp
          with_reducible rfl
         rotate_left
         ·simp only [Act.put, sT, s0, sS, i64_w, i32_w]
          rfl
         refine pure_ (i := 2) (N := some 62) (v := ?_) (a' := ?_) #[T_, T_, T_, F_, F_, F_, F_, F_, F_, F_, F_, F_, F_, F_, F_, F_, F_, F_, F_, F_, F_, F_, F_, F_, F_, F_, F_] rfl rfl (any_of HT_.out (by kernel_rfl)) (fun _ _ _ h => h) (Or.inl ⟨by rfl, ?_⟩) ?_ ?_
         rotate_left
         ·intro w'
          go_simp
          with_reducible rfl
         rotate_left
         ·simp only [Act.put, sT, s0, sS, i64_w, i32_w]
          rfl
         refine pure_ (i := 3) (N := some 63) (v := ?_) (a' := ?_) #[T_, T_, T_, T_, F_, F_, F_, F_, F_, F_, F_, F_, F_, F_, F_, F_, F_, F_, F_, F_, F_, F_, F_, F_, F_, F_, F_] rfl rfl (any_of HT_.out (by kernel_rfl)) (fun _ _ _ h => h) (Or.inl ⟨by rfl, ?_⟩) ?_ ?_
         rotate_left
         ·intro w'
          go_simp
          with_reducible rfl
         rotate_left
         ·simp only [Act.put, sT, s0, sS, i64_w, i32_w]
          rfl
         refine pure_ (i := 4) (N := some 64) (v := ?_) (a' := ?_) #[T_, T_, T_, T_, T_, F_, F_, F_, F_, F_, F_, F_, F_, F_, F_, F_, F_, F_, F_, F_, F_, F_, F_, F_, F_, F_, F_] rfl rfl (any_of HT_.out (by kernel_rfl)) (fun _ _ _ h => h) (Or.inl ⟨by rfl, ?_⟩) ?_ ?_
         rotate_left
         ·intro w'
          go_simp
          with_reducible rfl
         rotate_left
         ·simp only [Act.put, sT, s0, sS, i64_w, i32_w]
          rfl
         refine pure_ (i := 5) (N := some 65) (v := ?_) (a' := ?_) #[T_, T_, T_, T_, T_, T_, F_, F_, F_, F_, F_, F_, F_, F_, F_, F_, F_, F_, F_, F_, F_, F_, F_, F_, F_, F_, F_] rfl rfl (any_of HT_.out (by kernel_rfl)) (fun _ _ _ h => h) (Or.inl ⟨by rfl, ?_⟩) ?_ ?_
         rotate_left
         ·intro w'
          go_simp
          with_reducible rfl
         rotate_left
         ·simp only [Act.put, sT, s0, sS, i64_w, i32_w]
          rfl
         refine pure_ (i := 6) (N := some 66) (v := ?_) (a' := ?_) #[T_, T_, T_, T_, T_, T_, T_, F_, F_, F_, F_, F_, F_, F_, F_, F_, F_, F_, F_, F_, F_, F_, F_, F_, F_, F_, F_] rfl rfl (any_of HT_.out (by kernel_rfl)) (fun _ _ _ h => h) (Or.inl ⟨by rfl, ?_⟩) ?_ ?_
         rotate_left
         ·intro w'
          go_simp
          with_reducible rfl
         rotate_left
         ·simp only [Act.put, sT, s0, sS, i64_w, i32_w]
          rfl
         refine pure_ (i := 7) (N := some 67) (v := ?_) (a' := ?_) #[T_, T_, T_, T_, T_, T_, T_, T_, F_, F_, F_, F_, F_, F_, F_, F_, F_, F_, F_, F_, F_, F_, F_, F_, F_, F_, F_] rfl rfl (any_of HT_.out (by kernel_rfl)) (fun _ _ _ h => h) (Or.inl ⟨by rfl, ?_⟩) ?_ ?_
         rotate_left
         ·intro w'
          go_simp
          with_reducible rfl
         rotate_left
         ·simp only [Act.put, sT, s0, sS, i64_w, i32_w]
          rfl
         refine pure_ (i := 8) (N := some 68) (v := ?_) (a' := ?_) #[T_, T_, T_, T_, T_, T_, T_, T_, T_, F_, F_, F_, F_, F_, F_, F_, F_, F_, F_, F_, F_, F_, F_, F_, F_, F_, F_] rfl rfl (any_of HT_.out (by kernel_rfl)) (fun _ _ _ h => h) (Or.inl ⟨by rfl, ?_⟩) ?_ ?_
         rotate_left
         ·intro w'
          go_simp
          with_reducible rfl
         rotate_left
         ·simp only [Act.put, sT, s0, sS, i64_w, i32_w]
          rfl
         refine pure_ (i := 9) (N := some 69) (v := undef) (a' := ?_) #[T_, T_, T_, T_, T_, T_, T_, T_, T_, T_, F_, F_, F_, F_, F_, F_, F_, F_, F_, F_, F_, F_, F_, F_, F_, F_, F_] rfl rfl (any_of HT_.out (by kernel_rfl)) (fun _ _ _ h => h) (Or.inr ⟨by rfl, rfl⟩) ?_ ?_
         rotate_left
         ·simp only [Act.put, sT, s0, sS, i64_w, i32_w]
          rfl
         refine pure_ (i := 10) (N := some 70) (v := undef) (a' := ?_) #[T_, T_, T_, T_, T_, T_, T_, T_, T_, T_, T_, F_, F_, F_, F_, F_, F_, F_, F_, F_, F_, F_, F_, F_, F_, F_, F_] rfl rfl (any_of HT_.out (by kernel_rfl)) (fun _ _ _ h => h) (Or.inr ⟨by rfl, rfl⟩) ?_ ?_
         rotate_left
         ·simp only [Act.put, sT, s0, sS, i64_w, i32_w]
          rfl
         refine pure_ (i := 11) (N := some 71) (v := ?_) (a' := ?_) #[T_, T_, T_, T_, T_, T_, T_, T_, T_, T_, T_, T_, F_, F_, F_, F_, F_, F_, F_, F_, F_, F_, F_, F_, F_, F_, F_] rfl rfl (any_of HT_.out (by kernel_rfl)) (fun _ _ _ h => h) (Or.inl ⟨by rfl, ?_⟩) ?_ ?_
         rotate_left
         ·intro w'
          go_simp
          with_reducible rfl
         rotate_left
         ·simp only [Act.put, sT, s0, sS, i64_w, i32_w]
          rfl
         refine pure_ (i := 12) (N := some 72) (v := ?_) (a' := ?_) #[T_, T_, T_, T_, T_, T_, T_, T_, T_, T_, T_, T_, T_, F_, F_, F_, F_, F_, F_, F_, F_, F_, F_, F_, F_, F_, F_] rfl rfl (any_of HT_.out (by kernel_rfl)) (fun _ _ _ h => h) (Or.inl ⟨by rfl, ?_⟩) ?_ ?_
         rotate_left
         ·intro w'
          go_simp
          with_reducible rfl
         rotate_left
         ·simp only [Act.put, sT, s0, sS, i64_w, i32_w]
          rfl
         refine pure_ (i := 13) (N := some 73) (v := undef) (a' := ?_) #[T_, T_, T_, T_, T_, T_, T_, T_, T_, T_, T_, T_, T_, T_, F_, F_, F_, F_, F_, F_, F_, F_, F_, F_, F_, F_, F_] rfl rfl (any_of HT_.out (by kernel_rfl)) (fun _ _ _ h => h) (Or.inr ⟨by rfl, rfl⟩) ?_ ?_
         rotate_left
         ·simp only [Act.put, sT, s0, sS, i64_w, i32_w]
          rfl
         refine pure_ (i := 14) (N := some 74) (v := undef) (a' := ?_) #[T_, T_, T_, T_, T_, T_, T_, T_, T_, T_, T_, T_, T_, T_, T_, F_, F_, F_, F_, F_, F_, F_, F_, F_, F_, F_, F_] rfl rfl (any_of HT_.out (by kernel_rfl)) (fun _ _ _ h => h) (Or.inr ⟨by rfl, rfl⟩) ?_ ?_
         rotate_left
         ·simp only [Act.put, sT, s0, sS, i64_w, i32_w]
          rfl
         refine pure_ (i := 15) (N := some 75) (v := undef) (a' := ?_) #[T_, T_, T_, T_, T_, T_, T_, T_, T_, T_, T_, T_, T_, T_, T_, T_, F_, F_, F_, F_, F_, F_, F_, F_, F_, F_, F_] rfl rfl (any_of HT_.out (by kernel_rfl)) (fun _ _ _ h => h) (Or.inr ⟨by rfl, rfl⟩) ?_ ?_
         rotate_left
         ·simp only [Act.put, sT, s0, sS, i64_w, i32_w]
          rfl
         refine pure_ (i := 16) (N := some 76) (v := undef) (a' := ?_) #[T_, T_, T_, T_, T_, T_, T_, T_, T_, T_, T_, T_, T_, T_, T_, T_, T_, F_, F_, F_, F_, F_, F_, F_, F_, F_, F_] rfl rfl (any_of HT_.out (by kernel_rfl)) (fun _ _ _ h => h) (Or.inr ⟨by rfl, rfl⟩) ?_ ?_
         rotate_left
         ·simp only [Act.put, sT, s0, sS, i64_w, i32_w]
          rfl
         refine pure_ (i := 17) (N := some 77) (v := undef) (a' := ?_) #[T_, T_, T_, T_, T_, T_, T_, T_, T_, T_, T_, T_, T_, T_, T_, T_, T_, T_, F_, F_, F_, F_, F_, F_, F_, F_, F_] rfl rfl (any_of HT_.out (by kernel_rfl)) (fun _ _ _ h => h) (Or.inr ⟨by rfl, rfl⟩) ?_ ?_
         rotate_left
         ·simp only [Act.put, sT, s0, sS, i64_w, i32_w]
          rfl
         refine pure_ (i := 18) (N := some 78) (v := ?_) (a' := ?_) #[T_, T_, T_, T_, T_, T_, T_, T_, T_, T_, T_, T_, T_, T_, T_, T_, T_, T_, T_, F_, F_, F_, F_, F_, F_, F_, F_] rfl rfl (any_of HT_.out (by kernel_rfl)) (fun _ _ _ h => h) (Or.inl ⟨by rfl, ?_⟩) ?_ ?_
         rotate_left
         ·intro w'
          go_simp
          with_reducible rfl
         rotate_left
         ·simp only [Act.put, sT, s0, sS, i64_w, i32_w]
          rfl
         refine pure_ (i := 19) (N := some 79) (v := ?_) (a' := ?_) #[T_, T_, T_, T_, T_, T_, T_, T_, T_, T_, T_, T_, T_, T_, T_, T_, T_, T_, T_, T_, F_, F_, F_, F_, F_, F_, F_] rfl rfl (any_of HT_.out (by kernel_rfl)) (fun _ _ _ h => h) (Or.inl ⟨by rfl, ?_⟩) ?_ ?_
         rotate_left
         ·intro w'
          go_simp
          with_reducible rfl
         rotate_left
         ·simp only [Act.put, sT, s0, sS, i64_w, i32_w]
          rfl
         refine pure_ (i := 20) (N := some 80) (v := undef) (a' := ?_) #[T_, T_, T_, T_, T_, T_, T_, T_, T_, T_, T_, T_, T_, T_, T_, T_, T_, T_, T_, T_, T_, F_, F_, F_, F_, F_, F_] rfl rfl (any_of HT_.out (by kernel_rfl)) (fun _ _ _ h => h) (Or.inr ⟨by rfl, rfl⟩) ?_ ?_
         rotate_left
         ·simp only [Act.put, sT, s0, sS, i64_w, i32_w]
          rfl
         refine pure_ (i := 21) (N := some 81) (v := undef) (a' := ?_) #[T_, T_, T_, T_, T_, T_, T_, T_, T_, T_, T_, T_, T_, T_, T_, T_, T_, T_, T_, T_, T_, T_, F_, F_, F_, F_, F_] rfl rfl (any_of HT_.out (by kernel_rfl)) (fun _ _ _ h => h) (Or.inr ⟨by rfl, rfl⟩) ?_ ?_
         rotate_left
         ·simp only [Act.put, sT, s0, sS, i64_w, i32_w]
          rfl
         refine pure_ (i := 22) (N := some 82) (v := undef) (a' := ?_) #[T_, T_, T_, T_, T_, T_, T_, T_, T_, T_, T_, T_, T_, T_, T_, T_, T_, T_, T_, T_, T_, T_, T_, F_, F_, F_, F_] rfl rfl (any_of HT_.out (by kernel_rfl)) (fun _ _ _ h => h) (Or.inr ⟨by rfl, rfl⟩) ?_ ?_
         rotate_left
         ·simp only [Act.put, sT, s0, sS, i64_w, i32_w]
          rfl
         refine pure_ (i := 23) (N := some 83) (v := undef) (a' := ?_) #[T_, T_, T_, T_, T_, T_, T_, T_, T_, T_, T_, T_, T_, T_, T_, T_, T_, T_, T_, T_, T_, T_, T_, T_, F_, F_, F_] rfl rfl (any_of HT_.out (by kernel_rfl)) (fun _ _ _ h => h) (Or.inr ⟨by rfl, rfl⟩) ?_ ?_
         rotate_left
         ·simp only [Act.put, sT, s0, sS, i64_w, i32_w]
          rfl
         refine pure_ (i := 24) (N := some 84) (v := undef) (a' := ?_) #[T_, T_, T_, T_, T_, T_, T_, T_, T_, T_, T_, T_, T_, T_, T_, T_, T_, T_, T_, T_, T_, T_, T_, T_, T_, F_, F_] rfl rfl (any_of HT_.out (by kernel_rfl)) (fun _ _ _ h => h) (Or.inr ⟨by rfl, rfl⟩) ?_ ?_
         rotate_left
         ·simp only [Act.put, sT, s0, sS, i64_w, i32_w]
          rfl
         refine pure_ (i := 25) (N := some 85) (v := ?_) (a' := ?_) #[T_, T_, T_, T_, T_, T_, T_, T_, T_, T_, T_, T_, T_, T_, T_, T_, T_, T_, T_, T_, T_, T_, T_, T_, T_, T_, F_] rfl rfl (any_of HT_.out (by kernel_rfl)) (fun _ _ _ h => h) (Or.inl ⟨by rfl, ?_⟩) ?_ ?_
         rotate_left
         ·intro w'
          go_simp
          with_reducible rfl
         rotate_left
         ·simp only [Act.put, sT, s0, sS, i64_w, i32_w]
          rfl
         refine pure_ (i := 26) (N := some 4) (v := ?_) (a' := ?_) #[T_, T_, T_, T_, T_, T_, T_, T_, T_, T_, T_, T_, T_, T_, T_, T_, T_, T_, T_, T_, T_, T_, T_, T_, T_, T_, T_] rfl rfl (any_of HT_.out (by kernel_rfl)) (fun _ _ _ h => h) (Or.inl ⟨by rfl, ?_⟩) ?_ ?_
         rotate_left
         ·intro w'
          go_simp
          with_reducible rfl
         rotate_left
         ·simp only [Act.put, sT, s0, sS, i64_w, i32_w]
          rfl
         refine done_ (done_of HT_.out (by kernel_rfl)) ?_
         try go_wp2
         go_ret
         exact ⟨by first | rfl | (simp [errW_none, errW_some] <;> rfl) | (simp [*, errW_none, errW_some] <;> rfl), by repeat (first | (with_reducible first | exact HB.out | apply wA | apply wN | apply wD | refine wS ?_ GE542.out | refine wS ?_ GE552.out | refine wS ?_ GE573.out) | exact HB.out)⟩
       ·replace c41 := Bool.eq_false_iff.mpr c41
        subst c41
        have H1 : (some false) = some r := by rw [if_neg (show ¬ (false = true) by decide)] at H; exact H
        clear H
        have H := H1
        clear H1
        obtain rfl := Option.some.inj H
        obtain ⟨Ao115, co115, eo115⟩ := Kd.R_slice HO_7.out
        subst eo115
        have hnb116 := NB542_552.out
        have hnc116 := NB552_542.out
        have hcz117_0 : wr.cell? ⟨gb542, 0, none⟩ = some (.int .i64 a0_0) := (blk_cell BK542.out 0).trans rfl
        have hcz117_1 : wr.cell? ⟨gb542, 1, none⟩ = some (.slice A0_1 l0_1.length c0_1) := (blk_cell BK542.out 1).trans rfl
        have hfz117_0 := blk_frozen BK542.out 0
        have hfz117_1 := blk_frozen BK542.out 1
        have hcz118_0 : wr.cell? ⟨gb552, 0, none⟩ = some (.int .i64 t547) := (blk_cell BK552.out 0).trans rfl
        have hcz118_1 : wr.cell? ⟨gb552, 1, none⟩ = some (.slice Ao18 t548.length co18) := (blk_cell BK552.out 1).trans rfl
        have hfz118_0 := blk_frozen BK552.out 0
        have hfz118_1 := blk_frozen BK552.out 1
        try go_wp2_with (first | ((with_reducible refine gate_callee (f := 55) rfl ?_); refine goesL_ (some 50) rfl rfl Try.func55 (by kernel_rfl) rfl #[.agg #[.int .i64 a0_0, .slice A0_1 l0_1.length c0_1], .agg #[.int .i64 t547, .slice Ao18 t548.length co18]] rfl (by (try simp only [List.map_toArray, List.map_cons, List.map_nil]); first | done | rfl | (simp only [List.length_drop, List.length_take]; rfl)) ?_; (with_reducible refine (unify_Mgu.calls a0_0 (fun k_ => ((P0_1_ k_ ∨ w.heap.size ≤ k_) ∧ (some k_ ≠ (.slice Ao115 t553.length co115 : Value).ownBlock ∧ (k_ ≠ gb542 ∧ k_ ≠ gb552)))) _ _ l0_1 t547 (fun k_ => ((P0_1_ k_ ∨ w.heap.size ≤ k_) ∧ (some k_ ≠ (.slice Ao115 t553.length co115 : Value).ownBlock ∧ (k_ ≠ gb542 ∧ k_ ≠ gb552)))) _ _ t548 t563 false t567 _ ?side1 ?side2 A37.out).mono ?_); (case side1 => exact HO_543001.out); (case side2 => exact HO_553001.out); rintro e w119 ⟨v564, rfl, ho0, hb⟩; refine ⟨_, rfl, ?_⟩; have n0_ := Aside0.mk (Kd.R_below (by (with_reducible repeat (first | apply Kd.R_alloc | apply Kd.R_drewN | apply Kd.R_drew)); exact HO_7.out) hb); have n1_ := Aside0.mk (Kd.V_below (by (with_reducible repeat (first | apply vA | apply vN | apply vD)); exact HO_543001.out) hb); have n2_ := Aside0.mk (Kd.V_below (by (with_reducible repeat (first | apply vA | apply vN | apply vD)); exact HO_553001.out) hb); have n3_ := Aside0.mk (Kd.V_lower (Kd.V_mono (ok' := fun k_ => (P0_1_ k_ ∨ w.heap.size ≤ k_) ∧ some k_ ≠ (.slice Ao115 t553.length co115 : Value).ownBlock ∧ k_ ≠ gb542 ∧ k_ ≠ gb552) ho0 (fun k_ hk_ => ⟨Or.elim hk_ (fun hs_ => Or.elim hs_ (fun hs_ => hs_.1) (fun hs_ => hs_.1)) (fun hn_ => (.inr (Nat.le_trans (below_size (by repeat (first | (with_reducible first | exact HB.out | apply wA | apply wN | apply wD | refine wS ?_ GE542.out | refine wS ?_ GE552.out) | exact HB.out))) hn_))), Or.elim hk_ (fun hs_ => Or.elim hs_ (fun hs_ => hs_.2.1) (fun hs_ => hs_.2.1)) (fun hn_ => (Kd.fresh' (Kd.R_lt (by (with_reducible repeat (first | apply Kd.R_alloc | apply Kd.R_drewN | apply Kd.R_drew)); exact HO_7.out)) k_ hn_)), Or.elim hk_ (fun hs_ => Or.elim hs_ (fun hs_ => hs_.2.2.1) (fun hs_ => hs_.2.2.1)) (fun hn_ => (Kd.freshB (g := gb542) (o := .cells #[.int .i64 a0_0, .slice A0_1 l0_1.length c0_1] 25 (0, 0)) (by (with_reducible repeat (first | refine bN ?_ _ | refine bD ?_ | refine bA ?_ _)); exact BK542.out) k_ hn_)), Or.elim hk_ (fun hs_ => Or.elim hs_ (fun hs_ => hs_.2.2.2) (fun hs_ => hs_.2.2.2)) (fun hn_ => (Kd.freshB (g := gb552) (o := .cells #[.int .i64 t547, .slice Ao18 t548.length co18] 25 (0, 0)) (by (with_reducible repeat (first | refine bN ?_ _ | refine bD ?_ | refine bA ?_ _)); exact BK552.out) k_ hn_))⟩)) (below_size (by repeat (first | (with_reducible first | exact HB.out | apply wA | apply wN | apply wD | refine wS ?_ GE542.out | refine wS ?_ GE552.out) | exact HB.out)))); have n4_ := Aside0.mk (blk_below (g := gb542) (o := .cells #[.int .i64 a0_0, .slice A0_1 l0_1.length c0_1] 25 (0, 0)) (by (with_reducible repeat (first | refine bN ?_ _ | refine bD ?_ | refine bA ?_ _)); exact BK542.out) hb); have n5_ := Aside0.mk (blk_below (g := gb552) (o := .cells #[.int .i64 t547, .slice Ao18 t548.length co18] 25 (0, 0)) (by (with_reducible repeat (first | refine bN ?_ _ | refine bD ?_ | refine bA ?_ _)); exact BK552.out) hb); have n6_ := Aside0.mk (below_step (by repeat (first | (with_reducible first | exact HB.out | apply wA | apply wN | apply wD | refine wS ?_ GE542.out | refine wS ?_ GE552.out) | exact HB.out)) hb); clear HO_7; clear HO_543001; clear HO_553001; clear BK542; clear BK552; clear HB; have HO_7 := n0_; have HO_543001 := n1_; have HO_553001 := n2_; have HO565 := n3_; have BK542 := n4_; have BK552 := n5_; have HB := n6_; clear n0_ n1_ n2_ n3_ n4_ n5_ n6_; (try clear hb); (try clear hb2); (try clear hk); (try clear hi); (try clear ho0); have hcz120_0 : w119.cell? ⟨gb542, 0, none⟩ = some (.int .i64 a0_0) := (blk_cell BK542.out 0).trans rfl; have hcz120_1 : w119.cell? ⟨gb542, 1, none⟩ = some (.slice A0_1 l0_1.length c0_1) := (blk_cell BK542.out 1).trans rfl; have hfz120_0 := blk_frozen BK542.out 0; have hfz120_1 := blk_frozen BK542.out 1; obtain ⟨Ao121, co121, eo121⟩ := Kd.V_slice HO565.out; subst eo121) | ((with_reducible refine gate_callee (f := 27) rfl ?_); refine goesL_ (some 57) rfl rfl Try.func27 (by kernel_rfl) rfl #[.slice Ao121 t563.length co121, .agg #[.int .i64 a0_0, .slice A0_1 l0_1.length c0_1]] rfl (by (try simp only [List.map_toArray, List.map_cons, List.map_nil]); first | done | rfl | (simp only [List.length_drop, List.length_take]; rfl)) ?_; (with_reducible refine (subst_Apply.calls (fun k_ => ((P0_1_ k_ ∨ w.heap.size ≤ k_) ∧ (some k_ ≠ (.slice Ao115 t553.length co115 : Value).ownBlock ∧ (k_ ≠ gb542 ∧ k_ ≠ gb552)))) _ _ t563 a0_0 (fun k_ => ((P0_1_ k_ ∨ w.heap.size ≤ k_) ∧ (some k_ ≠ (.slice Ao115 t553.length co115 : Value).ownBlock ∧ (k_ ≠ gb542 ∧ k_ ≠ gb552)))) _ _ l0_1 t568 t569 t572 _ ?side1 ?side2 A38.out).mono ?_); (case side1 => exact HO565.out); (case side2 => exact HO_543001.out); rintro e w122 ⟨v570, rfl, ho0, hb⟩; refine ⟨_, rfl, ?_⟩; have n0_ := Aside0.mk (Kd.R_below (by (with_reducible repeat (first | apply Kd.R_alloc | apply Kd.R_drewN | apply Kd.R_drew)); exact HO_7.out) hb); have n1_ := Aside0.mk (Kd.V_below (by (with_reducible repeat (first | apply vA | apply vN | apply vD)); exact HO_543001.out) hb); have n2_ := Aside0.mk (Kd.V_below (by (with_reducible repeat (first | apply vA | apply vN | apply vD)); exact HO_553001.out) hb); have n3_ := Aside0.mk (Kd.V_below (by (with_reducible repeat (first | apply vA | apply vN | apply vD)); exact HO565.out) hb); have n4_ := Aside0.mk (Kd.V_lower (Kd.V_mono (ok' := fun k_ => (P0_1_ k_ ∨ w.heap.size ≤ k_) ∧ some k_ ≠ (.slice Ao115 t553.length co115 : Value).ownBlock ∧ k_ ≠ gb542 ∧ k_ ≠ gb552) ho0 (fun k_ hk_ => ⟨Or.elim hk_ (fun hs_ => Or.elim hs_ (fun hs_ => hs_.1) (fun hs_ => hs_.1)) (fun hn_ => (.inr (Nat.le_trans (below_size (by repeat (first | (with_reducible first | exact HB.out | apply wA | apply wN | apply wD | refine wS ?_ GE542.out | refine wS ?_ GE552.out) | exact HB.out))) hn_))), Or.elim hk_ (fun hs_ => Or.elim hs_ (fun hs_ => hs_.2.1) (fun hs_ => hs_.2.1)) (fun hn_ => (Kd.fresh' (Kd.R_lt (by (with_reducible repeat (first | apply Kd.R_alloc | apply Kd.R_drewN | apply Kd.R_drew)); exact HO_7.out)) k_ hn_)), Or.elim hk_ (fun hs_ => Or.elim hs_ (fun hs_ => hs_.2.2.1) (fun hs_ => hs_.2.2.1)) (fun hn_ => (Kd.freshB (g := gb542) (o := .cells #[.int .i64 a0_0, .slice A0_1 l0_1.length c0_1] 25 (0, 0)) (by (with_reducible repeat (first | refine bN ?_ _ | refine bD ?_ | refine bA ?_ _)); exact BK542.out) k_ hn_)), Or.elim hk_ (fun hs_ => Or.elim hs_ (fun hs_ => hs_.2.2.2) (fun hs_ => hs_.2.2.2)) (fun hn_ => (Kd.freshB (g := gb552) (o := .cells #[.int .i64 t547, .slice Ao18 t548.length co18] 25 (0, 0)) (by (with_reducible repeat (first | refine bN ?_ _ | refine bD ?_ | refine bA ?_ _)); exact BK552.out) k_ hn_))⟩)) (below_size (by repeat (first | (with_reducible first | exact HB.out | apply wA | apply wN | apply wD | refine wS ?_ GE542.out | refine wS ?_ GE552.out) | exact HB.out)))); have n5_ := Aside0.mk (blk_below (g := gb542) (o := .cells #[.int .i64 a0_0, .slice A0_1 l0_1.length c0_1] 25 (0, 0)) (by (with_reducible repeat (first | refine bN ?_ _ | refine bD ?_ | refine bA ?_ _)); exact BK542.out) hb); have n6_ := Aside0.mk (blk_below (g := gb552) (o := .cells #[.int .i64 t547, .slice Ao18 t548.length co18] 25 (0, 0)) (by (with_reducible repeat (first | refine bN ?_ _ | refine bD ?_ | refine bA ?_ _)); exact BK552.out) hb); have n7_ := Aside0.mk (below_step (by repeat (first | (with_reducible first | exact HB.out | apply wA | apply wN | apply wD | refine wS ?_ GE542.out | refine wS ?_ GE552.out) | exact HB.out)) hb); clear HO_7; clear HO_543001; clear HO_553001; clear HO565; clear BK542; clear BK552; clear HB; have HO_7 := n0_; have HO_543001 := n1_; have HO_553001 := n2_; have HO565 := n3_; have HO571 := n4_; have BK542 := n5_; have BK552 := n6_; have HB := n7_; clear n0_ n1_ n2_ n3_ n4_ n5_ n6_ n7_; (try clear hb); (try clear hb2); (try clear hk); (try clear hi); (try clear ho0)) | ((with_reducible refine gate_dst (N := 12) rfl ?_); (try (refine gate_guard (by rfl) ?_; dsimp only)); refine box_event ?hg (N := 12) ?hd (cs := #[.int .i64 0, .slice none 0 0]) (t := 25) ?hr ?_; (case hd => rfl); (case hg => rfl); (case hr => first | (go_simp; done) | (go_simp; rfl)); intro gb573 hg w123 hbox hb; have n0_ := Aside0.mk (Kd.R_below (by (with_reducible repeat (first | apply Kd.R_alloc | apply Kd.R_drewN | apply Kd.R_drew)); exact HO_7.out) hb); have n1_ := Aside0.mk (Kd.V_below (Kd.V_elderB (by (with_reducible repeat (first | apply vA | apply vN | apply vD)); exact HO_543001.out) gb573 (Nat.le_of_eq hg.symm)) hb); have n2_ := Aside0.mk (Kd.V_below (Kd.V_elderB (by (with_reducible repeat (first | apply vA | apply vN | apply vD)); exact HO_553001.out) gb573 (Nat.le_of_eq hg.symm)) hb); have n3_ := Aside0.mk (Kd.V_below (Kd.V_elderB (by (with_reducible repeat (first | apply vA | apply vN | apply vD)); exact HO565.out) gb573 (Nat.le_of_eq hg.symm)) hb); have n4_ := Aside0.mk (Kd.V_below (Kd.V_elderB (by (with_reducible repeat (first | apply vA | apply vN | apply vD)); exact HO571.out) gb573 (Nat.le_of_eq hg.symm)) hb); have n5_ := Aside0.mk (blk_below (g := gb542) (o := .cells #[.int .i64 a0_0, .slice A0_1 l0_1.length c0_1] 25 (0, 0)) (by (with_reducible repeat (first | refine bN ?_ _ | refine bD ?_ | refine bA ?_ _)); exact BK542.out) hb); have n6_ := Aside0.mk (blk_below (g := gb552) (o := .cells #[.int .i64 t547, .slice Ao18 t548.length co18] 25 (0, 0)) (by (with_reducible repeat (first | refine bN ?_ _ | refine bD ?_ | refine bA ?_ _)); exact BK552.out) hb); have n7_ := Aside0.mk (below_step (by repeat (first | (with_reducible first | exact HB.out | apply wA | apply wN | apply wD | refine wS ?_ GE542.out | refine wS ?_ GE552.out) | exact HB.out)) hb); have n8_ := Aside0.mk (hbox); have n9_ := Aside0.mk ((by rw [hg]; exact (below_size (by repeat (first | (with_reducible first | exact HB.out | apply wA | apply wN | apply wD | refine wS ?_ GE542.out | refine wS ?_ GE552.out) | exact HB.out))) : w.heap.size ≤ gb573)); have n10_ := Aside0.mk ((by rw [hg]; exact (below_size (by repeat (first | (with_reducible first | exact HB.out | apply wA | apply wN | apply wD | refine wS ?_ GE542.out | refine wS ?_ GE552.out) | exact HB.out))) : w.heap.size ≤ gb573)); have n11_ := Aside0.mk ((by rw [hg]; exact Nat.ne_of_lt (blk_lt (g := gb542) (o := .cells #[.int .i64 a0_0, .slice A0_1 l0_1.length c0_1] 25 (0, 0)) (by (with_reducible repeat (first | refine bN ?_ _ | refine bD ?_ | refine bA ?_ _)); exact BK542.out)) : gb542 ≠ gb573)); have n12_ := Aside0.mk ((by rw [hg]; exact Nat.ne_of_gt (blk_lt (g := gb542) (o := .cells #[.int .i64 a0_0, .slice A0_1 l0_1.length c0_1] 25 (0, 0)) (by (with_reducible repeat (first | refine bN ?_ _ | refine bD ?_ | refine bA ?_ _)); exact BK542.out)) : gb573 ≠ gb542)); have n13_ := Aside0.mk ((by rw [hg]; exact Nat.ne_of_lt (blk_lt (g := gb552) (o := .cells #[.int .i64 t547, .slice Ao18 t548.length co18] 25 (0, 0)) (by (with_reducible repeat (first | refine bN ?_ _ | refine bD ?_ | refine bA ?_ _)); exact BK552.out)) : gb552 ≠ gb573)); have n14_ := Aside0.mk ((by rw [hg]; exact Nat.ne_of_gt (blk_lt (g := gb552) (o := .cells #[.int .i64 t547, .slice Ao18 t548.length co18] 25 (0, 0)) (by (with_reducible repeat (first | refine bN ?_ _ | refine bD ?_ | refine bA ?_ _)); exact BK552.out)) : gb573 ≠ gb552)); clear HO_7; clear HO_543001; clear HO_553001; clear HO565; clear HO571; clear BK542; clear BK552; clear HB; have HO_7 := n0_; have HO_543001 := n1_; have HO_553001 := n2_; have HO565 := n3_; have HO571 := n4_; have BK542 := n5_; have BK552 := n6_; have HB := n7_; have BK573 := n8_; have GW573 := n9_; have GE573 := n10_; have NB542_573 := n11_; have NB573_542 := n12_; have NB552_573 := n13_; have NB573_552 := n14_; clear n0_ n1_ n2_ n3_ n4_ n5_ n6_ n7_ n8_ n9_ n10_ n11_ n12_ n13_ n14_; clear hb hbox hg; have hnb124 := NB573_542.out; have hnc124 := NB542_573.out; have hnb125 := NB573_552.out; have hnc125 := NB552_573.out; have hcz126_0 : w123.cell? ⟨gb573, 0, none⟩ = some (.int .i64 0) := (blk_cell BK573.out 0).trans rfl; have hcz126_1 : w123.cell? ⟨gb573, 1, none⟩ = some (.slice none 0 0) := (blk_cell BK573.out 1).trans rfl; have hfz126_0 := blk_frozen BK573.out 0; have hfz126_1 := blk_frozen BK573.out 1; obtain ⟨Ao127, co127, eo127⟩ := Kd.V_slice HO571.out; subst eo127))
        have n0_ : Aside0 (Kd.R (Kd.int .i64) 3 ((w123.setCell ⟨gb573, 0, none⟩ (.int .i64 t568)).setCell ⟨gb573, 1, none⟩ (.slice Ao127 t569.length co127)) w.heap.size (fun k_ => (w.heap.size ≤ k_)) (.slice Ao115 t553.length co115) t553) := ⟨by (with_reducible repeat (first | apply Kd.R_alloc | apply Kd.R_drewN | apply Kd.R_drew)); exact Kd.R_mono (Kd.R_far (p := ⟨gb573, 1, none⟩) (Kd.R_far (p := ⟨gb573, 0, none⟩) (Kd.R_types HO_7.out BK573.out (by decide)) (fun _ hk => hk.2) (.int .i64 t568)) (fun _ hk => hk.2) (.slice Ao127 t569.length co127)) (fun _ hk => hk.1)⟩
        have n1_ : Aside0 (Kd.V k25 25 ((w123.setCell ⟨gb573, 0, none⟩ (.int .i64 t568)).setCell ⟨gb573, 1, none⟩ (.slice Ao127 t569.length co127)) w.heap.size (fun k_ => (P0_1_ k_ ∨ w.heap.size ≤ k_) ∧ some k_ ≠ (.slice Ao115 t553.length co115 : Value).ownBlock ∧ k_ ≠ gb542 ∧ k_ ≠ gb552 ∧ k_ ≠ gb573) (.slice A0_1 l0_1.length c0_1) l0_1) := ⟨by (with_reducible repeat (first | apply vA | apply vN | apply vD)); exact Kd.V_mono (Kd.V_far (p := ⟨gb573, 1, none⟩) (Kd.V_far (p := ⟨gb573, 0, none⟩) (Kd.V_mono HO_543001.out (fun k_ hk => (⟨hk, hk.2⟩ : _ ∧ k_ ≠ gb573))) (fun _ hk => hk.2) (.int .i64 t568)) (fun _ hk => hk.2) (.slice Ao127 t569.length co127)) (fun _ hk => ⟨hk.1.1.1, ⟨hk.1.1.2.1, ⟨hk.1.1.2.2.1, ⟨hk.1.1.2.2.2, hk.1.2⟩⟩⟩⟩)⟩
        have n2_ : Aside0 (Kd.V k25 25 ((w123.setCell ⟨gb573, 0, none⟩ (.int .i64 t568)).setCell ⟨gb573, 1, none⟩ (.slice Ao127 t569.length co127)) w.heap.size (fun k_ => (P0_1_ k_ ∨ w.heap.size ≤ k_) ∧ some k_ ≠ (.slice Ao115 t553.length co115 : Value).ownBlock ∧ k_ ≠ gb542 ∧ k_ ≠ gb552 ∧ k_ ≠ gb573) (.slice Ao18 t548.length co18) t548) := ⟨by (with_reducible repeat (first | apply vA | apply vN | apply vD)); exact Kd.V_mono (Kd.V_far (p := ⟨gb573, 1, none⟩) (Kd.V_far (p := ⟨gb573, 0, none⟩) (Kd.V_mono HO_553001.out (fun k_ hk => (⟨hk, hk.2⟩ : _ ∧ k_ ≠ gb573))) (fun _ hk => hk.2) (.int .i64 t568)) (fun _ hk => hk.2) (.slice Ao127 t569.length co127)) (fun _ hk => ⟨hk.1.1.1, ⟨hk.1.1.2.1, ⟨hk.1.1.2.2.1, ⟨hk.1.1.2.2.2, hk.1.2⟩⟩⟩⟩)⟩
        have n3_ : Aside0 (Kd.V k60 60 ((w123.setCell ⟨gb573, 0, none⟩ (.int .i64 t568)).setCell ⟨gb573, 1, none⟩ (.slice Ao127 t569.length co127)) w.heap.size (fun k_ => (P0_1_ k_ ∨ w.heap.size ≤ k_) ∧ some k_ ≠ (.slice Ao115 t553.length co115 : Value).ownBlock ∧ k_ ≠ gb542 ∧ k_ ≠ gb552 ∧ k_ ≠ gb573) (.slice Ao121 t563.length co121) t563) := ⟨by (with_reducible repeat (first | apply vA | apply vN | apply vD)); exact Kd.V_mono (Kd.V_far (p := ⟨gb573, 1, none⟩) (Kd.V_far (p := ⟨gb573, 0, none⟩) (Kd.V_mono HO565.out (fun k_ hk => (⟨hk, hk.2⟩ : _ ∧ k_ ≠ gb573))) (fun _ hk => hk.2) (.int .i64 t568)) (fun _ hk => hk.2) (.slice Ao127 t569.length co127)) (fun _ hk => ⟨hk.1.1.1, ⟨hk.1.1.2.1, ⟨hk.1.1.2.2.1, ⟨hk.1.1.2.2.2, hk.1.2⟩⟩⟩⟩)⟩
        have n4_ : Aside0 (Kd.V k25 25 ((w123.setCell ⟨gb573, 0, none⟩ (.int .i64 t568)).setCell ⟨gb573, 1, none⟩ (.slice Ao127 t569.length co127)) w.heap.size (fun k_ => (P0_1_ k_ ∨ w.heap.size ≤ k_) ∧ some k_ ≠ (.slice Ao115 t553.length co115 : Value).ownBlock ∧ k_ ≠ gb542 ∧ k_ ≠ gb552 ∧ k_ ≠ gb573) (.slice Ao127 t569.length co127) t569) := ⟨by (with_reducible repeat (first | apply vA | apply vN | apply vD)); exact Kd.V_mono (Kd.V_far (p := ⟨gb573, 1, none⟩) (Kd.V_far (p := ⟨gb573, 0, none⟩) (Kd.V_mono HO571.out (fun k_ hk => (⟨hk, hk.2⟩ : _ ∧ k_ ≠ gb573))) (fun _ hk => hk.2) (.int .i64 t568)) (fun _ hk => hk.2) (.slice Ao127 t569.length co127)) (fun _ hk => ⟨hk.1.1.1, ⟨hk.1.1.2.1, ⟨hk.1.1.2.2.1, ⟨hk.1.1.2.2.2, hk.1.2⟩⟩⟩⟩)⟩
        have n5_ : Aside0 (((w123.setCell ⟨gb573, 0, none⟩ (.int .i64 t568)).setCell ⟨gb573, 1, none⟩ (.slice Ao127 t569.length co127)).heap[gb542]? = some (.cells #[.int .i64 a0_0, .slice A0_1 l0_1.length c0_1] 25 (0, 0))) := ⟨by (with_reducible repeat (first | refine bN ?_ _ | refine bD ?_ | refine bA ?_ _)); refine blk_far ?_ NB542_573.out _; (with_reducible repeat (first | refine bN ?_ _ | refine bD ?_ | refine bA ?_ _)); refine blk_far ?_ NB542_573.out _; (with_reducible repeat (first | refine bN ?_ _ | refine bD ?_ | refine bA ?_ _)); exact BK542.out⟩
        have n6_ : Aside0 (((w123.setCell ⟨gb573, 0, none⟩ (.int .i64 t568)).setCell ⟨gb573, 1, none⟩ (.slice Ao127 t569.length co127)).heap[gb552]? = some (.cells #[.int .i64 t547, .slice Ao18 t548.length co18] 25 (0, 0))) := ⟨by (with_reducible repeat (first | refine bN ?_ _ | refine bD ?_ | refine bA ?_ _)); refine blk_far ?_ NB552_573.out _; (with_reducible repeat (first | refine bN ?_ _ | refine bD ?_ | refine bA ?_ _)); refine blk_far ?_ NB552_573.out _; (with_reducible repeat (first | refine bN ?_ _ | refine bD ?_ | refine bA ?_ _)); exact BK552.out⟩
        have n7_ : Aside0 (((w123.setCell ⟨gb573, 0, none⟩ (.int .i64 t568)).setCell ⟨gb573, 1, none⟩ (.slice Ao127 t569.length co127)).heap[gb573]? = some (.cells #[.int .i64 t568, .slice Ao127 t569.length co127] 25 (0, 0))) := ⟨by (with_reducible repeat (first | refine bN ?_ _ | refine bD ?_ | refine bA ?_ _)); refine blk_put (cs := #[.int .i64 t568, .slice none 0 0]) ?_ 1 _ rfl; (with_reducible repeat (first | refine bN ?_ _ | refine bD ?_ | refine bA ?_ _)); refine blk_put (cs := #[.int .i64 0, .slice none 0 0]) ?_ 0 _ rfl; (with_reducible repeat (first | refine bN ?_ _ | refine bD ?_ | refine bA ?_ _)); exact BK573.out⟩
        have n8_ : Aside0 (Below w.heap.size w ((w123.setCell ⟨gb573, 0, none⟩ (.int .i64 t568)).setCell ⟨gb573, 1, none⟩ (.slice Ao127 t569.length co127))) := ⟨by repeat (first | (with_reducible first | exact HB.out | apply wA | apply wN | apply wD | refine wS ?_ GE542.out | refine wS ?_ GE552.out | refine wS ?_ GE573.out) | exact HB.out)⟩
        (try clear HO_7)
        (try clear HO_543001)
        (try clear HO_553001)
        (try clear HO565)
        (try clear HO571)
        (try clear BK542)
        (try clear BK552)
        (try clear BK573)
        (try clear HB)
        generalize ((w123.setCell ⟨gb573, 0, none⟩ (.int .i64 t568)).setCell ⟨gb573, 1, none⟩ (.slice Ao127 t569.length co127)) = w128 at n0_ n1_ n2_ n3_ n4_ n5_ n6_ n7_ n8_ ⊢
        have HO_7 := n0_
        have HO_543001 := n1_
        have HO_553001 := n2_
        have HO565 := n3_
        have HO571 := n4_
        have BK542 := n5_
        have BK552 := n6_
        have BK573 := n7_
        have HB := n8_
        clear n0_ n1_ n2_ n3_ n4_ n5_ n6_ n7_ n8_
        have n0_ := Aside0.mk (Kd.R_drew HO_7.out)
        have n1_ := Aside0.mk (Kd.V_drew HO_543001.out)
        have n2_ := Aside0.mk (Kd.V_drew HO_553001.out)
        have n3_ := Aside0.mk (Kd.V_drew HO565.out)
        have n4_ := Aside0.mk (Kd.V_drew HO571.out)
        have n5_ := Aside0.mk (blk_drew BK542.out)
        have n6_ := Aside0.mk (blk_drew BK552.out)
        have n7_ := Aside0.mk (blk_drew BK573.out)
        have n8_ := Aside0.mk (below_drew1 HB.out)
        clear HO_7
        clear HO_543001
        clear HO_553001
        clear HO565
        clear HO571
        clear BK542
        clear BK552
        clear BK573
        clear HB
        have HO_7 := n0_
        have HO_543001 := n1_
        have HO_553001 := n2_
        have HO565 := n3_
        have HO571 := n4_
        have BK542 := n5_
        have BK552 := n6_
        have BK573 := n7_
        have HB := n8_
        clear n0_ n1_ n2_ n3_ n4_ n5_ n6_ n7_ n8_
        refine start_ (n := 27) (S := fun w' => True) (ds := []) #[F_, F_, F_, F_, F_, F_, F_, F_, F_, F_, F_, F_, F_, F_, F_, F_, F_, F_, F_, F_, F_, F_, F_, F_, F_, F_, F_] (by kernel_rfl) rfl rfl trivial (fun hHeld => ?_); refine with_tabW elenchuslaw04_UnifyShifted.tab14 elenchuslaw04_UnifyShifted.bits14 (fun HT_ HW_ => ?_)
        generalize w128.drew = w129 at HO_7 HO_543001 HO_553001 HO565 HO571 BK542 BK552 BK573 HB hHeld ⊢
        refine one_ (i := 0) (N := some 60) #[T_, F_, F_, F_, F_, F_, F_, F_, F_, F_, F_, F_, F_, F_, F_, F_, F_, F_, F_, F_, F_, F_, F_, F_, F_, F_, F_] rfl rfl (one_of HT_.out (by kernel_rfl)) (by decide) (fun K hK => ?_)
        refine goes_ Try.func57 (by kernel_rfl) rfl #[] (by rfl) rfl rfl (by (try simp only [List.map_toArray, List.map_cons, List.map_nil]); first | done | rfl | (simp only [List.length_drop, List.length_take]; rfl)) ?_
        with_reducible refine (elenchuslaw04_awake.calls  true _ A39.out).mono ?_
        rintro e w130 ⟨rfl, hb⟩
        refine ⟨_, rfl, ?_⟩
        have n0_ := Aside0.mk (Kd.R_below (by (with_reducible repeat (first | apply Kd.R_alloc | apply Kd.R_drewN | apply Kd.R_drew)); exact HO_7.out) hb)
        have n1_ := Aside0.mk (Kd.V_below (by (with_reducible repeat (first | apply vA | apply vN | apply vD)); exact HO_543001.out) hb)
        have n2_ := Aside0.mk (Kd.V_below (by (with_reducible repeat (first | apply vA | apply vN | apply vD)); exact HO_553001.out) hb)
        have n3_ := Aside0.mk (Kd.V_below (by (with_reducible repeat (first | apply vA | apply vN | apply vD)); exact HO565.out) hb)
        have n4_ := Aside0.mk (Kd.V_below (by (with_reducible repeat (first | apply vA | apply vN | apply vD)); exact HO571.out) hb)
        have n5_ := Aside0.mk (blk_below (g := gb542) (o := .cells #[.int .i64 a0_0, .slice A0_1 l0_1.length c0_1] 25 (0, 0)) (by (with_reducible repeat (first | refine bN ?_ _ | refine bD ?_ | refine bA ?_ _)); exact BK542.out) hb)
        have n6_ := Aside0.mk (blk_below (g := gb552) (o := .cells #[.int .i64 t547, .slice Ao18 t548.length co18] 25 (0, 0)) (by (with_reducible repeat (first | refine bN ?_ _ | refine bD ?_ | refine bA ?_ _)); exact BK552.out) hb)
        have n7_ := Aside0.mk (blk_below (g := gb573) (o := .cells #[.int .i64 t568, .slice Ao127 t569.length co127] 25 (0, 0)) (by (with_reducible repeat (first | refine bN ?_ _ | refine bD ?_ | refine bA ?_ _)); exact BK573.out) hb)
        have n8_ := Aside0.mk (below_step (by repeat (first | (with_reducible first | exact HB.out | apply wA | apply wN | apply wD | refine wS ?_ GE542.out | refine wS ?_ GE552.out | refine wS ?_ GE573.out) | exact HB.out)) hb)
        clear HO_7
        clear HO_543001
        clear HO_553001
        clear HO565
        clear HO571
        clear BK542
        clear BK552
        clear BK573
        clear HB
        have HO_7 := n0_
        have HO_543001 := n1_
        have HO_553001 := n2_
        have HO565 := n3_
        have HO571 := n4_
        have BK542 := n5_
        have BK552 := n6_
        have BK573 := n7_
        have HB := n8_
        clear n0_ n1_ n2_ n3_ n4_ n5_ n6_ n7_ n8_
        (try clear hb)
        (try clear hb2)
        (try clear hk)
        (try clear hi)
        refine hK.out _ _ trivial (fun hHeld => ?_)
        clear hK K
        refine norm_ (a' := ?_) ?_ ?_
        rotate_left
        ·show Act.put _ (some 60) _ = _
         simp only [Act.put, sT, s0, sS, i64_w, i32_w]
         rfl
        refine pure_ (i := 1) (N := some 61) (v := ?_) (a' := ?_) #[T_, T_, F_, F_, F_, F_, F_, F_, F_, F_, F_, F_, F_, F_, F_, F_, F_, F_, F_, F_, F_, F_, F_, F_, F_, F_, F_] rfl rfl (any_of HT_.out (by kernel_rfl)) (fun _ _ _ h => h) (Or.inl ⟨by rfl, ?_⟩) ?_ ?_
        rotate_left
        ·intro w'
         go_simp
         with_reducible rfl
        rotate_left
        ·simp only [Act.put, sT, s0, sS, i64_w, i32_w]
         rfl
        refine pure_ (i := 2) (N := some 62) (v := ?_) (a' := ?_) #[T_, T_, T_, F_, F_, F_, F_, F_, F_, F_, F_, F_, F_, F_, F_, F_, F_, F_, F_, F_, F_, F_, F_, F_, F_, F_, F_] rfl rfl (any_of HT_.out (by kernel_rfl)) (fun _ _ _ h => h) (Or.inl ⟨by rfl, ?_⟩) ?_ ?_
        rotate_left
        ·intro w'
         go_simp
         with_reducible rfl
        rotate_left
        ·simp only [Act.put, sT, s0, sS, i64_w, i32_w]
         rfl
        refine pure_ (i := 3) (N := some 63) (v := ?_) (a' := ?_) #[T_, T_, T_, T_, F_, F_, F_, F_, F_, F_, F_, F_, F_, F_, F_, F_, F_, F_, F_, F_, F_, F_, F_, F_, F_, F_, F_] rfl rfl (any_of HT_.out (by kernel_rfl)) (fun _ _ _ h => h) (Or.inl ⟨by rfl, ?_⟩) ?_ ?_
        rotate_left
        ·intro w'
         go_simp
         with_reducible rfl
        rotate_left
        ·simp only [Act.put, sT, s0, sS, i64_w, i32_w]
         rfl
        refine pure_ (i := 4) (N := some 64) (v := ?_) (a' := ?_) #[T_, T_, T_, T_, T_, F_, F_, F_, F_, F_, F_, F_, F_, F_, F_, F_, F_, F_, F_, F_, F_, F_, F_, F_, F_, F_, F_] rfl rfl (any_of HT_.out (by kernel_rfl)) (fun _ _ _ h => h) (Or.inl ⟨by rfl, ?_⟩) ?_ ?_
        rotate_left
        ·intro w'
         go_simp
         with_reducible rfl
        rotate_left
        ·simp only [Act.put, sT, s0, sS, i64_w, i32_w]
         rfl
        refine pure_ (i := 5) (N := some 65) (v := undef) (a' := ?_) #[T_, T_, T_, T_, T_, T_, F_, F_, F_, F_, F_, F_, F_, F_, F_, F_, F_, F_, F_, F_, F_, F_, F_, F_, F_, F_, F_] rfl rfl (any_of HT_.out (by kernel_rfl)) (fun _ _ _ h => h) (Or.inr ⟨by rfl, rfl⟩) ?_ ?_
        rotate_left
        ·simp only [Act.put, sT, s0, sS, i64_w, i32_w]
         rfl
        refine pure_ (i := 6) (N := some 66) (v := undef) (a' := ?_) #[T_, T_, T_, T_, T_, T_, T_, F_, F_, F_, F_, F_, F_, F_, F_, F_, F_, F_, F_, F_, F_, F_, F_, F_, F_, F_, F_] rfl rfl (any_of HT_.out (by kernel_rfl)) (fun _ _ _ h => h) (Or.inr ⟨by rfl, rfl⟩) ?_ ?_
        rotate_left
        ·simp only [Act.put, sT, s0, sS, i64_w, i32_w]
         rfl
        refine pure_ (i := 7) (N := some 67) (v := ?_) (a' := ?_) #[T_, T_, T_, T_, T_, T_, T_, T_, F_, F_, F_, F_, F_, F_, F_, F_, F_, F_, F_, F_, F_, F_, F_, F_, F_, F_, F_] rfl rfl (any_of HT_.out (by kernel_rfl)) (fun _ _ _ h => h) (Or.inl ⟨by rfl, ?_⟩) ?_ ?_
        rotate_left
        ·intro w'
         go_simp
         with_reducible rfl
        rotate_left
        ·simp only [Act.put, sT, s0, sS, i64_w, i32_w]
         rfl
        refine pure_ (i := 8) (N := some 68) (v := ?_) (a' := ?_) #[T_, T_, T_, T_, T_, T_, T_, T_, T_, F_, F_, F_, F_, F_, F_, F_, F_, F_, F_, F_, F_, F_, F_, F_, F_, F_, F_] rfl rfl (any_of HT_.out (by kernel_rfl)) (fun _ _ _ h => h) (Or.inl ⟨by rfl, ?_⟩) ?_ ?_
        rotate_left
        ·intro w'
         go_simp
         with_reducible rfl
        rotate_left
        ·simp only [Act.put, sT, s0, sS, i64_w, i32_w]
         rfl
        refine pure_ (i := 9) (N := some 69) (v := undef) (a' := ?_) #[T_, T_, T_, T_, T_, T_, T_, T_, T_, T_, F_, F_, F_, F_, F_, F_, F_, F_, F_, F_, F_, F_, F_, F_, F_, F_, F_] rfl rfl (any_of HT_.out (by kernel_rfl)) (fun _ _ _ h => h) (Or.inr ⟨by rfl, rfl⟩) ?_ ?_
        rotate_left
        ·simp only [Act.put, sT, s0, sS, i64_w, i32_w]
         rfl
        refine pure_ (i := 10) (N := some 70) (v := undef) (a' := ?_) #[T_, T_, T_, T_, T_, T_, T_, T_, T_, T_, T_, F_, F_, F_, F_, F_, F_, F_, F_, F_, F_, F_, F_, F_, F_, F_, F_] rfl rfl (any_of HT_.out (by kernel_rfl)) (fun _ _ _ h => h) (Or.inr ⟨by rfl, rfl⟩) ?_ ?_
        rotate_left
        ·simp only [Act.put, sT, s0, sS, i64_w, i32_w]
         rfl
        refine pure_ (i := 11) (N := some 71) (v := ?_) (a' := ?_) #[T_, T_, T_, T_, T_, T_, T_, T_, T_, T_, T_, T_, F_, F_, F_, F_, F_, F_, F_, F_, F_, F_, F_, F_, F_, F_, F_] rfl rfl (any_of HT_.out (by kernel_rfl)) (fun _ _ _ h => h) (Or.inl ⟨by rfl, ?_⟩) ?_ ?_
        rotate_left
        ·intro w'
         go_simp
         with_reducible rfl
        rotate_left
        ·simp only [Act.put, sT, s0, sS, i64_w, i32_w]
         rfl
        refine pure_ (i := 12) (N := some 72) (v := ?_) (a' := ?_) #[T_, T_, T_, T_, T_, T_, T_, T_, T_, T_, T_, T_, T_, F_, F_, F_, F_, F_, F_, F_, F_, F_, F_, F_, F_, F_, F_] rfl rfl (any_of HT_.out (by kernel_rfl)) (fun _ _ _ h => h) (Or.inl ⟨by rfl, ?_⟩) ?_ ?_
        rotate_left
        ·intro w'
         go_simp
         with_reducible rfl
        rotate_left
        ·simp only [Act.put, sT, s0, sS, i64_w, i32_w]
         rfl
        refine pure_ (i := 13) (N := some 73) (v := undef) (a' := ?_) #[T_, T_, T_, T_, T_, T_, T_, T_, T_, T_, T_, T_, T_, T_, F_, F_, F_, F_, F_, F_, F_, F_, F_, F_, F_, F_, F_] rfl rfl (any_of HT_.out (by kernel_rfl)) (fun _ _ _ h => h) (Or.inr ⟨by rfl, rfl⟩) ?_ ?_
        rotate_left
        ·simp only [Act.put, sT, s0, sS, i64_w, i32_w]
         rfl
        refine pure_ (i := 14) (N := some 74) (v := undef) (a' := ?_) #[T_, T_, T_, T_, T_, T_, T_, T_, T_, T_, T_, T_, T_, T_, T_, F_, F_, F_, F_, F_, F_, F_, F_, F_, F_, F_, F_] rfl rfl (any_of HT_.out (by kernel_rfl)) (fun _ _ _ h => h) (Or.inr ⟨by rfl, rfl⟩) ?_ ?_
        rotate_left
        ·simp only [Act.put, sT, s0, sS, i64_w, i32_w]
         rfl
        refine pure_ (i := 15) (N := some 75) (v := undef) (a' := ?_) #[T_, T_, T_, T_, T_, T_, T_, T_, T_, T_, T_, T_, T_, T_, T_, T_, F_, F_, F_, F_, F_, F_, F_, F_, F_, F_, F_] rfl rfl (any_of HT_.out (by kernel_rfl)) (fun _ _ _ h => h) (Or.inr ⟨by rfl, rfl⟩) ?_ ?_
        rotate_left
        ·simp only [Act.put, sT, s0, sS, i64_w, i32_w]
         rfl
        refine pure_ (i := 16) (N := some 76) (v := undef) (a' := ?_) #[T_, T_, T_, T_, T_, T_, T_, T_, T_, T_, T_, T_, T_, T_, T_, T_, T_, F_, F_, F_, F_, F_, F_, F_, F_, F_, F_] rfl rfl (any_of HT_.out (by kernel_rfl)) (fun _ _ _ h => h) (Or.inr ⟨by rfl, rfl⟩) ?_ ?_
        rotate_left
        ·simp only [Act.put, sT, s0, sS, i64_w, i32_w]
         rfl
        refine pure_ (i := 17) (N := some 77) (v := undef) (a' := ?_) #[T_, T_, T_, T_, T_, T_, T_, T_, T_, T_, T_, T_, T_, T_, T_, T_, T_, T_, F_, F_, F_, F_, F_, F_, F_, F_, F_] rfl rfl (any_of HT_.out (by kernel_rfl)) (fun _ _ _ h => h) (Or.inr ⟨by rfl, rfl⟩) ?_ ?_
        rotate_left
        ·simp only [Act.put, sT, s0, sS, i64_w, i32_w]
         rfl
        refine pure_ (i := 18) (N := some 78) (v := ?_) (a' := ?_) #[T_, T_, T_, T_, T_, T_, T_, T_, T_, T_, T_, T_, T_, T_, T_, T_, T_, T_, T_, F_, F_, F_, F_, F_, F_, F_, F_] rfl rfl (any_of HT_.out (by kernel_rfl)) (fun _ _ _ h => h) (Or.inl ⟨by rfl, ?_⟩) ?_ ?_
        rotate_left
        ·intro w'
         go_simp
         with_reducible rfl
        rotate_left
        ·simp only [Act.put, sT, s0, sS, i64_w, i32_w]
         rfl
        refine pure_ (i := 19) (N := some 79) (v := ?_) (a' := ?_) #[T_, T_, T_, T_, T_, T_, T_, T_, T_, T_, T_, T_, T_, T_, T_, T_, T_, T_, T_, T_, F_, F_, F_, F_, F_, F_, F_] rfl rfl (any_of HT_.out (by kernel_rfl)) (fun _ _ _ h => h) (Or.inl ⟨by rfl, ?_⟩) ?_ ?_
        rotate_left
        ·intro w'
         go_simp
         with_reducible rfl
        rotate_left
        ·simp only [Act.put, sT, s0, sS, i64_w, i32_w]
         rfl
        refine pure_ (i := 20) (N := some 80) (v := undef) (a' := ?_) #[T_, T_, T_, T_, T_, T_, T_, T_, T_, T_, T_, T_, T_, T_, T_, T_, T_, T_, T_, T_, T_, F_, F_, F_, F_, F_, F_] rfl rfl (any_of HT_.out (by kernel_rfl)) (fun _ _ _ h => h) (Or.inr ⟨by rfl, rfl⟩) ?_ ?_
        rotate_left
        ·simp only [Act.put, sT, s0, sS, i64_w, i32_w]
         rfl
        refine pure_ (i := 21) (N := some 81) (v := undef) (a' := ?_) #[T_, T_, T_, T_, T_, T_, T_, T_, T_, T_, T_, T_, T_, T_, T_, T_, T_, T_, T_, T_, T_, T_, F_, F_, F_, F_, F_] rfl rfl (any_of HT_.out (by kernel_rfl)) (fun _ _ _ h => h) (Or.inr ⟨by rfl, rfl⟩) ?_ ?_
        rotate_left
        ·simp only [Act.put, sT, s0, sS, i64_w, i32_w]
         rfl
        refine pure_ (i := 22) (N := some 82) (v := undef) (a' := ?_) #[T_, T_, T_, T_, T_, T_, T_, T_, T_, T_, T_, T_, T_, T_, T_, T_, T_, T_, T_, T_, T_, T_, T_, F_, F_, F_, F_] rfl rfl (any_of HT_.out (by kernel_rfl)) (fun _ _ _ h => h) (Or.inr ⟨by rfl, rfl⟩) ?_ ?_
        rotate_left
        ·simp only [Act.put, sT, s0, sS, i64_w, i32_w]
         rfl
        refine pure_ (i := 23) (N := some 83) (v := undef) (a' := ?_) #[T_, T_, T_, T_, T_, T_, T_, T_, T_, T_, T_, T_, T_, T_, T_, T_, T_, T_, T_, T_, T_, T_, T_, T_, F_, F_, F_] rfl rfl (any_of HT_.out (by kernel_rfl)) (fun _ _ _ h => h) (Or.inr ⟨by rfl, rfl⟩) ?_ ?_
        rotate_left
        ·simp only [Act.put, sT, s0, sS, i64_w, i32_w]
         rfl
        refine pure_ (i := 24) (N := some 84) (v := undef) (a' := ?_) #[T_, T_, T_, T_, T_, T_, T_, T_, T_, T_, T_, T_, T_, T_, T_, T_, T_, T_, T_, T_, T_, T_, T_, T_, T_, F_, F_] rfl rfl (any_of HT_.out (by kernel_rfl)) (fun _ _ _ h => h) (Or.inr ⟨by rfl, rfl⟩) ?_ ?_
        rotate_left
        ·simp only [Act.put, sT, s0, sS, i64_w, i32_w]
         rfl
        refine pure_ (i := 25) (N := some 85) (v := ?_) (a' := ?_) #[T_, T_, T_, T_, T_, T_, T_, T_, T_, T_, T_, T_, T_, T_, T_, T_, T_, T_, T_, T_, T_, T_, T_, T_, T_, T_, F_] rfl rfl (any_of HT_.out (by kernel_rfl)) (fun _ _ _ h => h) (Or.inl ⟨by rfl, ?_⟩) ?_ ?_
        rotate_left
        ·intro w'
         go_simp
         with_reducible rfl
        rotate_left
        ·simp only [Act.put, sT, s0, sS, i64_w, i32_w]
         rfl
        refine pure_ (i := 26) (N := some 4) (v := ?_) (a' := ?_) #[T_, T_, T_, T_, T_, T_, T_, T_, T_, T_, T_, T_, T_, T_, T_, T_, T_, T_, T_, T_, T_, T_, T_, T_, T_, T_, T_] rfl rfl (any_of HT_.out (by kernel_rfl)) (fun _ _ _ h => h) (Or.inl ⟨by rfl, ?_⟩) ?_ ?_
        rotate_left
        ·intro w'
         go_simp
         with_reducible rfl
        rotate_left
        ·simp only [Act.put, sT, s0, sS, i64_w, i32_w]
         rfl
        refine done_ (done_of HT_.out (by kernel_rfl)) ?_
        try go_wp2
        go_ret
        exact ⟨by first | rfl | (simp [errW_none, errW_some] <;> rfl) | (simp [*, errW_none, errW_some] <;> rfl), by repeat (first | (with_reducible first | exact HB.out | apply wA | apply wN | apply wD | refine wS ?_ GE542.out | refine wS ?_ GE552.out | refine wS ?_ GE573.out) | exact HB.out)⟩
      ·replace c40 := Bool.eq_false_iff.mpr c40
       subst c40
       have H1 : (some false) = some r := by rw [if_neg (show ¬ (false = true) by decide)] at H; exact H
       clear H
       have H := H1
       clear H1
       obtain rfl := Option.some.inj H
       obtain ⟨Ao131, co131, eo131⟩ := Kd.R_slice HO_7.out
       subst eo131
       have hnb132 := NB542_552.out
       have hnc132 := NB552_542.out
       have hcz133_0 : wr.cell? ⟨gb542, 0, none⟩ = some (.int .i64 a0_0) := (blk_cell BK542.out 0).trans rfl
       have hcz133_1 : wr.cell? ⟨gb542, 1, none⟩ = some (.slice A0_1 l0_1.length c0_1) := (blk_cell BK542.out 1).trans rfl
       have hfz133_0 := blk_frozen BK542.out 0
       have hfz133_1 := blk_frozen BK542.out 1
       have hcz134_0 : wr.cell? ⟨gb552, 0, none⟩ = some (.int .i64 t547) := (blk_cell BK552.out 0).trans rfl
       have hcz134_1 : wr.cell? ⟨gb552, 1, none⟩ = some (.slice Ao18 t548.length co18) := (blk_cell BK552.out 1).trans rfl
       have hfz134_0 := blk_frozen BK552.out 0
       have hfz134_1 := blk_frozen BK552.out 1
       try go_wp2_with (first | ((with_reducible refine gate_callee (f := 55) rfl ?_); refine goesL_ (some 50) rfl rfl Try.func55 (by kernel_rfl) rfl #[.agg #[.int .i64 a0_0, .slice A0_1 l0_1.length c0_1], .agg #[.int .i64 t547, .slice Ao18 t548.length co18]] rfl (by (try simp only [List.map_toArray, List.map_cons, List.map_nil]); first | done | rfl | (simp only [List.length_drop, List.length_take]; rfl)) ?_; (with_reducible refine (unify_Mgu.calls a0_0 (fun k_ => ((P0_1_ k_ ∨ w.heap.size ≤ k_) ∧ (some k_ ≠ (.slice Ao131 t553.length co131 : Value).ownBlock ∧ (k_ ≠ gb542 ∧ k_ ≠ gb552)))) _ _ l0_1 t547 (fun k_ => ((P0_1_ k_ ∨ w.heap.size ≤ k_) ∧ (some k_ ≠ (.slice Ao131 t553.length co131 : Value).ownBlock ∧ (k_ ≠ gb542 ∧ k_ ≠ gb552)))) _ _ t548 t563 t566 t567 _ ?side1 ?side2 A37.out).mono ?_); (case side1 => exact HO_543001.out); (case side2 => exact HO_553001.out); rintro e w135 ⟨v564, rfl, ho0, hb⟩; refine ⟨_, rfl, ?_⟩; have n0_ := Aside0.mk (Kd.R_below (by (with_reducible repeat (first | apply Kd.R_alloc | apply Kd.R_drewN | apply Kd.R_drew)); exact HO_7.out) hb); have n1_ := Aside0.mk (Kd.V_below (by (with_reducible repeat (first | apply vA | apply vN | apply vD)); exact HO_543001.out) hb); have n2_ := Aside0.mk (Kd.V_below (by (with_reducible repeat (first | apply vA | apply vN | apply vD)); exact HO_553001.out) hb); have n3_ := Aside0.mk (Kd.V_lower (Kd.V_mono (ok' := fun k_ => (P0_1_ k_ ∨ w.heap.size ≤ k_) ∧ some k_ ≠ (.slice Ao131 t553.length co131 : Value).ownBlock ∧ k_ ≠ gb542 ∧ k_ ≠ gb552) ho0 (fun k_ hk_ => ⟨Or.elim hk_ (fun hs_ => Or.elim hs_ (fun hs_ => hs_.1) (fun hs_ => hs_.1)) (fun hn_ => (.inr (Nat.le_trans (below_size (by repeat (first | (with_reducible first | exact HB.out | apply wA | apply wN | apply wD | refine wS ?_ GE542.out | refine wS ?_ GE552.out) | exact HB.out))) hn_))), Or.elim hk_ (fun hs_ => Or.elim hs_ (fun hs_ => hs_.2.1) (fun hs_ => hs_.2.1)) (fun hn_ => (Kd.fresh' (Kd.R_lt (by (with_reducible repeat (first | apply Kd.R_alloc | apply Kd.R_drewN | apply Kd.R_drew)); exact HO_7.out)) k_ hn_)), Or.elim hk_ (fun hs_ => Or.elim hs_ (fun hs_ => hs_.2.2.1) (fun hs_ => hs_.2.2.1)) (fun hn_ => (Kd.freshB (g := gb542) (o := .cells #[.int .i64 a0_0, .slice A0_1 l0_1.length c0_1] 25 (0, 0)) (by (with_reducible repeat (first | refine bN ?_ _ | refine bD ?_ | refine bA ?_ _)); exact BK542.out) k_ hn_)), Or.elim hk_ (fun hs_ => Or.elim hs_ (fun hs_ => hs_.2.2.2) (fun hs_ => hs_.2.2.2)) (fun hn_ => (Kd.freshB (g := gb552) (o := .cells #[.int .i64 t547, .slice Ao18 t548.length co18] 25 (0, 0)) (by (with_reducible repeat (first | refine bN ?_ _ | refine bD ?_ | refine bA ?_ _)); exact BK552.out) k_ hn_))⟩)) (below_size (by repeat (first | (with_reducible first | exact HB.out | apply wA | apply wN | apply wD | refine wS ?_ GE542.out | refine wS ?_ GE552.out) | exact HB.out)))); have n4_ := Aside0.mk (blk_below (g := gb542) (o := .cells #[.int .i64 a0_0, .slice A0_1 l0_1.length c0_1] 25 (0, 0)) (by (with_reducible repeat (first | refine bN ?_ _ | refine bD ?_ | refine bA ?_ _)); exact BK542.out) hb); have n5_ := Aside0.mk (blk_below (g := gb552) (o := .cells #[.int .i64 t547, .slice Ao18 t548.length co18] 25 (0, 0)) (by (with_reducible repeat (first | refine bN ?_ _ | refine bD ?_ | refine bA ?_ _)); exact BK552.out) hb); have n6_ := Aside0.mk (below_step (by repeat (first | (with_reducible first | exact HB.out | apply wA | apply wN | apply wD | refine wS ?_ GE542.out | refine wS ?_ GE552.out) | exact HB.out)) hb); clear HO_7; clear HO_543001; clear HO_553001; clear BK542; clear BK552; clear HB; have HO_7 := n0_; have HO_543001 := n1_; have HO_553001 := n2_; have HO565 := n3_; have BK542 := n4_; have BK552 := n5_; have HB := n6_; clear n0_ n1_ n2_ n3_ n4_ n5_ n6_; (try clear hb); (try clear hb2); (try clear hk); (try clear hi); (try clear ho0); have hcz136_0 : w135.cell? ⟨gb542, 0, none⟩ = some (.int .i64 a0_0) := (blk_cell BK542.out 0).trans rfl; have hcz136_1 : w135.cell? ⟨gb542, 1, none⟩ = some (.slice A0_1 l0_1.length c0_1) := (blk_cell BK542.out 1).trans rfl; have hfz136_0 := blk_frozen BK542.out 0; have hfz136_1 := blk_frozen BK542.out 1; obtain ⟨Ao137, co137, eo137⟩ := Kd.V_slice HO565.out; subst eo137) | ((with_reducible refine gate_callee (f := 27) rfl ?_); refine goesL_ (some 57) rfl rfl Try.func27 (by kernel_rfl) rfl #[.slice Ao137 t563.length co137, .agg #[.int .i64 a0_0, .slice A0_1 l0_1.length c0_1]] rfl (by (try simp only [List.map_toArray, List.map_cons, List.map_nil]); first | done | rfl | (simp only [List.length_drop, List.length_take]; rfl)) ?_; (with_reducible refine (subst_Apply.calls (fun k_ => ((P0_1_ k_ ∨ w.heap.size ≤ k_) ∧ (some k_ ≠ (.slice Ao131 t553.length co131 : Value).ownBlock ∧ (k_ ≠ gb542 ∧ k_ ≠ gb552)))) _ _ t563 a0_0 (fun k_ => ((P0_1_ k_ ∨ w.heap.size ≤ k_) ∧ (some k_ ≠ (.slice Ao131 t553.length co131 : Value).ownBlock ∧ (k_ ≠ gb542 ∧ k_ ≠ gb552)))) _ _ l0_1 t568 t569 t572 _ ?side1 ?side2 A38.out).mono ?_); (case side1 => exact HO565.out); (case side2 => exact HO_543001.out); rintro e w138 ⟨v570, rfl, ho0, hb⟩; refine ⟨_, rfl, ?_⟩; have n0_ := Aside0.mk (Kd.R_below (by (with_reducible repeat (first | apply Kd.R_alloc | apply Kd.R_drewN | apply Kd.R_drew)); exact HO_7.out) hb); have n1_ := Aside0.mk (Kd.V_below (by (with_reducible repeat (first | apply vA | apply vN | apply vD)); exact HO_543001.out) hb); have n2_ := Aside0.mk (Kd.V_below (by (with_reducible repeat (first | apply vA | apply vN | apply vD)); exact HO_553001.out) hb); have n3_ := Aside0.mk (Kd.V_below (by (with_reducible repeat (first | apply vA | apply vN | apply vD)); exact HO565.out) hb); have n4_ := Aside0.mk (Kd.V_lower (Kd.V_mono (ok' := fun k_ => (P0_1_ k_ ∨ w.heap.size ≤ k_) ∧ some k_ ≠ (.slice Ao131 t553.length co131 : Value).ownBlock ∧ k_ ≠ gb542 ∧ k_ ≠ gb552) ho0 (fun k_ hk_ => ⟨Or.elim hk_ (fun hs_ => Or.elim hs_ (fun hs_ => hs_.1) (fun hs_ => hs_.1)) (fun hn_ => (.inr (Nat.le_trans (below_size (by repeat (first | (with_reducible first | exact HB.out | apply wA | apply wN | apply wD | refine wS ?_ GE542.out | refine wS ?_ GE552.out) | exact HB.out))) hn_))), Or.elim hk_ (fun hs_ => Or.elim hs_ (fun hs_ => hs_.2.1) (fun hs_ => hs_.2.1)) (fun hn_ => (Kd.fresh' (Kd.R_lt (by (with_reducible repeat (first | apply Kd.R_alloc | apply Kd.R_drewN | apply Kd.R_drew)); exact HO_7.out)) k_ hn_)), Or.elim hk_ (fun hs_ => Or.elim hs_ (fun hs_ => hs_.2.2.1) (fun hs_ => hs_.2.2.1)) (fun hn_ => (Kd.freshB (g := gb542) (o := .cells #[.int .i64 a0_0, .slice A0_1 l0_1.length c0_1] 25 (0, 0)) (by (with_reducible repeat (first | refine bN ?_ _ | refine bD ?_ | refine bA ?_ _)); exact BK542.out) k_ hn_)), Or.elim hk_ (fun hs_ => Or.elim hs_ (fun hs_ => hs_.2.2.2) (fun hs_ => hs_.2.2.2)) (fun hn_ => (Kd.freshB (g := gb552) (o := .cells #[.int .i64 t547, .slice Ao18 t548.length co18] 25 (0, 0)) (by (with_reducible repeat (first | refine bN ?_ _ | refine bD ?_ | refine bA ?_ _)); exact BK552.out) k_ hn_))⟩)) (below_size (by repeat (first | (with_reducible first | exact HB.out | apply wA | apply wN | apply wD | refine wS ?_ GE542.out | refine wS ?_ GE552.out) | exact HB.out)))); have n5_ := Aside0.mk (blk_below (g := gb542) (o := .cells #[.int .i64 a0_0, .slice A0_1 l0_1.length c0_1] 25 (0, 0)) (by (with_reducible repeat (first | refine bN ?_ _ | refine bD ?_ | refine bA ?_ _)); exact BK542.out) hb); have n6_ := Aside0.mk (blk_below (g := gb552) (o := .cells #[.int .i64 t547, .slice Ao18 t548.length co18] 25 (0, 0)) (by (with_reducible repeat (first | refine bN ?_ _ | refine bD ?_ | refine bA ?_ _)); exact BK552.out) hb); have n7_ := Aside0.mk (below_step (by repeat (first | (with_reducible first | exact HB.out | apply wA | apply wN | apply wD | refine wS ?_ GE542.out | refine wS ?_ GE552.out) | exact HB.out)) hb); clear HO_7; clear HO_543001; clear HO_553001; clear HO565; clear BK542; clear BK552; clear HB; have HO_7 := n0_; have HO_543001 := n1_; have HO_553001 := n2_; have HO565 := n3_; have HO571 := n4_; have BK542 := n5_; have BK552 := n6_; have HB := n7_; clear n0_ n1_ n2_ n3_ n4_ n5_ n6_ n7_; (try clear hb); (try clear hb2); (try clear hk); (try clear hi); (try clear ho0)) | ((with_reducible refine gate_dst (N := 12) rfl ?_); (try (refine gate_guard (by rfl) ?_; dsimp only)); refine box_event ?hg (N := 12) ?hd (cs := #[.int .i64 0, .slice none 0 0]) (t := 25) ?hr ?_; (case hd => rfl); (case hg => rfl); (case hr => first | (go_simp; done) | (go_simp; rfl)); intro gb573 hg w139 hbox hb; have n0_ := Aside0.mk (Kd.R_below (by (with_reducible repeat (first | apply Kd.R_alloc | apply Kd.R_drewN | apply Kd.R_drew)); exact HO_7.out) hb); have n1_ := Aside0.mk (Kd.V_below (Kd.V_elderB (by (with_reducible repeat (first | apply vA | apply vN | apply vD)); exact HO_543001.out) gb573 (Nat.le_of_eq hg.symm)) hb); have n2_ := Aside0.mk (Kd.V_below (Kd.V_elderB (by (with_reducible repeat (first | apply vA | apply vN | apply vD)); exact HO_553001.out) gb573 (Nat.le_of_eq hg.symm)) hb); have n3_ := Aside0.mk (Kd.V_below (Kd.V_elderB (by (with_reducible repeat (first | apply vA | apply vN | apply vD)); exact HO565.out) gb573 (Nat.le_of_eq hg.symm)) hb); have n4_ := Aside0.mk (Kd.V_below (Kd.V_elderB (by (with_reducible repeat (first | apply vA | apply vN | apply vD)); exact HO571.out) gb573 (Nat.le_of_eq hg.symm)) hb); have n5_ := Aside0.mk (blk_below (g := gb542) (o := .cells #[.int .i64 a0_0, .slice A0_1 l0_1.length c0_1] 25 (0, 0)) (by (with_reducible repeat (first | refine bN ?_ _ | refine bD ?_ | refine bA ?_ _)); exact BK542.out) hb); have n6_ := Aside0.mk (blk_below (g := gb552) (o := .cells #[.int .i64 t547, .slice Ao18 t548.length co18] 25 (0, 0)) (by (with_reducible repeat (first | refine bN ?_ _ | refine bD ?_ | refine bA ?_ _)); exact BK552.out) hb); have n7_ := Aside0.mk (below_step (by repeat (first | (with_reducible first | exact HB.out | apply wA | apply wN | apply wD | refine wS ?_ GE542.out | refine wS ?_ GE552.out) | exact HB.out)) hb); have n8_ := Aside0.mk (hbox); have n9_ := Aside0.mk ((by rw [hg]; exact (below_size (by repeat (first | (with_reducible first | exact HB.out | apply wA | apply wN | apply wD | refine wS ?_ GE542.out | refine wS ?_ GE552.out) | exact HB.out))) : w.heap.size ≤ gb573)); have n10_ := Aside0.mk ((by rw [hg]; exact (below_size (by repeat (first | (with_reducible first | exact HB.out | apply wA | apply wN | apply wD | refine wS ?_ GE542.out | refine wS ?_ GE552.out) | exact HB.out))) : w.heap.size ≤ gb573)); have n11_ := Aside0.mk ((by rw [hg]; exact Nat.ne_of_lt (blk_lt (g := gb542) (o := .cells #[.int .i64 a0_0, .slice A0_1 l0_1.length c0_1] 25 (0, 0)) (by (with_reducible repeat (first | refine bN ?_ _ | refine bD ?_ | refine bA ?_ _)); exact BK542.out)) : gb542 ≠ gb573)); have n12_ := Aside0.mk ((by rw [hg]; exact Nat.ne_of_gt (blk_lt (g := gb542) (o := .cells #[.int .i64 a0_0, .slice A0_1 l0_1.length c0_1] 25 (0, 0)) (by (with_reducible repeat (first | refine bN ?_ _ | refine bD ?_ | refine bA ?_ _)); exact BK542.out)) : gb573 ≠ gb542)); have n13_ := Aside0.mk ((by rw [hg]; exact Nat.ne_of_lt (blk_lt (g := gb552) (o := .cells #[.int .i64 t547, .slice Ao18 t548.length co18] 25 (0, 0)) (by (with_reducible repeat (first | refine bN ?_ _ | refine bD ?_ | refine bA ?_ _)); exact BK552.out)) : gb552 ≠ gb573)); have n14_ := Aside0.mk ((by rw [hg]; exact Nat.ne_of_gt (blk_lt (g := gb552) (o := .cells #[.int .i64 t547, .slice Ao18 t548.length co18] 25 (0, 0)) (by (with_reducible repeat (first | refine bN ?_ _ | refine bD ?_ | refine bA ?_ _)); exact BK552.out)) : gb573 ≠ gb552)); clear HO_7; clear HO_543001; clear HO_553001; clear HO565; clear HO571; clear BK542; clear BK552; clear HB; have HO_7 := n0_; have HO_543001 := n1_; have HO_553001 := n2_; have HO565 := n3_; have HO571 := n4_; have BK542 := n5_; have BK552 := n6_; have HB := n7_; have BK573 := n8_; have GW573 := n9_; have GE573 := n10_; have NB542_573 := n11_; have NB573_542 := n12_; have NB552_573 := n13_; have NB573_552 := n14_; clear n0_ n1_ n2_ n3_ n4_ n5_ n6_ n7_ n8_ n9_ n10_ n11_ n12_ n13_ n14_; clear hb hbox hg; have hnb140 := NB573_542.out; have hnc140 := NB542_573.out; have hnb141 := NB573_552.out; have hnc141 := NB552_573.out; have hcz142_0 : w139.cell? ⟨gb573, 0, none⟩ = some (.int .i64 0) := (blk_cell BK573.out 0).trans rfl; have hcz142_1 : w139.cell? ⟨gb573, 1, none⟩ = some (.slice none 0 0) := (blk_cell BK573.out 1).trans rfl; have hfz142_0 := blk_frozen BK573.out 0; have hfz142_1 := blk_frozen BK573.out 1; obtain ⟨Ao143, co143, eo143⟩ := Kd.V_slice HO571.out; subst eo143))
       have n0_ : Aside0 (Kd.R (Kd.int .i64) 3 ((w139.setCell ⟨gb573, 0, none⟩ (.int .i64 t568)).setCell ⟨gb573, 1, none⟩ (.slice Ao143 t569.length co143)) w.heap.size (fun k_ => (w.heap.size ≤ k_)) (.slice Ao131 t553.length co131) t553) := ⟨by (with_reducible repeat (first | apply Kd.R_alloc | apply Kd.R_drewN | apply Kd.R_drew)); exact Kd.R_mono (Kd.R_far (p := ⟨gb573, 1, none⟩) (Kd.R_far (p := ⟨gb573, 0, none⟩) (Kd.R_types HO_7.out BK573.out (by decide)) (fun _ hk => hk.2) (.int .i64 t568)) (fun _ hk => hk.2) (.slice Ao143 t569.length co143)) (fun _ hk => hk.1)⟩
       have n1_ : Aside0 (Kd.V k25 25 ((w139.setCell ⟨gb573, 0, none⟩ (.int .i64 t568)).setCell ⟨gb573, 1, none⟩ (.slice Ao143 t569.length co143)) w.heap.size (fun k_ => (P0_1_ k_ ∨ w.heap.size ≤ k_) ∧ some k_ ≠ (.slice Ao131 t553.length co131 : Value).ownBlock ∧ k_ ≠ gb542 ∧ k_ ≠ gb552 ∧ k_ ≠ gb573) (.slice A0_1 l0_1.length c0_1) l0_1) := ⟨by (with_reducible repeat (first | apply vA | apply vN | apply vD)); exact Kd.V_mono (Kd.V_far (p := ⟨gb573, 1, none⟩) (Kd.V_far (p := ⟨gb573, 0, none⟩) (Kd.V_mono HO_543001.out (fun k_ hk => (⟨hk, hk.2⟩ : _ ∧ k_ ≠ gb573))) (fun _ hk => hk.2) (.int .i64 t568)) (fun _ hk => hk.2) (.slice Ao143 t569.length co143)) (fun _ hk => ⟨hk.1.1.1, ⟨hk.1.1.2.1, ⟨hk.1.1.2.2.1, ⟨hk.1.1.2.2.2, hk.1.2⟩⟩⟩⟩)⟩
       have n2_ : Aside0 (Kd.V k25 25 ((w139.setCell ⟨gb573, 0, none⟩ (.int .i64 t568)).setCell ⟨gb573, 1, none⟩ (.slice Ao143 t569.length co143)) w.heap.size (fun k_ => (P0_1_ k_ ∨ w.heap.size ≤ k_) ∧ some k_ ≠ (.slice Ao131 t553.length co131 : Value).ownBlock ∧ k_ ≠ gb542 ∧ k_ ≠ gb552 ∧ k_ ≠ gb573) (.slice Ao18 t548.length co18) t548) := ⟨by (with_reducible repeat (first | apply vA | apply vN | apply vD)); exact Kd.V_mono (Kd.V_far (p := ⟨gb573, 1, none⟩) (Kd.V_far (p := ⟨gb573, 0, none⟩) (Kd.V_mono HO_553001.out (fun k_ hk => (⟨hk, hk.2⟩ : _ ∧ k_ ≠ gb573))) (fun _ hk => hk.2) (.int .i64 t568)) (fun _ hk => hk.2) (.slice Ao143 t569.length co143)) (fun _ hk => ⟨hk.1.1.1, ⟨hk.1.1.2.1, ⟨hk.1.1.2.2.1, ⟨hk.1.1.2.2.2, hk.1.2⟩⟩⟩⟩)⟩
       have n3_ : Aside0 (Kd.V k60 60 ((w139.setCell ⟨gb573, 0, none⟩ (.int .i64 t568)).setCell ⟨gb573, 1, none⟩ (.slice Ao143 t569.length co143)) w.heap.size (fun k_ => (P0_1_ k_ ∨ w.heap.size ≤ k_) ∧ some k_ ≠ (.slice Ao131 t553.length co131 : Value).ownBlock ∧ k_ ≠ gb542 ∧ k_ ≠ gb552 ∧ k_ ≠ gb573) (.slice Ao137 t563.length co137) t563) := ⟨by (with_reducible repeat (first | apply vA | apply vN | apply vD)); exact Kd.V_mono (Kd.V_far (p := ⟨gb573, 1, none⟩) (Kd.V_far (p := ⟨gb573, 0, none⟩) (Kd.V_mono HO565.out (fun k_ hk => (⟨hk, hk.2⟩ : _ ∧ k_ ≠ gb573))) (fun _ hk => hk.2) (.int .i64 t568)) (fun _ hk => hk.2) (.slice Ao143 t569.length co143)) (fun _ hk => ⟨hk.1.1.1, ⟨hk.1.1.2.1, ⟨hk.1.1.2.2.1, ⟨hk.1.1.2.2.2, hk.1.2⟩⟩⟩⟩)⟩
       have n4_ : Aside0 (Kd.V k25 25 ((w139.setCell ⟨gb573, 0, none⟩ (.int .i64 t568)).setCell ⟨gb573, 1, none⟩ (.slice Ao143 t569.length co143)) w.heap.size (fun k_ => (P0_1_ k_ ∨ w.heap.size ≤ k_) ∧ some k_ ≠ (.slice Ao131 t553.length co131 : Value).ownBlock ∧ k_ ≠ gb542 ∧ k_ ≠ gb552 ∧ k_ ≠ gb573) (.slice Ao143 t569.length co143) t569) := ⟨by (with_reducible repeat (first | apply vA | apply vN | apply vD)); exact Kd.V_mono (Kd.V_far (p := ⟨gb573, 1, none⟩) (Kd.V_far (p := ⟨gb573, 0, none⟩) (Kd.V_mono HO571.out (fun k_ hk => (⟨hk, hk.2⟩ : _ ∧ k_ ≠ gb573))) (fun _ hk => hk.2) (.int .i64 t568)) (fun _ hk => hk.2) (.slice Ao143 t569.length co143)) (fun _ hk => ⟨hk.1.1.1, ⟨hk.1.1.2.1, ⟨hk.1.1.2.2.1, ⟨hk.1.1.2.2.2, hk.1.2⟩⟩⟩⟩)⟩
       have n5_ : Aside0 (((w139.setCell ⟨gb573, 0, none⟩ (.int .i64 t568)).setCell ⟨gb573, 1, none⟩ (.slice Ao143 t569.length co143)).heap[gb542]? = some (.cells #[.int .i64 a0_0, .slice A0_1 l0_1.length c0_1] 25 (0, 0))) := ⟨by (with_reducible repeat (first | refine bN ?_ _ | refine bD ?_ | refine bA ?_ _)); refine blk_far ?_ NB542_573.out _; (with_reducible repeat (first | refine bN ?_ _ | refine bD ?_ | refine bA ?_ _)); refine blk_far ?_ NB542_573.out _; (with_reducible repeat (first | refine bN ?_ _ | refine bD ?_ | refine bA ?_ _)); exact BK542.out⟩
       have n6_ : Aside0 (((w139.setCell ⟨gb573, 0, none⟩ (.int .i64 t568)).setCell ⟨gb573, 1, none⟩ (.slice Ao143 t569.length co143)).heap[gb552]? = some (.cells #[.int .i64 t547, .slice Ao18 t548.length co18] 25 (0, 0))) := ⟨by (with_reducible repeat (first | refine bN ?_ _ | refine bD ?_ | refine bA ?_ _)); refine blk_far ?_ NB552_573.out _; (with_reducible repeat (first | refine bN ?_ _ | refine bD ?_ | refine bA ?_ _)); refine blk_far ?_ NB552_573.out _; (with_reducible repeat (first | refine bN ?_ _ | refine bD ?_ | refine bA ?_ _)); exact BK552.out⟩
       have n7_ : Aside0 (((w139.setCell ⟨gb573, 0, none⟩ (.int .i64 t568)).setCell ⟨gb573, 1, none⟩ (.slice Ao143 t569.length co143)).heap[gb573]? = some (.cells #[.int .i64 t568, .slice Ao143 t569.length co143] 25 (0, 0))) := ⟨by (with_reducible repeat (first | refine bN ?_ _ | refine bD ?_ | refine bA ?_ _)); refine blk_put (cs := #[.int .i64 t568, .slice none 0 0]) ?_ 1 _ rfl; (with_reducible repeat (first | refine bN ?_ _ | refine bD ?_ | refine bA ?_ _)); refine blk_put (cs := #[.int .i64 0, .slice none 0 0]) ?_ 0 _ rfl; (with_reducible repeat (first | refine bN ?_ _ | refine bD ?_ | refine bA ?_ _)); exact BK573.out⟩
       have n8_ : Aside0 (Below w.heap.size w ((w139.setCell ⟨gb573, 0, none⟩ (.int .i64 t568)).setCell ⟨gb573, 1, none⟩ (.slice Ao143 t569.length co143))) := ⟨by repeat (first | (with_reducible first | exact HB.out | apply wA | apply wN | apply wD | refine wS ?_ GE542.out | refine wS ?_ GE552.out | refine wS ?_ GE573.out) | exact HB.out)⟩
       (try clear HO_7)
       (try clear HO_543001)
       (try clear HO_553001)
       (try clear HO565)
       (try clear HO571)
       (try clear BK542)
       (try clear BK552)
       (try clear BK573)
       (try clear HB)
       generalize ((w139.setCell ⟨gb573, 0, none⟩ (.int .i64 t568)).setCell ⟨gb573, 1, none⟩ (.slice Ao143 t569.length co143)) = w144 at n0_ n1_ n2_ n3_ n4_ n5_ n6_ n7_ n8_ ⊢
       have HO_7 := n0_
       have HO_543001 := n1_
       have HO_553001 := n2_
       have HO565 := n3_
       have HO571 := n4_
       have BK542 := n5_
       have BK552 := n6_
       have BK573 := n7_
       have HB := n8_
       clear n0_ n1_ n2_ n3_ n4_ n5_ n6_ n7_ n8_
       have n0_ := Aside0.mk (Kd.R_drew HO_7.out)
       have n1_ := Aside0.mk (Kd.V_drew HO_543001.out)
       have n2_ := Aside0.mk (Kd.V_drew HO_553001.out)
       have n3_ := Aside0.mk (Kd.V_drew HO565.out)
       have n4_ := Aside0.mk (Kd.V_drew HO571.out)
       have n5_ := Aside0.mk (blk_drew BK542.out)
       have n6_ := Aside0.mk (blk_drew BK552.out)
       have n7_ := Aside0.mk (blk_drew BK573.out)
       have n8_ := Aside0.mk (below_drew1 HB.out)
       clear HO_7
       clear HO_543001
       clear HO_553001
       clear HO565
       clear HO571
       clear BK542
       clear BK552
       clear BK573
       clear HB
       have HO_7 := n0_
       have HO_543001 := n1_
       have HO_553001 := n2_
       have HO565 := n3_
       have HO571 := n4_
       have BK542 := n5_
       have BK552 := n6_
       have BK573 := n7_
       have HB := n8_
       clear n0_ n1_ n2_ n3_ n4_ n5_ n6_ n7_ n8_
       refine start_ (n := 27) (S := fun w' => True) (ds := []) #[F_, F_, F_, F_, F_, F_, F_, F_, F_, F_, F_, F_, F_, F_, F_, F_, F_, F_, F_, F_, F_, F_, F_, F_, F_, F_, F_] (by kernel_rfl) rfl rfl trivial (fun hHeld => ?_); refine with_tabW elenchuslaw04_UnifyShifted.tab14 elenchuslaw04_UnifyShifted.bits14 (fun HT_ HW_ => ?_)
       generalize w144.drew = w145 at HO_7 HO_543001 HO_553001 HO565 HO571 BK542 BK552 BK573 HB hHeld ⊢
       refine one_ (i := 0) (N := some 60) #[T_, F_, F_, F_, F_, F_, F_, F_, F_, F_, F_, F_, F_, F_, F_, F_, F_, F_, F_, F_, F_, F_, F_, F_, F_, F_, F_] rfl rfl (one_of HT_.out (by kernel_rfl)) (by decide) (fun K hK => ?_)
       refine goes_ Try.func57 (by kernel_rfl) rfl #[] (by rfl) rfl rfl (by (try simp only [List.map_toArray, List.map_cons, List.map_nil]); first | done | rfl | (simp only [List.length_drop, List.length_take]; rfl)) ?_
       with_reducible refine (elenchuslaw04_awake.calls  false _ A39.out).mono ?_
       rintro e w146 ⟨rfl, hb⟩
       refine ⟨_, rfl, ?_⟩
       have n0_ := Aside0.mk (Kd.R_below (by (with_reducible repeat (first | apply Kd.R_alloc | apply Kd.R_drewN | apply Kd.R_drew)); exact HO_7.out) hb)
       have n1_ := Aside0.mk (Kd.V_below (by (with_reducible repeat (first | apply vA | apply vN | apply vD)); exact HO_543001.out) hb)
       have n2_ := Aside0.mk (Kd.V_below (by (with_reducible repeat (first | apply vA | apply vN | apply vD)); exact HO_553001.out) hb)
       have n3_ := Aside0.mk (Kd.V_below (by (with_reducible repeat (first | apply vA | apply vN | apply vD)); exact HO565.out) hb)
       have n4_ := Aside0.mk (Kd.V_below (by (with_reducible repeat (first | apply vA | apply vN | apply vD)); exact HO571.out) hb)
       have n5_ := Aside0.mk (blk_below (g := gb542) (o := .cells #[.int .i64 a0_0, .slice A0_1 l0_1.length c0_1] 25 (0, 0)) (by (with_reducible repeat (first | refine bN ?_ _ | refine bD ?_ | refine bA ?_ _)); exact BK542.out) hb)
       have n6_ := Aside0.mk (blk_below (g := gb552) (o := .cells #[.int .i64 t547, .slice Ao18 t548.length co18] 25 (0, 0)) (by (with_reducible repeat (first | refine bN ?_ _ | refine bD ?_ | refine bA ?_ _)); exact BK552.out) hb)
       have n7_ := Aside0.mk (blk_below (g := gb573) (o := .cells #[.int .i64 t568, .slice Ao143 t569.length co143] 25 (0, 0)) (by (with_reducible repeat (first | refine bN ?_ _ | refine bD ?_ | refine bA ?_ _)); exact BK573.out) hb)
       have n8_ := Aside0.mk (below_step (by repeat (first | (with_reducible first | exact HB.out | apply wA | apply wN | apply wD | refine wS ?_ GE542.out | refine wS ?_ GE552.out | refine wS ?_ GE573.out) | exact HB.out)) hb)
       clear HO_7
       clear HO_543001
       clear HO_553001
       clear HO565
       clear HO571
       clear BK542
       clear BK552
       clear BK573
       clear HB
       have HO_7 := n0_
       have HO_543001 := n1_
       have HO_553001 := n2_
       have HO565 := n3_
       have HO571 := n4_
       have BK542 := n5_
       have BK552 := n6_
       have BK573 := n7_
       have HB := n8_
       clear n0_ n1_ n2_ n3_ n4_ n5_ n6_ n7_ n8_
       (try clear hb)
       (try clear hb2)
       (try clear hk)
       (try clear hi)
       refine hK.out _ _ trivial (fun hHeld => ?_)
       clear hK K
       refine norm_ (a' := ?_) ?_ ?_
       rotate_left
       ·show Act.put _ (some 60) _ = _
        simp only [Act.put, sT, s0, sS, i64_w, i32_w]
        rfl
       refine pure_ (i := 1) (N := some 61) (v := ?_) (a' := ?_) #[T_, T_, F_, F_, F_, F_, F_, F_, F_, F_, F_, F_, F_, F_, F_, F_, F_, F_, F_, F_, F_, F_, F_, F_, F_, F_, F_] rfl rfl (any_of HT_.out (by kernel_rfl)) (fun _ _ _ h => h) (Or.inl ⟨by rfl, ?_⟩) ?_ ?_
       rotate_left
       ·intro w'
        go_simp
        with_reducible rfl
       rotate_left
       ·simp only [Act.put, sT, s0, sS, i64_w, i32_w]
        rfl
       refine pure_ (i := 2) (N := some 62) (v := undef) (a' := ?_) #[T_, T_, T_, F_, F_, F_, F_, F_, F_, F_, F_, F_, F_, F_, F_, F_, F_, F_, F_, F_, F_, F_, F_, F_, F_, F_, F_] rfl rfl (any_of HT_.out (by kernel_rfl)) (fun _ _ _ h => h) (Or.inr ⟨by rfl, rfl⟩) ?_ ?_
       rotate_left
       ·simp only [Act.put, sT, s0, sS, i64_w, i32_w]
        rfl
       refine pure_ (i := 3) (N := some 63) (v := ?_) (a' := ?_) #[T_, T_, T_, T_, F_, F_, F_, F_, F_, F_, F_, F_, F_, F_, F_, F_, F_, F_, F_, F_, F_, F_, F_, F_, F_, F_, F_] rfl rfl (any_of HT_.out (by kernel_rfl)) (fun _ _ _ h => h) (Or.inl ⟨by rfl, ?_⟩) ?_ ?_
       rotate_left
       ·intro w'
        go_simp
        with_reducible rfl
       rotate_left
       ·simp only [Act.put, sT, s0, sS, i64_w, i32_w]
        rfl
       refine pure_ (i := 4) (N := some 64) (v := ?_) (a' := ?_) #[T_, T_, T_, T_, T_, F_, F_, F_, F_, F_, F_, F_, F_, F_, F_, F_, F_, F_, F_, F_, F_, F_, F_, F_, F_, F_, F_] rfl rfl (any_of HT_.out (by kernel_rfl)) (fun _ _ _ h => h) (Or.inl ⟨by rfl, ?_⟩) ?_ ?_
       rotate_left
       ·intro w'
        go_simp
        with_reducible rfl
       rotate_left
       ·simp only [Act.put, sT, s0, sS, i64_w, i32_w]
        rfl
       refine pure_ (i := 5) (N := some 65) (v := undef) (a' := ?_) #[T_, T_, T_, T_, T_, T_, F_, F_, F_, F_, F_, F_, F_, F_, F_, F_, F_, F_, F_, F_, F_, F_, F_, F_, F_, F_, F_] rfl rfl (any_of HT_.out (by kernel_rfl)) (fun _ _ _ h => h) (Or.inr ⟨by rfl, rfl⟩) ?_ ?_
       rotate_left
       ·simp only [Act.put, sT, s0, sS, i64_w, i32_w]
        rfl
       refine pure_ (i := 6) (N := some 66) (v := undef) (a' := ?_) #[T_, T_, T_, T_, T_, T_, T_, F_, F_, F_, F_, F_, F_, F_, F_, F_, F_, F_, F_, F_, F_, F_, F_, F_, F_, F_, F_] rfl rfl (any_of HT_.out (by kernel_rfl)) (fun _ _ _ h => h) (Or.inr ⟨by rfl, rfl⟩) ?_ ?_
       rotate_left
       ·simp only [Act.put, sT, s0, sS, i64_w, i32_w]
        rfl
       refine pure_ (i := 7) (N := some 67) (v := ?_) (a' := ?_) #[T_, T_, T_, T_, T_, T_, T_, T_, F_, F_, F_, F_, F_, F_, F_, F_, F_, F_, F_, F_, F_, F_, F_, F_, F_, F_, F_] rfl rfl (any_of HT_.out (by kernel_rfl)) (fun _ _ _ h => h) (Or.inl ⟨by rfl, ?_⟩) ?_ ?_
       rotate_left
       ·intro w'
        go_simp
        with_reducible rfl
       rotate_left
       ·simp only [Act.put, sT, s0, sS, i64_w, i32_w]
        rfl
       refine pure_ (i := 8) (N := some 68) (v := ?_) (a' := ?_) #[T_, T_, T_, T_, T_, T_, T_, T_, T_, F_, F_, F_, F_, F_, F_, F_, F_, F_, F_, F_, F_, F_, F_, F_, F_, F_, F_] rfl rfl (any_of HT_.out (by kernel_rfl)) (fun _ _ _ h => h) (Or.inl ⟨by rfl, ?_⟩) ?_ ?_
       rotate_left
       ·intro w'
        go_simp
        with_reducible rfl
       rotate_left
       ·simp only [Act.put, sT, s0, sS, i64_w, i32_w]
        rfl
       refine pure_ (i := 9) (N := some 69) (v := undef) (a' := ?_) #[T_, T_, T_, T_, T_, T_, T_, T_, T_, T_, F_, F_, F_, F_, F_, F_, F_, F_, F_, F_, F_, F_, F_, F_, F_, F_, F_] rfl rfl (any_of HT_.out (by kernel_rfl)) (fun _ _ _ h => h) (Or.inr ⟨by rfl, rfl⟩) ?_ ?_
       rotate_left
       ·simp only [Act.put, sT, s0, sS, i64_w, i32_w]
        rfl
       refine pure_ (i := 10) (N := some 70) (v := undef) (a' := ?_) #[T_, T_, T_, T_, T_, T_, T_, T_, T_, T_, T_, F_, F_, F_, F_, F_, F_, F_, F_, F_, F_, F_, F_, F_, F_, F_, F_] rfl rfl (any_of HT_.out (by kernel_rfl)) (fun _ _ _ h => h) (Or.inr ⟨by rfl, rfl⟩) ?_ ?_
       rotate_left
       ·simp only [Act.put, sT, s0, sS, i64_w, i32_w]
        rfl
       refine pure_ (i := 11) (N := some 71) (v := ?_) (a' := ?_) #[T_, T_, T_, T_, T_, T_, T_, T_, T_, T_, T_, T_, F_, F_, F_, F_, F_, F_, F_, F_, F_, F_, F_, F_, F_, F_, F_] rfl rfl (any_of HT_.out (by kernel_rfl)) (fun _ _ _ h => h) (Or.inl ⟨by rfl, ?_⟩) ?_ ?_
       rotate_left
       ·intro w'
        go_simp
        with_reducible rfl
       rotate_left
       ·simp only [Act.put, sT, s0, sS, i64_w, i32_w]
        rfl
       refine pure_ (i := 12) (N := some 72) (v := ?_) (a' := ?_) #[T_, T_, T_, T_, T_, T_, T_, T_, T_, T_, T_, T_, T_, F_, F_, F_, F_, F_, F_, F_, F_, F_, F_, F_, F_, F_, F_] rfl rfl (any_of HT_.out (by kernel_rfl)) (fun _ _ _ h => h) (Or.inl ⟨by rfl, ?_⟩) ?_ ?_
       rotate_left
       ·intro w'
        go_simp
        with_reducible rfl
       rotate_left
       ·simp only [Act.put, sT, s0, sS, i64_w, i32_w]
        rfl
       refine pure_ (i := 13) (N := some 73) (v := undef) (a' := ?_) #[T_, T_, T_, T_, T_, T_, T_, T_, T_, T_, T_, T_, T_, T_, F_, F_, F_, F_, F_, F_, F_, F_, F_, F_, F_, F_, F_] rfl rfl (any_of HT_.out (by kernel_rfl)) (fun _ _ _ h => h) (Or.inr ⟨by rfl, rfl⟩) ?_ ?_
       rotate_left
       ·simp only [Act.put, sT, s0, sS, i64_w, i32_w]
        rfl
       refine pure_ (i := 14) (N := some 74) (v := undef) (a' := ?_) #[T_, T_, T_, T_, T_, T_, T_, T_, T_, T_, T_, T_, T_, T_, T_, F_, F_, F_, F_, F_, F_, F_, F_, F_, F_, F_, F_] rfl rfl (any_of HT_.out (by kernel_rfl)) (fun _ _ _ h => h) (Or.inr ⟨by rfl, rfl⟩) ?_ ?_
       rotate_left
       ·simp only [Act.put, sT, s0, sS, i64_w, i32_w]
        rfl
       refine pure_ (i := 15) (N := some 75) (v := undef) (a' := ?_) #[T_, T_, T_, T_, T_, T_, T_, T_, T_, T_, T_, T_, T_, T_, T_, T_, F_, F_, F_, F_, F_, F_, F_, F_, F_, F_, F_] rfl rfl (any_of HT_.out (by kernel_rfl)) (fun _ _ _ h => h) (Or.inr ⟨by rfl, rfl⟩) ?_ ?_
       rotate_left
       ·simp only [Act.put, sT, s0, sS, i64_w, i32_w]
        rfl
       refine pure_ (i := 16) (N := some 76) (v := undef) (a' := ?_) #[T_, T_, T_, T_, T_, T_, T_, T_, T_, T_, T_, T_, T_, T_, T_, T_, T_, F_, F_, F_, F_, F_, F_, F_, F_, F_, F_] rfl rfl (any_of HT_.out (by kernel_rfl)) (fun _ _ _ h => h) (Or.inr ⟨by rfl, rfl⟩) ?_ ?_
       rotate_left
       ·simp only [Act.put, sT, s0, sS, i64_w, i32_w]
        rfl
       refine pure_ (i := 17) (N := some 77) (v := undef) (a' := ?_) #[T_, T_, T_, T_, T_, T_, T_, T_, T_, T_, T_, T_, T_, T_, T_, T_, T_, T_, F_, F_, F_, F_, F_, F_, F_, F_, F_] rfl rfl (any_of HT_.out (by kernel_rfl)) (fun _ _ _ h => h) (Or.inr ⟨by rfl, rfl⟩) ?_ ?_
       rotate_left
       ·simp only [Act.put, sT, s0, sS, i64_w, i32_w]
        rfl
       refine pure_ (i := 18) (N := some 78) (v := ?_) (a' := ?_) #[T_, T_, T_, T_, T_, T_, T_, T_, T_, T_, T_, T_, T_, T_, T_, T_, T_, T_, T_, F_, F_, F_, F_, F_, F_, F_, F_] rfl rfl (any_of HT_.out (by kernel_rfl)) (fun _ _ _ h => h) (Or.inl ⟨by rfl, ?_⟩) ?_ ?_
       rotate_left
       ·intro w'
        go_simp
        with_reducible rfl
       rotate_left
       ·simp only [Act.put, sT, s0, sS, i64_w, i32_w]
        rfl
       refine pure_ (i := 19) (N := some 79) (v := ?_) (a' := ?_) #[T_, T_, T_, T_, T_, T_, T_, T_, T_, T_, T_, T_, T_, T_, T_, T_, T_, T_, T_, T_, F_, F_, F_, F_, F_, F_, F_] rfl rfl (any_of HT_.out (by kernel_rfl)) (fun _ _ _ h => h) (Or.inl ⟨by rfl, ?_⟩) ?_ ?_
       rotate_left
       ·intro w'
        go_simp
        with_reducible rfl
       rotate_left
       ·simp only [Act.put, sT, s0, sS, i64_w, i32_w]
        rfl
       refine pure_ (i := 20) (N := some 80) (v := undef) (a' := ?_) #[T_, T_, T_, T_, T_, T_, T_, T_, T_, T_, T_, T_, T_, T_, T_, T_, T_, T_, T_, T_, T_, F_, F_, F_, F_, F_, F_] rfl rfl (any_of HT_.out (by kernel_rfl)) (fun _ _ _ h => h) (Or.inr ⟨by rfl, rfl⟩) ?_ ?_
       rotate_left
       ·simp only [Act.put, sT, s0, sS, i64_w, i32_w]
        rfl
       refine pure_ (i := 21) (N := some 81) (v := undef) (a' := ?_) #[T_, T_, T_, T_, T_, T_, T_, T_, T_, T_, T_, T_, T_, T_, T_, T_, T_, T_, T_, T_, T_, T_, F_, F_, F_, F_, F_] rfl rfl (any_of HT_.out (by kernel_rfl)) (fun _ _ _ h => h) (Or.inr ⟨by rfl, rfl⟩) ?_ ?_
       rotate_left
       ·simp only [Act.put, sT, s0, sS, i64_w, i32_w]
        rfl
       refine pure_ (i := 22) (N := some 82) (v := undef) (a' := ?_) #[T_, T_, T_, T_, T_, T_, T_, T_, T_, T_, T_, T_, T_, T_, T_, T_, T_, T_, T_, T_, T_, T_, T_, F_, F_, F_, F_] rfl rfl (any_of HT_.out (by kernel_rfl)) (fun _ _ _ h => h) (Or.inr ⟨by rfl, rfl⟩) ?_ ?_
       rotate_left
       ·simp only [Act.put, sT, s0, sS, i64_w, i32_w]
        rfl
       refine pure_ (i := 23) (N := some 83) (v := undef) (a' := ?_) #[T_, T_, T_, T_, T_, T_, T_, T_, T_, T_, T_, T_, T_, T_, T_, T_, T_, T_, T_, T_, T_, T_, T_, T_, F_, F_, F_] rfl rfl (any_of HT_.out (by kernel_rfl)) (fun _ _ _ h => h) (Or.inr ⟨by rfl, rfl⟩) ?_ ?_
       rotate_left
       ·simp only [Act.put, sT, s0, sS, i64_w, i32_w]
        rfl
       refine pure_ (i := 24) (N := some 84) (v := undef) (a' := ?_) #[T_, T_, T_, T_, T_, T_, T_, T_, T_, T_, T_, T_, T_, T_, T_, T_, T_, T_, T_, T_, T_, T_, T_, T_, T_, F_, F_] rfl rfl (any_of HT_.out (by kernel_rfl)) (fun _ _ _ h => h) (Or.inr ⟨by rfl, rfl⟩) ?_ ?_
       rotate_left
       ·simp only [Act.put, sT, s0, sS, i64_w, i32_w]
        rfl
       refine pure_ (i := 25) (N := some 85) (v := ?_) (a' := ?_) #[T_, T_, T_, T_, T_, T_, T_, T_, T_, T_, T_, T_, T_, T_, T_, T_, T_, T_, T_, T_, T_, T_, T_, T_, T_, T_, F_] rfl rfl (any_of HT_.out (by kernel_rfl)) (fun _ _ _ h => h) (Or.inl ⟨by rfl, ?_⟩) ?_ ?_
       rotate_left
       ·intro w'
        go_simp
        with_reducible rfl
       rotate_left
       ·simp only [Act.put, sT, s0, sS, i64_w, i32_w]
        rfl
       refine pure_ (i := 26) (N := some 4) (v := ?_) (a' := ?_) #[T_, T_, T_, T_, T_, T_, T_, T_, T_, T_, T_, T_, T_, T_, T_, T_, T_, T_, T_, T_, T_, T_, T_, T_, T_, T_, T_] rfl rfl (any_of HT_.out (by kernel_rfl)) (fun _ _ _ h => h) (Or.inl ⟨by rfl, ?_⟩) ?_ ?_
       rotate_left
       ·intro w'
        go_simp
        with_reducible rfl
       rotate_left
       ·simp only [Act.put, sT, s0, sS, i64_w, i32_w]
        rfl
       refine done_ (done_of HT_.out (by kernel_rfl)) ?_
       try go_wp2
       go_ret
       exact ⟨by first | rfl | (simp [errW_none, errW_some] <;> rfl) | (simp [*, errW_none, errW_some] <;> rfl), by repeat (first | (with_reducible first | exact HB.out | apply wA | apply wN | apply wD | refine wS ?_ GE542.out | refine wS ?_ GE552.out | refine wS ?_ GE573.out) | exact HB.out)⟩
     ·rw [if_neg c36] at H
      have c36b0 : (t551 == 0) = false := beq_eq_false_iff_ne.mpr c36
      have c36b1 : (t551 != 0) = true := bne_iff_ne.mpr c36
      replace H := Option.bind_eq_some_iff.mp H
      obtain ⟨t562, A1470, H⟩ := H
      replace H : (some t562) = some r := H
      have A147 := Aside0.mk A1470
      clear A1470
      obtain rfl := Option.some.inj H
      obtain ⟨Ao148, co148, eo148⟩ := Kd.R_slice HO_7.out
      subst eo148
      go_wp2_with (first | ((with_reducible refine gate_callee (f := 57) rfl ?_); refine goesL_ (some 46) rfl rfl Try.func57 (by kernel_rfl) rfl #[] rfl (by (try simp only [List.map_toArray, List.map_cons, List.map_nil]); first | done | rfl | (simp only [List.length_drop, List.length_take]; rfl)) ?_; (with_reducible refine (elenchuslaw04_awake.calls  t562 _ A147.out).mono ?_); rintro e w149 ⟨rfl, hb⟩; refine ⟨_, rfl, ?_⟩; have n0_ := Aside0.mk (Kd.R_below (by (with_reducible repeat (first | apply Kd.R_alloc | apply Kd.R_drewN | apply Kd.R_drew)); exact HO_7.out) hb); have n1_ := Aside0.mk (Kd.V_below (by (with_reducible repeat (first | apply vA | apply vN | apply vD)); exact HO_543001.out) hb); have n2_ := Aside0.mk (Kd.V_below (by (with_reducible repeat (first | apply vA | apply vN | apply vD)); exact HO_553001.out) hb); have n3_ := Aside0.mk (blk_below (g := gb542) (o := .cells #[.int .i64 a0_0, .slice A0_1 l0_1.length c0_1] 25 (0, 0)) (by (with_reducible repeat (first | refine bN ?_ _ | refine bD ?_ | refine bA ?_ _)); exact BK542.out) hb); have n4_ := Aside0.mk (blk_below (g := gb552) (o := .cells #[.int .i64 t547, .slice Ao18 t548.length co18] 25 (0, 0)) (by (with_reducible repeat (first | refine bN ?_ _ | refine bD ?_ | refine bA ?_ _)); exact BK552.out) hb); have n5_ := Aside0.mk (below_step (by repeat (first | (with_reducible first | exact HB.out | apply wA | apply wN | apply wD | refine wS ?_ GE542.out | refine wS ?_ GE552.out) | exact HB.out)) hb); clear HO_7; clear HO_543001; clear HO_553001; clear BK542; clear BK552; clear HB; have HO_7 := n0_; have HO_543001 := n1_; have HO_553001 := n2_; have BK542 := n3_; have BK552 := n4_; have HB := n5_; clear n0_ n1_ n2_ n3_ n4_ n5_; (try clear hb); (try clear hb2); (try clear hk); (try clear hi)))
      go_ret
      exact ⟨by first | rfl | (simp [errW_none, errW_some] <;> rfl) | (simp [*, errW_none, errW_some] <;> rfl), by repeat (first | (with_reducible first | exact HB.out | apply wA | apply wN | apply wD | refine wS ?_ GE542.out | refine wS ?_ GE552.out) | exact HB.out)⟩
 ·replace c4 := Bool.eq_false_iff.mpr c4
  subst c4
  have H1 : (some true) = some r := by rw [if_neg (show ¬ (false = true) by decide)] at H; exact H
  clear H
  have H := H1
  clear H1
  obtain rfl := Option.some.inj H
  go_enter Try.func21, Try.ntmps21
  go_wp2_with (first | ((with_reducible refine gate_dst (N := 2) rfl ?_); (try (refine gate_guard (by rfl) ?_; dsimp only)); refine box_event ?hg (N := 2) ?hd (cs := #[.int .i64 a0_0, .slice A0_1 l0_1.length c0_1]) (t := 25) ?hr ?_; (case hd => rfl); (case hg => rfl); (case hr => first | (go_simp; done) | (go_simp; rfl)); intro gb542 hg w150 hbox hb; have n0_ := Aside0.mk (Kd.V_below (Kd.V_elderB (by (with_reducible repeat (first | apply vA | apply vN | apply vD)); exact HO0_1.out) gb542 (Nat.le_of_eq hg.symm)) hb); have n1_ := Aside0.mk (below_step (by repeat (first | (with_reducible first | exact HB.out | apply wA | apply wN | apply wD) | exact HB.out)) hb); have n2_ := Aside0.mk (hbox); have n3_ := Aside0.mk ((by rw [hg]; exact (below_size (by repeat (first | (with_reducible first | exact HB.out | apply wA | apply wN | apply wD) | exact HB.out))) : w.heap.size ≤ gb542)); have n4_ := Aside0.mk ((by rw [hg]; exact (below_size (by repeat (first | (with_reducible first | exact HB.out | apply wA | apply wN | apply wD) | exact HB.out))) : w.heap.size ≤ gb542)); clear HO0_1; clear HB; have HO0_1 := n0_; have HB := n1_; have BK542 := n2_; have GW542 := n3_; have GE542 := n4_; clear n0_ n1_ n2_ n3_ n4_; clear hb hbox hg; have hcz151_0 : w150.cell? ⟨gb542, 0, none⟩ = some (.int .i64 a0_0) := (blk_cell BK542.out 0).trans rfl; have hcz151_1 : w150.cell? ⟨gb542, 1, none⟩ = some (.slice A0_1 l0_1.length c0_1) := (blk_cell BK542.out 1).trans rfl; have hfz151_0 := blk_frozen BK542.out 0; have hfz151_1 := blk_frozen BK542.out 1) | ((with_reducible refine gate_dst (N := 15) rfl ?_); (try (refine gate_guard (by rfl) ?_; dsimp only)); refine Kd.N_lit k25 _ 25 ?hg (N' := 15) ?hd (xs := ([(⟨a0_0, l0_1⟩ : S25)] : List (S25))) (inner := [.int .i64 a0_0, .slice A0_1 l0_1.length c0_1]) (ok := (fun k_ => (P0_1_ k_ ∨ w.heap.size ≤ k_) ∧ k_ ≠ gb542)) (okp := (fun k_ => (P0_1_ k_ ∨ w.heap.size ≤ k_) ∧ k_ ≠ gb542)) ?hr ?hp (fun _ hk => hk) ((show ∀ k_, w150.heap.size ≤ k_ → (fun k_ => (P0_1_ k_ ∨ w.heap.size ≤ k_) ∧ k_ ≠ gb542) k_ from fun k_ hk => ⟨(.inr (Nat.le_trans (below_size (by repeat (first | (with_reducible first | exact HB.out | apply wA | apply wN | apply wD | refine wS ?_ GE542.out) | exact HB.out))) hk)), Kd.freshB (g := gb542) (o := .cells #[.int .i64 a0_0, .slice A0_1 l0_1.length c0_1] 25 (0, 0)) (by (with_reducible repeat (first | refine bN ?_ _ | refine bD ?_ | refine bA ?_ _)); exact BK542.out) k_ hk⟩) _ (Nat.le_refl _)) (Below.refl _ _) (Nat.le_refl _) (by simp) ?_; (case hd => rfl); (case hg => rfl); (case hr => first | (go_simp; done) | (go_simp; rfl)); (case hp => exact (Reps.c2 (show Kd.FK k25 _ _ (⟨a0_0, l0_1⟩ : S25) [.int .i64 a0_0, .slice A0_1 l0_1.length c0_1] from (k25_mkF _ _ (⟨a0_0, l0_1⟩ : S25) (Kd.V_reads' (Kd.V_mono (ok' := (fun k_ => (P0_1_ k_ ∨ w.heap.size ≤ k_) ∧ k_ ≠ gb542)) (HO0_1.out) (fun k_ hk => ⟨hk.1, hk.2⟩))).2.1 (Kd.V_F (Kd.V_mono (ok' := (fun k_ => (P0_1_ k_ ∨ w.heap.size ≤ k_) ∧ k_ ≠ gb542)) (HO0_1.out) (fun k_ hk => ⟨hk.1, hk.2⟩))))) (Reps.none _ _))); intro v544 w152 ho153 hb hg_ hnew_; clear hg_ hnew_; (first | rw [← Ny543.out] at ho153 | (simp only [Int.reduceToNat] at ho153; rw [← Ny543.out] at ho153)); have n0_ := Aside0.mk (Kd.V_elder' (by (with_reducible repeat (first | apply vA | apply vN | apply vD)); exact HO0_1.out) (by first | exact Kd.N_base ho153 | exact Kd.R_base ho153) hb); have n1_ := Aside0.mk (Kd.N_lower ho153 (below_size (by repeat (first | (with_reducible first | exact HB.out | apply wA | apply wN | apply wD | refine wS ?_ GE542.out) | exact HB.out)))); have n2_ := Aside0.mk (blk_below (g := gb542) (o := .cells #[.int .i64 a0_0, .slice A0_1 l0_1.length c0_1] 25 (0, 0)) (by (with_reducible repeat (first | refine bN ?_ _ | refine bD ?_ | refine bA ?_ _)); exact BK542.out) hb); have n3_ := Aside0.mk (below_step (by repeat (first | (with_reducible first | exact HB.out | apply wA | apply wN | apply wD | refine wS ?_ GE542.out) | exact HB.out)) hb); clear HO0_1; clear BK542; clear HB; have HO0_1 := n0_; have HO545 := n1_; have BK542 := n2_; have HB := n3_; clear n0_ n1_ n2_ n3_; clear hb ho153; obtain ⟨Ao154, co154, eo154⟩ := Kd.N_slice HO545.out; subst eo154) | ((with_reducible refine gate_callee (f := 54) rfl ?_); refine goesL_ (some 16) rfl rfl Try.func54 (by kernel_rfl) rfl #[.slice Ao154 y543.length co154] rfl (by (try simp only [List.map_toArray, List.map_cons, List.map_nil]); first | done | rfl | (simp only [List.length_drop, List.length_take]; rfl)) ?_; (with_reducible refine (elenchusref04_Few.calls k _ _ y543 false _ ?side1 ?side2 A3.out).mono ?_); (case side1 => repeat (first | exact (Kd.N_reads' HO545.out).2.2 | (with_reducible refine Kd.C_alloc ?_ _) | (with_reducible refine Kd.C_drewN ?_ _) | (with_reducible refine Kd.C_drew ?_))); (case side2 => exact (Kd.N_reads' HO545.out).2.1); rintro e w155 ⟨rfl, hb⟩; refine ⟨_, rfl, ?_⟩; have n0_ := Aside0.mk (Kd.V_below (by (with_reducible repeat (first | apply vA | apply vN | apply vD)); exact HO0_1.out) hb); have n1_ := Aside0.mk (Kd.N_below (by (with_reducible repeat (first | apply nA | apply nN | apply nD)); exact HO545.out) hb); have n2_ := Aside0.mk (blk_below (g := gb542) (o := .cells #[.int .i64 a0_0, .slice A0_1 l0_1.length c0_1] 25 (0, 0)) (by (with_reducible repeat (first | refine bN ?_ _ | refine bD ?_ | refine bA ?_ _)); exact BK542.out) hb); have n3_ := Aside0.mk (below_step (by repeat (first | (with_reducible first | exact HB.out | apply wA | apply wN | apply wD | refine wS ?_ GE542.out) | exact HB.out)) hb); clear HO0_1; clear HO545; clear BK542; clear HB; have HO0_1 := n0_; have HO545 := n1_; have BK542 := n2_; have HB := n3_; clear n0_ n1_ n2_ n3_; (try clear hb); (try clear hb2); (try clear hk); (try clear hi)))
  go_ret
  exact ⟨by first | rfl | (simp [errW_none, errW_some] <;> rfl) | (simp [*, errW_none, errW_some] <;> rfl), by repeat (first | (with_reducible first | exact HB.out | apply wA | apply wN | apply wD | refine wS ?_ GE542.out) | exact HB.out)⟩
end Go.Proofs.Ythplndalbfcbbaa.PA
