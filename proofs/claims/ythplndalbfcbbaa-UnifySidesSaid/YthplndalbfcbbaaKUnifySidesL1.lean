/- What the proof of the law rests on: contracts of the functions, plain laws, and words. -/
import Derived.Test.YthplndalbfcbbaaKUnifySidesL0
namespace Go.Proofs.Ythplndalbfcbbaa.PA
open Go.RowKit Go.Proofs.YthplndalbfcbbaaW.PrintWords Go.Proofs.YthplndalbfcbbaaW.PrintLast Go.Proofs.YthplndalbfcbbaaW.PrintMore
attribute [local go_sem] max2_int min2_int max_two min_two max_three min_three max_four min_four   -- for this text's walks alone
set_option linter.unusedVariables false
set_option linter.unusedSimpArgs false
mutual
def elenchuslaw04_UnifySides.j0 : Nat → Int → Bool → Int → List (S25) → Int → List (S25) → Option (Bool)
 | 0, _, _, _, _, _, _ => none
 | k + 1, x2, x32, x456000, x456001, x457000, x457001 => if x32 = true then (some true) else ((unify_Mgu.f x456000 x456001 x457000 x457001).bind fun bt461 => ((unify_Mgu.f x457000 x457001 x456000 x456001).bind fun bt466 => (if bt461.2.2 = 1 then (elenchuslaw04_UnifySides.j1 k x2 bt461.1 bt461.2.1 bt461.2.2 bt466.1 bt466.2.1 bt466.2.2 true x456000 x456001) else (elenchuslaw04_UnifySides.j1 k x2 bt461.1 bt461.2.1 bt461.2.2 bt466.1 bt466.2.1 bt466.2.2 (bt466.2.2 == 1) x456000 x456001))))
def elenchuslaw04_UnifySides.j1 : Nat → Int → List (S60) → Bool → Int → List (S60) → Bool → Int → Bool → Int → List (S25) → Option (Bool)
 | 0, _, _, _, _, _, _, _, _, _, _ => none
 | k + 1, x2, x7, x8, x9, x10, x11, x12, x52, x456000, x456001 => if x52 = true then ((elenchuslaw04_awake.f).bind fun t471 => (if t471 = true then (some (x9 == x12)) else (some false))) else (if (x8 != x11) = true then (if x9 = 0 then (if x12 = 0 then (elenchuslaw04_UnifySides.j2 k x2 true x456000 x456001) else (if (x7.length : Int) = (x10.length : Int) then (elenchuslaw04_UnifySides.j2 k x2 false x456000 x456001) else (elenchuslaw04_UnifySides.j2 k x2 (x12 == 0) x456000 x456001))) else (if (x7.length : Int) = (x10.length : Int) then (elenchuslaw04_UnifySides.j2 k x2 false x456000 x456001) else (elenchuslaw04_UnifySides.j2 k x2 false x456000 x456001))) else (if (x7.length : Int) = (x10.length : Int) then (elenchuslaw04_UnifySides.j2 k x2 false x456000 x456001) else (if x9 = 0 then (elenchuslaw04_UnifySides.j2 k x2 (x12 == 0) x456000 x456001) else (elenchuslaw04_UnifySides.j2 k x2 false x456000 x456001))))
def elenchuslaw04_UnifySides.j2 : Nat → Int → Bool → Int → List (S25) → Option (Bool)
 | 0, _, _, _, _ => none
 | k + 1, x2, x84, x456000, x456001 => if x84 = true then (some false) else ((unify_Mgu.f x456000 x456001 x456000 x456001).bind fun bt472 => ((elenchusref01_Var.f x2).bind fun bt477 => ((unify_Mgu.f bt477.1 bt477.2 x456000 x456001).bind fun bt481 => ((elenchuslaw04_awake.f).bind fun t486 => (if t486 = true then (if bt472.2.2 = 1 then (if bt481.2.2 = 0 then (if x456000 = (wrap64 ((-1) - x2)) then (some (bt481.2.1 == true)) else ((term_Vars.f x456000 x456001).bind fun t487 => ((elenchusref01_In.f x2 t487).bind fun t490 => (some (bt481.2.1 == (!t490)))))) else (some true)) else (if bt472.2.1 = true then (if (bt472.1.length : Int) = 0 then (if bt481.2.2 = 0 then (if x456000 = (wrap64 ((-1) - x2)) then (some (bt481.2.1 == true)) else ((term_Vars.f x456000 x456001).bind fun t491 => ((elenchusref01_In.f x2 t491).bind fun t494 => (some (bt481.2.1 == (!t494)))))) else (some true)) else (some false)) else (some false))) else (some false))))))
end
def elenchuslaw04_UnifySides.f (k : Nat) (a0_0 : Int) (l0_1 : List (S25)) (a1_0 : Int) (l1_1 : List (S25)) (a2 : Int) : Option (Bool) := (elenchusref04_Few.f k (([(⟨a0_0, l0_1⟩ : S25), (⟨a1_0, l1_1⟩ : S25)] : List (S25)))).bind fun t460 => (if t460 = true then (if a2 < 0 then (elenchuslaw04_UnifySides.j0 k a2 true a0_0 l0_1 a1_0 l1_1) else (elenchuslaw04_UnifySides.j0 k a2 (decide (a2 > 255)) a0_0 l0_1 a1_0 l1_1)) else (elenchuslaw04_UnifySides.j0 k a2 true a0_0 l0_1 a1_0 l1_1))
def elenchuslaw04_UnifySides.T10 : Bool × List (List Nat × List Nat) := (true, [([], []), ([0], [0]), ([], []), ([1, 2, 1], [1, 2]), ([3], [3]), ([4], [4]), ([4], [4]), ([4], [4]), ([5, 3, 0, 1, 2, 3, 4, 5], [5]), ([6, 8, 0, 1, 2, 3, 4, 5, 6, 8], [6]), ([7, 9, 0, 1, 2, 3, 4, 5, 6, 7, 8, 9], [7])])
def elenchuslaw04_UnifySides.B10 : List Nat := [0, 1, 0, 7, 15, 31, 31, 31, 63, 383, 1023]
theorem elenchuslaw04_UnifySides.tab10 : rtab .any (opsOf Try.f17 10) = elenchuslaw04_UnifySides.T10 := by kernel_rfl
theorem elenchuslaw04_UnifySides.bits10 : waitsOk elenchuslaw04_UnifySides.T10.2 elenchuslaw04_UnifySides.B10 = true := by kernel_rfl
set_option maxHeartbeats 8000000 in
set_option maxRecDepth 100000 in
theorem elenchuslaw04_UnifySides.calls (k : Nat) (a0_0 : Int) (P0_1_ : Nat → Prop) (A0_1 : Option Addr) (c0_1 : Nat) (l0_1 : List (S25)) (a1_0 : Int) (P1_1_ : Nat → Prop) (A1_1 : Option Addr) (c1_1 : Nat) (l1_1 : List (S25)) (a2 : Int) (r : Bool) (w : World) (hs0_1 : Kd.V k25 25 w w.heap.size (fun k_ => P0_1_ k_) (.slice A0_1 l0_1.length c0_1) l0_1) (hs1_1 : Kd.V k25 25 w w.heap.size (fun k_ => P1_1_ k_) (.slice A1_1 l1_1.length c1_1) l1_1) (h : elenchuslaw04_UnifySides.f k a0_0 l0_1 a1_0 l1_1 a2 = some r) :
  Calls Try.prog 17 #[.agg #[.int .i64 a0_0, .slice A0_1 l0_1.length c0_1], .agg #[.int .i64 a1_0, .slice A1_1 l1_1.length c1_1], .int .i64 a2] w fun e w' => e = .returned (.bool r) ∧ Below w.heap.size w w' := by
 have hu25 := Try.underlying25
 have HO0_1 := Aside0.mk (show Kd.V k25 25 w w.heap.size (fun k_ => ((P0_1_ k_ ∨ P1_1_ k_) ∨ w.heap.size ≤ k_)) (.slice A0_1 l0_1.length c0_1) l0_1 from Kd.V_mono hs0_1 (fun k_ hk => .inl (.inl hk)))
 have HO1_1 := Aside0.mk (show Kd.V k25 25 w w.heap.size (fun k_ => ((P0_1_ k_ ∨ P1_1_ k_) ∨ w.heap.size ≤ k_)) (.slice A1_1 l1_1.length c1_1) l1_1 from Kd.V_mono hs1_1 (fun k_ hk => .inl (.inr hk)))
 have HB := Aside0.mk (Below.refl w.heap.size w)
 have H : ((elenchusref04_Few.f k (([(⟨a0_0, l0_1⟩ : S25), (⟨a1_0, l1_1⟩ : S25)] : List (S25)))).bind fun t460 => (if t460 = true then (if a2 < 0 then (elenchuslaw04_UnifySides.j0 k a2 true a0_0 l0_1 a1_0 l1_1) else (elenchuslaw04_UnifySides.j0 k a2 (decide (a2 > 255)) a0_0 l0_1 a1_0 l1_1)) else (elenchuslaw04_UnifySides.j0 k a2 true a0_0 l0_1 a1_0 l1_1))) = some r := h
 clear h
 have HC4 := Aside0.mk H
 clear H
 go_enter Try.func17, Try.ntmps17
 go_upto_region 1 with (first | ((with_reducible refine gate_dst (N := 3) rfl ?_); (try (refine gate_guard (by rfl) ?_; dsimp only)); refine box_event ?hg (N := 3) ?hd (cs := #[.int .i64 a0_0, .slice A0_1 l0_1.length c0_1]) (t := 25) ?hr ?_; (case hd => rfl); (case hg => rfl); (case hr => first | (go_simp; done) | (go_simp; rfl)); intro gb455 hg w5 hbox hb; have n0_ := Aside0.mk (Kd.V_below (Kd.V_elderB (by (with_reducible repeat (first | apply vA | apply vN | apply vD)); exact HO0_1.out) gb455 (Nat.le_of_eq hg.symm)) hb); have n1_ := Aside0.mk (Kd.V_below (Kd.V_elderB (by (with_reducible repeat (first | apply vA | apply vN | apply vD)); exact HO1_1.out) gb455 (Nat.le_of_eq hg.symm)) hb); have n2_ := Aside0.mk (below_step (by repeat (first | (with_reducible first | exact HB.out | apply wA | apply wN | apply wD) | exact HB.out)) hb); have n3_ := Aside0.mk (hbox); have n4_ := Aside0.mk ((by rw [hg]; exact (below_size (by repeat (first | (with_reducible first | exact HB.out | apply wA | apply wN | apply wD) | exact HB.out))) : w.heap.size ≤ gb455)); have n5_ := Aside0.mk ((by rw [hg]; exact (below_size (by repeat (first | (with_reducible first | exact HB.out | apply wA | apply wN | apply wD) | exact HB.out))) : w.heap.size ≤ gb455)); clear HO0_1; clear HO1_1; clear HB; have HO0_1 := n0_; have HO1_1 := n1_; have HB := n2_; have BK455 := n3_; have GW455 := n4_; have GE455 := n5_; clear n0_ n1_ n2_ n3_ n4_ n5_; clear hb hbox hg) | ((with_reducible refine gate_dst (N := 4) rfl ?_); (try (refine gate_guard (by rfl) ?_; dsimp only)); refine box_event ?hg (N := 4) ?hd (cs := #[.int .i64 a1_0, .slice A1_1 l1_1.length c1_1]) (t := 25) ?hr ?_; (case hd => rfl); (case hg => rfl); (case hr => first | (go_simp; done) | (go_simp; rfl)); intro gb456 hg w6 hbox hb; have n0_ := Aside0.mk (Kd.V_below (Kd.V_elderB (by (with_reducible repeat (first | apply vA | apply vN | apply vD)); exact HO0_1.out) gb456 (Nat.le_of_eq hg.symm)) hb); have n1_ := Aside0.mk (Kd.V_below (Kd.V_elderB (by (with_reducible repeat (first | apply vA | apply vN | apply vD)); exact HO1_1.out) gb456 (Nat.le_of_eq hg.symm)) hb); have n2_ := Aside0.mk (blk_below (g := gb455) (o := .cells #[.int .i64 a0_0, .slice A0_1 l0_1.length c0_1] 25 (0, 0)) (by (with_reducible repeat (first | refine bN ?_ _ | refine bD ?_ | refine bA ?_ _)); exact BK455.out) hb); have n3_ := Aside0.mk (below_step (by repeat (first | (with_reducible first | exact HB.out | apply wA | apply wN | apply wD | refine wS ?_ GE455.out) | exact HB.out)) hb); have n4_ := Aside0.mk (hbox); have n5_ := Aside0.mk ((by rw [hg]; exact (below_size (by repeat (first | (with_reducible first | exact HB.out | apply wA | apply wN | apply wD | refine wS ?_ GE455.out) | exact HB.out))) : w.heap.size ≤ gb456)); have n6_ := Aside0.mk ((by rw [hg]; exact (below_size (by repeat (first | (with_reducible first | exact HB.out | apply wA | apply wN | apply wD | refine wS ?_ GE455.out) | exact HB.out))) : w.heap.size ≤ gb456)); have n7_ := Aside0.mk ((by rw [hg]; exact Nat.ne_of_lt (blk_lt (g := gb455) (o := .cells #[.int .i64 a0_0, .slice A0_1 l0_1.length c0_1] 25 (0, 0)) (by (with_reducible repeat (first | refine bN ?_ _ | refine bD ?_ | refine bA ?_ _)); exact BK455.out)) : gb455 ≠ gb456)); have n8_ := Aside0.mk ((by rw [hg]; exact Nat.ne_of_gt (blk_lt (g := gb455) (o := .cells #[.int .i64 a0_0, .slice A0_1 l0_1.length c0_1] 25 (0, 0)) (by (with_reducible repeat (first | refine bN ?_ _ | refine bD ?_ | refine bA ?_ _)); exact BK455.out)) : gb456 ≠ gb455)); clear HO0_1; clear HO1_1; clear BK455; clear HB; have HO0_1 := n0_; have HO1_1 := n1_; have BK455 := n2_; have HB := n3_; have BK456 := n4_; have GW456 := n5_; have GE456 := n6_; have NB455_456 := n7_; have NB456_455 := n8_; clear n0_ n1_ n2_ n3_ n4_ n5_ n6_ n7_ n8_; clear hb hbox hg))
 (try simp only [Act.put, sT, s0, sS])
 go_cut [32] (fun v32 wc => ∃ (kq : Nat) (x32_3 : Bool), v32 = .bool x32_3 ∧ Aside0 (elenchuslaw04_UnifySides.j0 kq a2 x32_3 a0_0 l0_1 a1_0 l1_1 = some r) ∧ Aside0 (kq ≤ k) ∧ Aside0 (Kd.V k25 25 wc w.heap.size (fun k_ => ((P0_1_ k_ ∨ P1_1_ k_) ∨ w.heap.size ≤ k_) ∧ k_ ≠ gb455 ∧ k_ ≠ gb456) (.slice A0_1 l0_1.length c0_1) l0_1) ∧ Aside0 (Kd.V k25 25 wc w.heap.size (fun k_ => ((P0_1_ k_ ∨ P1_1_ k_) ∨ w.heap.size ≤ k_) ∧ k_ ≠ gb455 ∧ k_ ≠ gb456) (.slice A1_1 l1_1.length c1_1) l1_1) ∧ Aside0 (wc.heap[gb455]? = some (.cells #[.int .i64 a0_0, (.slice A0_1 l0_1.length c0_1)] 25 (0, 0))) ∧ Aside0 (wc.heap[gb456]? = some (.cells #[.int .i64 a1_0, (.slice A1_1 l1_1.length c1_1)] 25 (0, 0))) ∧ Aside0 (Below w.heap.size w wc))
 case first =>
  have H := HC4.out
  clear HC4
  obtain ⟨y457, hy457⟩ : ∃ y_ : List (S25), y_ = (([(⟨a0_0, l0_1⟩ : S25), (⟨a1_0, l1_1⟩ : S25)] : List (S25))) := ⟨_, rfl⟩
  replace H : ((elenchusref04_Few.f k y457).bind fun t460 => (if t460 = true then (if a2 < 0 then (elenchuslaw04_UnifySides.j0 k a2 true a0_0 l0_1 a1_0 l1_1) else (elenchuslaw04_UnifySides.j0 k a2 (decide (a2 > 255)) a0_0 l0_1 a1_0 l1_1)) else (elenchuslaw04_UnifySides.j0 k a2 true a0_0 l0_1 a1_0 l1_1))) = some r := by first | (rw [hy457]; with_reducible exact H) | (have H2_ := (Option.bind_some _ _).symm.trans H; rw [hy457]; with_reducible exact H2_) | (have H2_ := (Option.bind_some _ _).symm.trans H; with_reducible exact H2_) | with_reducible exact H | (rw [hy457]; exact H) | exact H
  have Ny457 := Aside0.mk hy457
  clear hy457
  replace H := Option.bind_eq_some_iff.mp H
  obtain ⟨t460, A70, H⟩ := H
  replace H : (if t460 = true then (if a2 < 0 then (elenchuslaw04_UnifySides.j0 k a2 true a0_0 l0_1 a1_0 l1_1) else (elenchuslaw04_UnifySides.j0 k a2 (decide (a2 > 255)) a0_0 l0_1 a1_0 l1_1)) else (elenchuslaw04_UnifySides.j0 k a2 true a0_0 l0_1 a1_0 l1_1)) = some r := H
  have A7 := Aside0.mk A70
  clear A70
  by_cases c8 : t460 = true
  ·subst c8
   have H1 : (if a2 < 0 then (elenchuslaw04_UnifySides.j0 k a2 true a0_0 l0_1 a1_0 l1_1) else (elenchuslaw04_UnifySides.j0 k a2 (decide (a2 > 255)) a0_0 l0_1 a1_0 l1_1)) = some r := by rw [if_pos rfl] at H; exact H
   clear H
   have H := H1
   clear H1
   by_cases c9 : a2 < 0
   ·rw [if_pos c9] at H
    have c9b0 : decide (a2 < 0) = true := decide_eq_true c9
    clear c9
    (first | rw [c9b0] | (simp only [i64_w, i32_w]; rw [c9b0]) | skip)
    have H' := Aside0.mk H
    clear H
    have hnb10 := NB455_456.out
    have hnc10 := NB456_455.out
    have hcz11_0 : w6.cell? ⟨gb455, 0, none⟩ = some (.int .i64 a0_0) := (blk_cell BK455.out 0).trans rfl
    have hcz11_1 : w6.cell? ⟨gb455, 1, none⟩ = some (.slice A0_1 l0_1.length c0_1) := (blk_cell BK455.out 1).trans rfl
    have hfz11_0 := blk_frozen BK455.out 0
    have hfz11_1 := blk_frozen BK455.out 1
    have hcz12_0 : w6.cell? ⟨gb456, 0, none⟩ = some (.int .i64 a1_0) := (blk_cell BK456.out 0).trans rfl
    have hcz12_1 : w6.cell? ⟨gb456, 1, none⟩ = some (.slice A1_1 l1_1.length c1_1) := (blk_cell BK456.out 1).trans rfl
    have hfz12_0 := blk_frozen BK456.out 0
    have hfz12_1 := blk_frozen BK456.out 1
    go_wp2_with (first | ((with_reducible refine gate_dst (N := 22) rfl ?_); (try (refine gate_guard (by rfl) ?_; dsimp only)); refine Kd.N_lit k25 _ 25 ?hg (N' := 22) ?hd (xs := ([(⟨a0_0, l0_1⟩ : S25), (⟨a1_0, l1_1⟩ : S25)] : List (S25))) (inner := [.int .i64 a0_0, .slice A0_1 l0_1.length c0_1, .int .i64 a1_0, .slice A1_1 l1_1.length c1_1]) (ok := (fun k_ => ((P0_1_ k_ ∨ P1_1_ k_) ∨ w.heap.size ≤ k_) ∧ k_ ≠ gb455 ∧ k_ ≠ gb456)) (okp := (fun k_ => ((P0_1_ k_ ∨ P1_1_ k_) ∨ w.heap.size ≤ k_) ∧ k_ ≠ gb455 ∧ k_ ≠ gb456)) ?hr ?hp (fun _ hk => hk) ((show ∀ k_, w6.heap.size ≤ k_ → (fun k_ => ((P0_1_ k_ ∨ P1_1_ k_) ∨ w.heap.size ≤ k_) ∧ k_ ≠ gb455 ∧ k_ ≠ gb456) k_ from fun k_ hk => ⟨(.inr (Nat.le_trans (below_size (by repeat (first | (with_reducible first | exact HB.out | apply wA | apply wN | apply wD | refine wS ?_ GE455.out | refine wS ?_ GE456.out) | exact HB.out))) hk)), Kd.freshB (g := gb455) (o := .cells #[.int .i64 a0_0, .slice A0_1 l0_1.length c0_1] 25 (0, 0)) (by (with_reducible repeat (first | refine bN ?_ _ | refine bD ?_ | refine bA ?_ _)); exact BK455.out) k_ hk, Kd.freshB (g := gb456) (o := .cells #[.int .i64 a1_0, .slice A1_1 l1_1.length c1_1] 25 (0, 0)) (by (with_reducible repeat (first | refine bN ?_ _ | refine bD ?_ | refine bA ?_ _)); exact BK456.out) k_ hk⟩) _ (Nat.le_refl _)) (Below.refl _ _) (Nat.le_refl _) (by simp) ?_; (case hd => rfl); (case hg => rfl); (case hr => first | (go_simp; done) | (go_simp; rfl)); (case hp => exact (Reps.c2 (show Kd.FK k25 _ _ (⟨a0_0, l0_1⟩ : S25) [.int .i64 a0_0, .slice A0_1 l0_1.length c0_1] from (k25_mkF _ _ (⟨a0_0, l0_1⟩ : S25) (Kd.V_reads' (Kd.V_mono (ok' := (fun k_ => ((P0_1_ k_ ∨ P1_1_ k_) ∨ w.heap.size ≤ k_) ∧ k_ ≠ gb455 ∧ k_ ≠ gb456)) (HO0_1.out) (fun k_ hk => ⟨hk.1.1, ⟨hk.1.2, hk.2⟩⟩))).2.1 (Kd.V_F (Kd.V_mono (ok' := (fun k_ => ((P0_1_ k_ ∨ P1_1_ k_) ∨ w.heap.size ≤ k_) ∧ k_ ≠ gb455 ∧ k_ ≠ gb456)) (HO0_1.out) (fun k_ hk => ⟨hk.1.1, ⟨hk.1.2, hk.2⟩⟩))))) (Reps.c2 (show Kd.FK k25 _ _ (⟨a1_0, l1_1⟩ : S25) [.int .i64 a1_0, .slice A1_1 l1_1.length c1_1] from (k25_mkF _ _ (⟨a1_0, l1_1⟩ : S25) (Kd.V_reads' (Kd.V_mono (ok' := (fun k_ => ((P0_1_ k_ ∨ P1_1_ k_) ∨ w.heap.size ≤ k_) ∧ k_ ≠ gb455 ∧ k_ ≠ gb456)) (HO1_1.out) (fun k_ hk => ⟨hk.1.1, ⟨hk.1.2, hk.2⟩⟩))).2.1 (Kd.V_F (Kd.V_mono (ok' := (fun k_ => ((P0_1_ k_ ∨ P1_1_ k_) ∨ w.heap.size ≤ k_) ∧ k_ ≠ gb455 ∧ k_ ≠ gb456)) (HO1_1.out) (fun k_ hk => ⟨hk.1.1, ⟨hk.1.2, hk.2⟩⟩))))) (Reps.none _ _)))); intro v458 w13 ho14 hb hg_ hnew_; clear hg_ hnew_; (first | rw [← Ny457.out] at ho14 | (simp only [Int.reduceToNat] at ho14; rw [← Ny457.out] at ho14)); have n0_ := Aside0.mk (Kd.V_elder' (by (with_reducible repeat (first | apply vA | apply vN | apply vD)); exact HO0_1.out) (by first | exact Kd.N_base ho14 | exact Kd.R_base ho14) hb); have n1_ := Aside0.mk (Kd.V_elder' (by (with_reducible repeat (first | apply vA | apply vN | apply vD)); exact HO1_1.out) (by first | exact Kd.N_base ho14 | exact Kd.R_base ho14) hb); have n2_ := Aside0.mk (Kd.N_lower ho14 (below_size (by repeat (first | (with_reducible first | exact HB.out | apply wA | apply wN | apply wD | refine wS ?_ GE455.out | refine wS ?_ GE456.out) | exact HB.out)))); have n3_ := Aside0.mk (blk_below (g := gb455) (o := .cells #[.int .i64 a0_0, .slice A0_1 l0_1.length c0_1] 25 (0, 0)) (by (with_reducible repeat (first | refine bN ?_ _ | refine bD ?_ | refine bA ?_ _)); exact BK455.out) hb); have n4_ := Aside0.mk (blk_below (g := gb456) (o := .cells #[.int .i64 a1_0, .slice A1_1 l1_1.length c1_1] 25 (0, 0)) (by (with_reducible repeat (first | refine bN ?_ _ | refine bD ?_ | refine bA ?_ _)); exact BK456.out) hb); have n5_ := Aside0.mk (below_step (by repeat (first | (with_reducible first | exact HB.out | apply wA | apply wN | apply wD | refine wS ?_ GE455.out | refine wS ?_ GE456.out) | exact HB.out)) hb); clear HO0_1; clear HO1_1; clear BK455; clear BK456; clear HB; have HO0_1 := n0_; have HO1_1 := n1_; have HO459 := n2_; have BK455 := n3_; have BK456 := n4_; have HB := n5_; clear n0_ n1_ n2_ n3_ n4_ n5_; clear hb ho14; obtain ⟨Ao15, co15, eo15⟩ := Kd.N_slice HO459.out; subst eo15) | ((with_reducible refine gate_callee (f := 54) rfl ?_); refine goesL_ (some 23) rfl rfl Try.func54 (by kernel_rfl) rfl #[.slice Ao15 y457.length co15] rfl (by (try simp only [List.map_toArray, List.map_cons, List.map_nil]); first | done | rfl | (simp only [List.length_drop, List.length_take]; rfl)) ?_; (with_reducible refine (elenchusref04_Few.calls k _ _ y457 true _ ?side1 ?side2 A7.out).mono ?_); (case side1 => repeat (first | exact (Kd.N_reads' HO459.out).2.2 | (with_reducible refine Kd.C_alloc ?_ _) | (with_reducible refine Kd.C_drewN ?_ _) | (with_reducible refine Kd.C_drew ?_))); (case side2 => exact (Kd.N_reads' HO459.out).2.1); rintro e w16 ⟨rfl, hb⟩; refine ⟨_, rfl, ?_⟩; have n0_ := Aside0.mk (Kd.V_below (by (with_reducible repeat (first | apply vA | apply vN | apply vD)); exact HO0_1.out) hb); have n1_ := Aside0.mk (Kd.V_below (by (with_reducible repeat (first | apply vA | apply vN | apply vD)); exact HO1_1.out) hb); have n2_ := Aside0.mk (Kd.N_below (by (with_reducible repeat (first | apply nA | apply nN | apply nD)); exact HO459.out) hb); have n3_ := Aside0.mk (blk_below (g := gb455) (o := .cells #[.int .i64 a0_0, .slice A0_1 l0_1.length c0_1] 25 (0, 0)) (by (with_reducible repeat (first | refine bN ?_ _ | refine bD ?_ | refine bA ?_ _)); exact BK455.out) hb); have n4_ := Aside0.mk (blk_below (g := gb456) (o := .cells #[.int .i64 a1_0, .slice A1_1 l1_1.length c1_1] 25 (0, 0)) (by (with_reducible repeat (first | refine bN ?_ _ | refine bD ?_ | refine bA ?_ _)); exact BK456.out) hb); have n5_ := Aside0.mk (below_step (by repeat (first | (with_reducible first | exact HB.out | apply wA | apply wN | apply wD | refine wS ?_ GE455.out | refine wS ?_ GE456.out) | exact HB.out)) hb); clear HO0_1; clear HO1_1; clear HO459; clear BK455; clear BK456; clear HB; have HO0_1 := n0_; have HO1_1 := n1_; have HO459 := n2_; have BK455 := n3_; have BK456 := n4_; have HB := n5_; clear n0_ n1_ n2_ n3_ n4_ n5_; (try clear hb); (try clear hb2); (try clear hk); (try clear hi)))
    go_meet
    case rel => exact ⟨_, (true), (by first | rfl | (simp; done) | (simp [*]; done)), H', ⟨by first | omega | exact Nat.le_refl _⟩, ⟨by (with_reducible repeat (first | apply vA | apply vN | apply vD)); exact Kd.V_mono HO0_1.out (fun _ hk => ⟨hk.1.1.1, ⟨hk.1.1.2, hk.1.2⟩⟩)⟩, ⟨by (with_reducible repeat (first | apply vA | apply vN | apply vD)); exact Kd.V_mono HO1_1.out (fun _ hk => ⟨hk.1.1.1, ⟨hk.1.1.2, hk.1.2⟩⟩)⟩, ⟨by (with_reducible repeat (first | refine bN ?_ _ | refine bD ?_ | refine bA ?_ _)); exact BK455.out⟩, ⟨by (with_reducible repeat (first | refine bN ?_ _ | refine bD ?_ | refine bA ?_ _)); exact BK456.out⟩, ⟨by repeat (first | (with_reducible first | exact HB.out | apply wA | apply wN | apply wD | refine wS ?_ GE455.out | refine wS ?_ GE456.out) | exact HB.out)⟩⟩
   ·rw [if_neg c9] at H
    have c9b0 : decide (a2 < 0) = false := decide_eq_false c9
    clear c9
    (first | rw [c9b0] | (simp only [i64_w, i32_w]; rw [c9b0]) | skip)
    have H' := Aside0.mk H
    clear H
    have hnb17 := NB455_456.out
    have hnc17 := NB456_455.out
    have hcz18_0 : w6.cell? ⟨gb455, 0, none⟩ = some (.int .i64 a0_0) := (blk_cell BK455.out 0).trans rfl
    have hcz18_1 : w6.cell? ⟨gb455, 1, none⟩ = some (.slice A0_1 l0_1.length c0_1) := (blk_cell BK455.out 1).trans rfl
    have hfz18_0 := blk_frozen BK455.out 0
    have hfz18_1 := blk_frozen BK455.out 1
    have hcz19_0 : w6.cell? ⟨gb456, 0, none⟩ = some (.int .i64 a1_0) := (blk_cell BK456.out 0).trans rfl
    have hcz19_1 : w6.cell? ⟨gb456, 1, none⟩ = some (.slice A1_1 l1_1.length c1_1) := (blk_cell BK456.out 1).trans rfl
    have hfz19_0 := blk_frozen BK456.out 0
    have hfz19_1 := blk_frozen BK456.out 1
    go_wp2_with (first | ((with_reducible refine gate_dst (N := 22) rfl ?_); (try (refine gate_guard (by rfl) ?_; dsimp only)); refine Kd.N_lit k25 _ 25 ?hg (N' := 22) ?hd (xs := ([(⟨a0_0, l0_1⟩ : S25), (⟨a1_0, l1_1⟩ : S25)] : List (S25))) (inner := [.int .i64 a0_0, .slice A0_1 l0_1.length c0_1, .int .i64 a1_0, .slice A1_1 l1_1.length c1_1]) (ok := (fun k_ => ((P0_1_ k_ ∨ P1_1_ k_) ∨ w.heap.size ≤ k_) ∧ k_ ≠ gb455 ∧ k_ ≠ gb456)) (okp := (fun k_ => ((P0_1_ k_ ∨ P1_1_ k_) ∨ w.heap.size ≤ k_) ∧ k_ ≠ gb455 ∧ k_ ≠ gb456)) ?hr ?hp (fun _ hk => hk) ((show ∀ k_, w6.heap.size ≤ k_ → (fun k_ => ((P0_1_ k_ ∨ P1_1_ k_) ∨ w.heap.size ≤ k_) ∧ k_ ≠ gb455 ∧ k_ ≠ gb456) k_ from fun k_ hk => ⟨(.inr (Nat.le_trans (below_size (by repeat (first | (with_reducible first | exact HB.out | apply wA | apply wN | apply wD | refine wS ?_ GE455.out | refine wS ?_ GE456.out) | exact HB.out))) hk)), Kd.freshB (g := gb455) (o := .cells #[.int .i64 a0_0, .slice A0_1 l0_1.length c0_1] 25 (0, 0)) (by (with_reducible repeat (first | refine bN ?_ _ | refine bD ?_ | refine bA ?_ _)); exact BK455.out) k_ hk, Kd.freshB (g := gb456) (o := .cells #[.int .i64 a1_0, .slice A1_1 l1_1.length c1_1] 25 (0, 0)) (by (with_reducible repeat (first | refine bN ?_ _ | refine bD ?_ | refine bA ?_ _)); exact BK456.out) k_ hk⟩) _ (Nat.le_refl _)) (Below.refl _ _) (Nat.le_refl _) (by simp) ?_; (case hd => rfl); (case hg => rfl); (case hr => first | (go_simp; done) | (go_simp; rfl)); (case hp => exact (Reps.c2 (show Kd.FK k25 _ _ (⟨a0_0, l0_1⟩ : S25) [.int .i64 a0_0, .slice A0_1 l0_1.length c0_1] from (k25_mkF _ _ (⟨a0_0, l0_1⟩ : S25) (Kd.V_reads' (Kd.V_mono (ok' := (fun k_ => ((P0_1_ k_ ∨ P1_1_ k_) ∨ w.heap.size ≤ k_) ∧ k_ ≠ gb455 ∧ k_ ≠ gb456)) (HO0_1.out) (fun k_ hk => ⟨hk.1.1, ⟨hk.1.2, hk.2⟩⟩))).2.1 (Kd.V_F (Kd.V_mono (ok' := (fun k_ => ((P0_1_ k_ ∨ P1_1_ k_) ∨ w.heap.size ≤ k_) ∧ k_ ≠ gb455 ∧ k_ ≠ gb456)) (HO0_1.out) (fun k_ hk => ⟨hk.1.1, ⟨hk.1.2, hk.2⟩⟩))))) (Reps.c2 (show Kd.FK k25 _ _ (⟨a1_0, l1_1⟩ : S25) [.int .i64 a1_0, .slice A1_1 l1_1.length c1_1] from (k25_mkF _ _ (⟨a1_0, l1_1⟩ : S25) (Kd.V_reads' (Kd.V_mono (ok' := (fun k_ => ((P0_1_ k_ ∨ P1_1_ k_) ∨ w.heap.size ≤ k_) ∧ k_ ≠ gb455 ∧ k_ ≠ gb456)) (HO1_1.out) (fun k_ hk => ⟨hk.1.1, ⟨hk.1.2, hk.2⟩⟩))).2.1 (Kd.V_F (Kd.V_mono (ok' := (fun k_ => ((P0_1_ k_ ∨ P1_1_ k_) ∨ w.heap.size ≤ k_) ∧ k_ ≠ gb455 ∧ k_ ≠ gb456)) (HO1_1.out) (fun k_ hk => ⟨hk.1.1, ⟨hk.1.2, hk.2⟩⟩))))) (Reps.none _ _)))); intro v458 w20 ho21 hb hg_ hnew_; clear hg_ hnew_; (first | rw [← Ny457.out] at ho21 | (simp only [Int.reduceToNat] at ho21; rw [← Ny457.out] at ho21)); have n0_ := Aside0.mk (Kd.V_elder' (by (with_reducible repeat (first | apply vA | apply vN | apply vD)); exact HO0_1.out) (by first | exact Kd.N_base ho21 | exact Kd.R_base ho21) hb); have n1_ := Aside0.mk (Kd.V_elder' (by (with_reducible repeat (first | apply vA | apply vN | apply vD)); exact HO1_1.out) (by first | exact Kd.N_base ho21 | exact Kd.R_base ho21) hb); have n2_ := Aside0.mk (Kd.N_lower ho21 (below_size (by repeat (first | (with_reducible first | exact HB.out | apply wA | apply wN | apply wD | refine wS ?_ GE455.out | refine wS ?_ GE456.out) | exact HB.out)))); have n3_ := Aside0.mk (blk_below (g := gb455) (o := .cells #[.int .i64 a0_0, .slice A0_1 l0_1.length c0_1] 25 (0, 0)) (by (with_reducible repeat (first | refine bN ?_ _ | refine bD ?_ | refine bA ?_ _)); exact BK455.out) hb); have n4_ := Aside0.mk (blk_below (g := gb456) (o := .cells #[.int .i64 a1_0, .slice A1_1 l1_1.length c1_1] 25 (0, 0)) (by (with_reducible repeat (first | refine bN ?_ _ | refine bD ?_ | refine bA ?_ _)); exact BK456.out) hb); have n5_ := Aside0.mk (below_step (by repeat (first | (with_reducible first | exact HB.out | apply wA | apply wN | apply wD | refine wS ?_ GE455.out | refine wS ?_ GE456.out) | exact HB.out)) hb); clear HO0_1; clear HO1_1; clear BK455; clear BK456; clear HB; have HO0_1 := n0_; have HO1_1 := n1_; have HO459 := n2_; have BK455 := n3_; have BK456 := n4_; have HB := n5_; clear n0_ n1_ n2_ n3_ n4_ n5_; clear hb ho21; obtain ⟨Ao22, co22, eo22⟩ := Kd.N_slice HO459.out; subst eo22) | ((with_reducible refine gate_callee (f := 54) rfl ?_); refine goesL_ (some 23) rfl rfl Try.func54 (by kernel_rfl) rfl #[.slice Ao22 y457.length co22] rfl (by (try simp only [List.map_toArray, List.map_cons, List.map_nil]); first | done | rfl | (simp only [List.length_drop, List.length_take]; rfl)) ?_; (with_reducible refine (elenchusref04_Few.calls k _ _ y457 true _ ?side1 ?side2 A7.out).mono ?_); (case side1 => repeat (first | exact (Kd.N_reads' HO459.out).2.2 | (with_reducible refine Kd.C_alloc ?_ _) | (with_reducible refine Kd.C_drewN ?_ _) | (with_reducible refine Kd.C_drew ?_))); (case side2 => exact (Kd.N_reads' HO459.out).2.1); rintro e w23 ⟨rfl, hb⟩; refine ⟨_, rfl, ?_⟩; have n0_ := Aside0.mk (Kd.V_below (by (with_reducible repeat (first | apply vA | apply vN | apply vD)); exact HO0_1.out) hb); have n1_ := Aside0.mk (Kd.V_below (by (with_reducible repeat (first | apply vA | apply vN | apply vD)); exact HO1_1.out) hb); have n2_ := Aside0.mk (Kd.N_below (by (with_reducible repeat (first | apply nA | apply nN | apply nD)); exact HO459.out) hb); have n3_ := Aside0.mk (blk_below (g := gb455) (o := .cells #[.int .i64 a0_0, .slice A0_1 l0_1.length c0_1] 25 (0, 0)) (by (with_reducible repeat (first | refine bN ?_ _ | refine bD ?_ | refine bA ?_ _)); exact BK455.out) hb); have n4_ := Aside0.mk (blk_below (g := gb456) (o := .cells #[.int .i64 a1_0, .slice A1_1 l1_1.length c1_1] 25 (0, 0)) (by (with_reducible repeat (first | refine bN ?_ _ | refine bD ?_ | refine bA ?_ _)); exact BK456.out) hb); have n5_ := Aside0.mk (below_step (by repeat (first | (with_reducible first | exact HB.out | apply wA | apply wN | apply wD | refine wS ?_ GE455.out | refine wS ?_ GE456.out) | exact HB.out)) hb); clear HO0_1; clear HO1_1; clear HO459; clear BK455; clear BK456; clear HB; have HO0_1 := n0_; have HO1_1 := n1_; have HO459 := n2_; have BK455 := n3_; have BK456 := n4_; have HB := n5_; clear n0_ n1_ n2_ n3_ n4_ n5_; (try clear hb); (try clear hb2); (try clear hk); (try clear hi)))
    go_meet
    case rel => exact ⟨_, (decide (a2 > 255)), (by first | rfl | (simp; done) | (simp [*]; done)), H', ⟨by first | omega | exact Nat.le_refl _⟩, ⟨by (with_reducible repeat (first | apply vA | apply vN | apply vD)); exact Kd.V_mono HO0_1.out (fun _ hk => ⟨hk.1.1.1, ⟨hk.1.1.2, hk.1.2⟩⟩)⟩, ⟨by (with_reducible repeat (first | apply vA | apply vN | apply vD)); exact Kd.V_mono HO1_1.out (fun _ hk => ⟨hk.1.1.1, ⟨hk.1.1.2, hk.1.2⟩⟩)⟩, ⟨by (with_reducible repeat (first | refine bN ?_ _ | refine bD ?_ | refine bA ?_ _)); exact BK455.out⟩, ⟨by (with_reducible repeat (first | refine bN ?_ _ | refine bD ?_ | refine bA ?_ _)); exact BK456.out⟩, ⟨by repeat (first | (with_reducible first | exact HB.out | apply wA | apply wN | apply wD | refine wS ?_ GE455.out | refine wS ?_ GE456.out) | exact HB.out)⟩⟩
  ·replace c8 := Bool.eq_false_iff.mpr c8
   subst c8
   have H1 : (elenchuslaw04_UnifySides.j0 k a2 true a0_0 l0_1 a1_0 l1_1) = some r := by rw [if_neg (show ¬ (false = true) by decide)] at H; exact H
   clear H
   have H := H1
   clear H1
   have H' := Aside0.mk H
   clear H
   have hnb24 := NB455_456.out
   have hnc24 := NB456_455.out
   have hcz25_0 : w6.cell? ⟨gb455, 0, none⟩ = some (.int .i64 a0_0) := (blk_cell BK455.out 0).trans rfl
   have hcz25_1 : w6.cell? ⟨gb455, 1, none⟩ = some (.slice A0_1 l0_1.length c0_1) := (blk_cell BK455.out 1).trans rfl
   have hfz25_0 := blk_frozen BK455.out 0
   have hfz25_1 := blk_frozen BK455.out 1
   have hcz26_0 : w6.cell? ⟨gb456, 0, none⟩ = some (.int .i64 a1_0) := (blk_cell BK456.out 0).trans rfl
   have hcz26_1 : w6.cell? ⟨gb456, 1, none⟩ = some (.slice A1_1 l1_1.length c1_1) := (blk_cell BK456.out 1).trans rfl
   have hfz26_0 := blk_frozen BK456.out 0
   have hfz26_1 := blk_frozen BK456.out 1
   go_wp2_with (first | ((with_reducible refine gate_dst (N := 22) rfl ?_); (try (refine gate_guard (by rfl) ?_; dsimp only)); refine Kd.N_lit k25 _ 25 ?hg (N' := 22) ?hd (xs := ([(⟨a0_0, l0_1⟩ : S25), (⟨a1_0, l1_1⟩ : S25)] : List (S25))) (inner := [.int .i64 a0_0, .slice A0_1 l0_1.length c0_1, .int .i64 a1_0, .slice A1_1 l1_1.length c1_1]) (ok := (fun k_ => ((P0_1_ k_ ∨ P1_1_ k_) ∨ w.heap.size ≤ k_) ∧ k_ ≠ gb455 ∧ k_ ≠ gb456)) (okp := (fun k_ => ((P0_1_ k_ ∨ P1_1_ k_) ∨ w.heap.size ≤ k_) ∧ k_ ≠ gb455 ∧ k_ ≠ gb456)) ?hr ?hp (fun _ hk => hk) ((show ∀ k_, w6.heap.size ≤ k_ → (fun k_ => ((P0_1_ k_ ∨ P1_1_ k_) ∨ w.heap.size ≤ k_) ∧ k_ ≠ gb455 ∧ k_ ≠ gb456) k_ from fun k_ hk => ⟨(.inr (Nat.le_trans (below_size (by repeat (first | (with_reducible first | exact HB.out | apply wA | apply wN | apply wD | refine wS ?_ GE455.out | refine wS ?_ GE456.out) | exact HB.out))) hk)), Kd.freshB (g := gb455) (o := .cells #[.int .i64 a0_0, .slice A0_1 l0_1.length c0_1] 25 (0, 0)) (by (with_reducible repeat (first | refine bN ?_ _ | refine bD ?_ | refine bA ?_ _)); exact BK455.out) k_ hk, Kd.freshB (g := gb456) (o := .cells #[.int .i64 a1_0, .slice A1_1 l1_1.length c1_1] 25 (0, 0)) (by (with_reducible repeat (first | refine bN ?_ _ | refine bD ?_ | refine bA ?_ _)); exact BK456.out) k_ hk⟩) _ (Nat.le_refl _)) (Below.refl _ _) (Nat.le_refl _) (by simp) ?_; (case hd => rfl); (case hg => rfl); (case hr => first | (go_simp; done) | (go_simp; rfl)); (case hp => exact (Reps.c2 (show Kd.FK k25 _ _ (⟨a0_0, l0_1⟩ : S25) [.int .i64 a0_0, .slice A0_1 l0_1.length c0_1] from (k25_mkF _ _ (⟨a0_0, l0_1⟩ : S25) (Kd.V_reads' (Kd.V_mono (ok' := (fun k_ => ((P0_1_ k_ ∨ P1_1_ k_) ∨ w.heap.size ≤ k_) ∧ k_ ≠ gb455 ∧ k_ ≠ gb456)) (HO0_1.out) (fun k_ hk => ⟨hk.1.1, ⟨hk.1.2, hk.2⟩⟩))).2.1 (Kd.V_F (Kd.V_mono (ok' := (fun k_ => ((P0_1_ k_ ∨ P1_1_ k_) ∨ w.heap.size ≤ k_) ∧ k_ ≠ gb455 ∧ k_ ≠ gb456)) (HO0_1.out) (fun k_ hk => ⟨hk.1.1, ⟨hk.1.2, hk.2⟩⟩))))) (Reps.c2 (show Kd.FK k25 _ _ (⟨a1_0, l1_1⟩ : S25) [.int .i64 a1_0, .slice A1_1 l1_1.length c1_1] from (k25_mkF _ _ (⟨a1_0, l1_1⟩ : S25) (Kd.V_reads' (Kd.V_mono (ok' := (fun k_ => ((P0_1_ k_ ∨ P1_1_ k_) ∨ w.heap.size ≤ k_) ∧ k_ ≠ gb455 ∧ k_ ≠ gb456)) (HO1_1.out) (fun k_ hk => ⟨hk.1.1, ⟨hk.1.2, hk.2⟩⟩))).2.1 (Kd.V_F (Kd.V_mono (ok' := (fun k_ => ((P0_1_ k_ ∨ P1_1_ k_) ∨ w.heap.size ≤ k_) ∧ k_ ≠ gb455 ∧ k_ ≠ gb456)) (HO1_1.out) (fun k_ hk => ⟨hk.1.1, ⟨hk.1.2, hk.2⟩⟩))))) (Reps.none _ _)))); intro v458 w27 ho28 hb hg_ hnew_; clear hg_ hnew_; (first | rw [← Ny457.out] at ho28 | (simp only [Int.reduceToNat] at ho28; rw [← Ny457.out] at ho28)); have n0_ := Aside0.mk (Kd.V_elder' (by (with_reducible repeat (first | apply vA | apply vN | apply vD)); exact HO0_1.out) (by first | exact Kd.N_base ho28 | exact Kd.R_base ho28) hb); have n1_ := Aside0.mk (Kd.V_elder' (by (with_reducible repeat (first | apply vA | apply vN | apply vD)); exact HO1_1.out) (by first | exact Kd.N_base ho28 | exact Kd.R_base ho28) hb); have n2_ := Aside0.mk (Kd.N_lower ho28 (below_size (by repeat (first | (with_reducible first | exact HB.out | apply wA | apply wN | apply wD | refine wS ?_ GE455.out | refine wS ?_ GE456.out) | exact HB.out)))); have n3_ := Aside0.mk (blk_below (g := gb455) (o := .cells #[.int .i64 a0_0, .slice A0_1 l0_1.length c0_1] 25 (0, 0)) (by (with_reducible repeat (first | refine bN ?_ _ | refine bD ?_ | refine bA ?_ _)); exact BK455.out) hb); have n4_ := Aside0.mk (blk_below (g := gb456) (o := .cells #[.int .i64 a1_0, .slice A1_1 l1_1.length c1_1] 25 (0, 0)) (by (with_reducible repeat (first | refine bN ?_ _ | refine bD ?_ | refine bA ?_ _)); exact BK456.out) hb); have n5_ := Aside0.mk (below_step (by repeat (first | (with_reducible first | exact HB.out | apply wA | apply wN | apply wD | refine wS ?_ GE455.out | refine wS ?_ GE456.out) | exact HB.out)) hb); clear HO0_1; clear HO1_1; clear BK455; clear BK456; clear HB; have HO0_1 := n0_; have HO1_1 := n1_; have HO459 := n2_; have BK455 := n3_; have BK456 := n4_; have HB := n5_; clear n0_ n1_ n2_ n3_ n4_ n5_; clear hb ho28; obtain ⟨Ao29, co29, eo29⟩ := Kd.N_slice HO459.out; subst eo29) | ((with_reducible refine gate_callee (f := 54) rfl ?_); refine goesL_ (some 23) rfl rfl Try.func54 (by kernel_rfl) rfl #[.slice Ao29 y457.length co29] rfl (by (try simp only [List.map_toArray, List.map_cons, List.map_nil]); first | done | rfl | (simp only [List.length_drop, List.length_take]; rfl)) ?_; (with_reducible refine (elenchusref04_Few.calls k _ _ y457 false _ ?side1 ?side2 A7.out).mono ?_); (case side1 => repeat (first | exact (Kd.N_reads' HO459.out).2.2 | (with_reducible refine Kd.C_alloc ?_ _) | (with_reducible refine Kd.C_drewN ?_ _) | (with_reducible refine Kd.C_drew ?_))); (case side2 => exact (Kd.N_reads' HO459.out).2.1); rintro e w30 ⟨rfl, hb⟩; refine ⟨_, rfl, ?_⟩; have n0_ := Aside0.mk (Kd.V_below (by (with_reducible repeat (first | apply vA | apply vN | apply vD)); exact HO0_1.out) hb); have n1_ := Aside0.mk (Kd.V_below (by (with_reducible repeat (first | apply vA | apply vN | apply vD)); exact HO1_1.out) hb); have n2_ := Aside0.mk (Kd.N_below (by (with_reducible repeat (first | apply nA | apply nN | apply nD)); exact HO459.out) hb); have n3_ := Aside0.mk (blk_below (g := gb455) (o := .cells #[.int .i64 a0_0, .slice A0_1 l0_1.length c0_1] 25 (0, 0)) (by (with_reducible repeat (first | refine bN ?_ _ | refine bD ?_ | refine bA ?_ _)); exact BK455.out) hb); have n4_ := Aside0.mk (blk_below (g := gb456) (o := .cells #[.int .i64 a1_0, .slice A1_1 l1_1.length c1_1] 25 (0, 0)) (by (with_reducible repeat (first | refine bN ?_ _ | refine bD ?_ | refine bA ?_ _)); exact BK456.out) hb); have n5_ := Aside0.mk (below_step (by repeat (first | (with_reducible first | exact HB.out | apply wA | apply wN | apply wD | refine wS ?_ GE455.out | refine wS ?_ GE456.out) | exact HB.out)) hb); clear HO0_1; clear HO1_1; clear HO459; clear BK455; clear BK456; clear HB; have HO0_1 := n0_; have HO1_1 := n1_; have HO459 := n2_; have BK455 := n3_; have BK456 := n4_; have HB := n5_; clear n0_ n1_ n2_ n3_ n4_ n5_; (try clear hb); (try clear hb2); (try clear hk); (try clear hi)))
   go_meet
   case rel => exact ⟨_, (true), (by first | rfl | (simp; done) | (simp [*]; done)), H', ⟨by first | omega | exact Nat.le_refl _⟩, ⟨by (with_reducible repeat (first | apply vA | apply vN | apply vD)); exact Kd.V_mono HO0_1.out (fun _ hk => ⟨hk.1.1.1, ⟨hk.1.1.2, hk.1.2⟩⟩)⟩, ⟨by (with_reducible repeat (first | apply vA | apply vN | apply vD)); exact Kd.V_mono HO1_1.out (fun _ hk => ⟨hk.1.1.1, ⟨hk.1.1.2, hk.1.2⟩⟩)⟩, ⟨by (with_reducible repeat (first | refine bN ?_ _ | refine bD ?_ | refine bA ?_ _)); exact BK455.out⟩, ⟨by (with_reducible repeat (first | refine bN ?_ _ | refine bD ?_ | refine bA ?_ _)); exact BK456.out⟩, ⟨by repeat (first | (with_reducible first | exact HB.out | apply wA | apply wN | apply wD | refine wS ?_ GE455.out | refine wS ?_ GE456.out) | exact HB.out)⟩⟩
 case rest =>
  clear HC4
  try clear c1
  try clear c2
  try clear p2
  try clear c5
  try clear c8
  try clear c9
  try clear c9b0
  try clear c10
  try clear c17
  try clear c24
  try clear hcz11_0
  try clear hcz11_1
  try clear hcz12_0
  try clear hcz12_1
  try clear hcz18_0
  try clear hcz18_1
  try clear hcz19_0
  try clear hcz19_1
  try clear hcz25_0
  try clear hcz25_1
  try clear hcz26_0
  try clear hcz26_1
  try clear hfz11_0
  try clear hfz11_1
  try clear hfz12_0
  try clear hfz12_1
  try clear hfz18_0
  try clear hfz18_1
  try clear hfz19_0
  try clear hfz19_1
  try clear hfz25_0
  try clear hfz25_1
  try clear hfz26_0
  try clear hfz26_1
  obtain ⟨kq, x32_3, rfl, HA, HJ3, HO_456001, HO_457001, BK455, BK456, HB⟩ := hcut
  cases kq with
  | zero => exact absurd HA.out (by simp [elenchuslaw04_UnifySides.j0])
  | succ kj3 =>
   have H := HA.out
   clear HA
   simp only [elenchuslaw04_UnifySides.j0] at H
   by_cases c31 : x32_3 = true
   ·subst c31
    have H1 : (some true) = some r := by rw [if_pos rfl] at H; exact H
    clear H
    have H := H1
    clear H1
    obtain rfl := Option.some.inj H
    go_wp2
    go_ret
    exact ⟨by first | rfl | (simp [errW_none, errW_some] <;> rfl) | (simp [*, errW_none, errW_some] <;> rfl), by repeat (first | (with_reducible first | exact HB.out | apply wA | apply wN | apply wD | refine wS ?_ GE455.out | refine wS ?_ GE456.out) | exact HB.out)⟩
   ·replace c31 := Bool.eq_false_iff.mpr c31
    subst c31
    have H1 : ((unify_Mgu.f a0_0 l0_1 a1_0 l1_1).bind fun bt461 => ((unify_Mgu.f a1_0 l1_1 a0_0 l0_1).bind fun bt466 => (if bt461.2.2 = 1 then (elenchuslaw04_UnifySides.j1 kj3 a2 bt461.1 bt461.2.1 bt461.2.2 bt466.1 bt466.2.1 bt466.2.2 true a0_0 l0_1) else (elenchuslaw04_UnifySides.j1 kj3 a2 bt461.1 bt461.2.1 bt461.2.2 bt466.1 bt466.2.1 bt466.2.2 (bt466.2.2 == 1) a0_0 l0_1)))) = some r := by rw [if_neg (show ¬ (false = true) by decide)] at H; exact H
    clear H
    have H := H1
    clear H1
    replace H := Option.bind_eq_some_iff.mp H
    obtain ⟨⟨t461, t464, t465⟩, A320, H⟩ := H
    replace H : ((unify_Mgu.f a1_0 l1_1 a0_0 l0_1).bind fun bt466 => (if t465 = 1 then (elenchuslaw04_UnifySides.j1 kj3 a2 t461 t464 t465 bt466.1 bt466.2.1 bt466.2.2 true a0_0 l0_1) else (elenchuslaw04_UnifySides.j1 kj3 a2 t461 t464 t465 bt466.1 bt466.2.1 bt466.2.2 (bt466.2.2 == 1) a0_0 l0_1))) = some r := H
    have A32 := Aside0.mk A320
    clear A320
    replace H := Option.bind_eq_some_iff.mp H
    obtain ⟨⟨t466, t469, t470⟩, A330, H⟩ := H
    replace H : (if t465 = 1 then (elenchuslaw04_UnifySides.j1 kj3 a2 t461 t464 t465 t466 t469 t470 true a0_0 l0_1) else (elenchuslaw04_UnifySides.j1 kj3 a2 t461 t464 t465 t466 t469 t470 (t470 == 1) a0_0 l0_1)) = some r := H
    have A33 := Aside0.mk A330
    clear A330
    have HC34 := Aside0.mk H
    clear H
    have hnb35 := NB455_456.out
    have hnc35 := NB456_455.out
    have hcz36_0 : wc.cell? ⟨gb455, 0, none⟩ = some (.int .i64 a0_0) := (blk_cell BK455.out 0).trans rfl
    have hcz36_1 : wc.cell? ⟨gb455, 1, none⟩ = some (.slice A0_1 l0_1.length c0_1) := (blk_cell BK455.out 1).trans rfl
    have hfz36_0 := blk_frozen BK455.out 0
    have hfz36_1 := blk_frozen BK455.out 1
    have hcz37_0 : wc.cell? ⟨gb456, 0, none⟩ = some (.int .i64 a1_0) := (blk_cell BK456.out 0).trans rfl
    have hcz37_1 : wc.cell? ⟨gb456, 1, none⟩ = some (.slice A1_1 l1_1.length c1_1) := (blk_cell BK456.out 1).trans rfl
    have hfz37_0 := blk_frozen BK456.out 0
    have hfz37_1 := blk_frozen BK456.out 1
    go_upto_region 5 with (first | ((with_reducible refine gate_callee (f := 55) rfl ?_); refine goesL_ (some 36) rfl rfl Try.func55 (by kernel_rfl) rfl #[.agg #[.int .i64 a0_0, .slice A0_1 l0_1.length c0_1], .agg #[.int .i64 a1_0, .slice A1_1 l1_1.length c1_1]] rfl (by (try simp only [List.map_toArray, List.map_cons, List.map_nil]); first | done | rfl | (simp only [List.length_drop, List.length_take]; rfl)) ?_; (with_reducible refine (unify_Mgu.calls a0_0 (fun k_ => (((P0_1_ k_ ∨ P1_1_ k_) ∨ w.heap.size ≤ k_) ∧ (k_ ≠ gb455 ∧ k_ ≠ gb456))) _ _ l0_1 a1_0 (fun k_ => (((P0_1_ k_ ∨ P1_1_ k_) ∨ w.heap.size ≤ k_) ∧ (k_ ≠ gb455 ∧ k_ ≠ gb456))) _ _ l1_1 t461 t464 t465 _ ?side1 ?side2 A32.out).mono ?_); (case side1 => exact HO_456001.out); (case side2 => exact HO_457001.out); rintro e w38 ⟨v462, rfl, ho0, hb⟩; refine ⟨_, rfl, ?_⟩; have n0_ := Aside0.mk (Kd.V_below (by (with_reducible repeat (first | apply vA | apply vN | apply vD)); exact HO_456001.out) hb); have n1_ := Aside0.mk (Kd.V_below (by (with_reducible repeat (first | apply vA | apply vN | apply vD)); exact HO_457001.out) hb); have n2_ := Aside0.mk (Kd.V_lower (Kd.V_mono (ok' := fun k_ => ((P0_1_ k_ ∨ P1_1_ k_) ∨ w.heap.size ≤ k_) ∧ k_ ≠ gb455 ∧ k_ ≠ gb456) ho0 (fun k_ hk_ => ⟨Or.elim hk_ (fun hs_ => Or.elim hs_ (fun hs_ => hs_.1) (fun hs_ => hs_.1)) (fun hn_ => (.inr (Nat.le_trans (below_size (by repeat (first | (with_reducible first | exact HB.out | apply wA | apply wN | apply wD | refine wS ?_ GE455.out | refine wS ?_ GE456.out) | exact HB.out))) hn_))), Or.elim hk_ (fun hs_ => Or.elim hs_ (fun hs_ => hs_.2.1) (fun hs_ => hs_.2.1)) (fun hn_ => (Kd.freshB (g := gb455) (o := .cells #[.int .i64 a0_0, .slice A0_1 l0_1.length c0_1] 25 (0, 0)) (by (with_reducible repeat (first | refine bN ?_ _ | refine bD ?_ | refine bA ?_ _)); exact BK455.out) k_ hn_)), Or.elim hk_ (fun hs_ => Or.elim hs_ (fun hs_ => hs_.2.2) (fun hs_ => hs_.2.2)) (fun hn_ => (Kd.freshB (g := gb456) (o := .cells #[.int .i64 a1_0, .slice A1_1 l1_1.length c1_1] 25 (0, 0)) (by (with_reducible repeat (first | refine bN ?_ _ | refine bD ?_ | refine bA ?_ _)); exact BK456.out) k_ hn_))⟩)) (below_size (by repeat (first | (with_reducible first | exact HB.out | apply wA | apply wN | apply wD | refine wS ?_ GE455.out | refine wS ?_ GE456.out) | exact HB.out)))); have n3_ := Aside0.mk (blk_below (g := gb455) (o := .cells #[.int .i64 a0_0, .slice A0_1 l0_1.length c0_1] 25 (0, 0)) (by (with_reducible repeat (first | refine bN ?_ _ | refine bD ?_ | refine bA ?_ _)); exact BK455.out) hb); have n4_ := Aside0.mk (blk_below (g := gb456) (o := .cells #[.int .i64 a1_0, .slice A1_1 l1_1.length c1_1] 25 (0, 0)) (by (with_reducible repeat (first | refine bN ?_ _ | refine bD ?_ | refine bA ?_ _)); exact BK456.out) hb); have n5_ := Aside0.mk (below_step (by repeat (first | (with_reducible first | exact HB.out | apply wA | apply wN | apply wD | refine wS ?_ GE455.out | refine wS ?_ GE456.out) | exact HB.out)) hb); clear HO_456001; clear HO_457001; clear BK455; clear BK456; clear HB; have HO_456001 := n0_; have HO_457001 := n1_; have HO463 := n2_; have BK455 := n3_; have BK456 := n4_; have HB := n5_; clear n0_ n1_ n2_ n3_ n4_ n5_; (try clear hb); (try clear hb2); (try clear hk); (try clear hi); (try clear ho0); have hcz39_0 : w38.cell? ⟨gb456, 0, none⟩ = some (.int .i64 a1_0) := (blk_cell BK456.out 0).trans rfl; have hcz39_1 : w38.cell? ⟨gb456, 1, none⟩ = some (.slice A1_1 l1_1.length c1_1) := (blk_cell BK456.out 1).trans rfl; have hfz39_0 := blk_frozen BK456.out 0; have hfz39_1 := blk_frozen BK456.out 1; have hcz40_0 : w38.cell? ⟨gb455, 0, none⟩ = some (.int .i64 a0_0) := (blk_cell BK455.out 0).trans rfl; have hcz40_1 : w38.cell? ⟨gb455, 1, none⟩ = some (.slice A0_1 l0_1.length c0_1) := (blk_cell BK455.out 1).trans rfl; have hfz40_0 := blk_frozen BK455.out 0; have hfz40_1 := blk_frozen BK455.out 1) | ((with_reducible refine gate_callee (f := 55) rfl ?_); refine goesL_ (some 43) rfl rfl Try.func55 (by kernel_rfl) rfl #[.agg #[.int .i64 a1_0, .slice A1_1 l1_1.length c1_1], .agg #[.int .i64 a0_0, .slice A0_1 l0_1.length c0_1]] rfl (by (try simp only [List.map_toArray, List.map_cons, List.map_nil]); first | done | rfl | (simp only [List.length_drop, List.length_take]; rfl)) ?_; (with_reducible refine (unify_Mgu.calls a1_0 (fun k_ => (((P0_1_ k_ ∨ P1_1_ k_) ∨ w.heap.size ≤ k_) ∧ (k_ ≠ gb455 ∧ k_ ≠ gb456))) _ _ l1_1 a0_0 (fun k_ => (((P0_1_ k_ ∨ P1_1_ k_) ∨ w.heap.size ≤ k_) ∧ (k_ ≠ gb455 ∧ k_ ≠ gb456))) _ _ l0_1 t466 t469 t470 _ ?side1 ?side2 A33.out).mono ?_); (case side1 => exact HO_457001.out); (case side2 => exact HO_456001.out); rintro e w41 ⟨v467, rfl, ho0, hb⟩; refine ⟨_, rfl, ?_⟩; have n0_ := Aside0.mk (Kd.V_below (by (with_reducible repeat (first | apply vA | apply vN | apply vD)); exact HO_456001.out) hb); have n1_ := Aside0.mk (Kd.V_below (by (with_reducible repeat (first | apply vA | apply vN | apply vD)); exact HO_457001.out) hb); have n2_ := Aside0.mk (Kd.V_below (by (with_reducible repeat (first | apply vA | apply vN | apply vD)); exact HO463.out) hb); have n3_ := Aside0.mk (Kd.V_lower (Kd.V_mono (ok' := fun k_ => ((P0_1_ k_ ∨ P1_1_ k_) ∨ w.heap.size ≤ k_) ∧ k_ ≠ gb455 ∧ k_ ≠ gb456) ho0 (fun k_ hk_ => ⟨Or.elim hk_ (fun hs_ => Or.elim hs_ (fun hs_ => hs_.1) (fun hs_ => hs_.1)) (fun hn_ => (.inr (Nat.le_trans (below_size (by repeat (first | (with_reducible first | exact HB.out | apply wA | apply wN | apply wD | refine wS ?_ GE455.out | refine wS ?_ GE456.out) | exact HB.out))) hn_))), Or.elim hk_ (fun hs_ => Or.elim hs_ (fun hs_ => hs_.2.1) (fun hs_ => hs_.2.1)) (fun hn_ => (Kd.freshB (g := gb455) (o := .cells #[.int .i64 a0_0, .slice A0_1 l0_1.length c0_1] 25 (0, 0)) (by (with_reducible repeat (first | refine bN ?_ _ | refine bD ?_ | refine bA ?_ _)); exact BK455.out) k_ hn_)), Or.elim hk_ (fun hs_ => Or.elim hs_ (fun hs_ => hs_.2.2) (fun hs_ => hs_.2.2)) (fun hn_ => (Kd.freshB (g := gb456) (o := .cells #[.int .i64 a1_0, .slice A1_1 l1_1.length c1_1] 25 (0, 0)) (by (with_reducible repeat (first | refine bN ?_ _ | refine bD ?_ | refine bA ?_ _)); exact BK456.out) k_ hn_))⟩)) (below_size (by repeat (first | (with_reducible first | exact HB.out | apply wA | apply wN | apply wD | refine wS ?_ GE455.out | refine wS ?_ GE456.out) | exact HB.out)))); have n4_ := Aside0.mk (blk_below (g := gb455) (o := .cells #[.int .i64 a0_0, .slice A0_1 l0_1.length c0_1] 25 (0, 0)) (by (with_reducible repeat (first | refine bN ?_ _ | refine bD ?_ | refine bA ?_ _)); exact BK455.out) hb); have n5_ := Aside0.mk (blk_below (g := gb456) (o := .cells #[.int .i64 a1_0, .slice A1_1 l1_1.length c1_1] 25 (0, 0)) (by (with_reducible repeat (first | refine bN ?_ _ | refine bD ?_ | refine bA ?_ _)); exact BK456.out) hb); have n6_ := Aside0.mk (below_step (by repeat (first | (with_reducible first | exact HB.out | apply wA | apply wN | apply wD | refine wS ?_ GE455.out | refine wS ?_ GE456.out) | exact HB.out)) hb); clear HO_456001; clear HO_457001; clear HO463; clear BK455; clear BK456; clear HB; have HO_456001 := n0_; have HO_457001 := n1_; have HO463 := n2_; have HO468 := n3_; have BK455 := n4_; have BK456 := n5_; have HB := n6_; clear n0_ n1_ n2_ n3_ n4_ n5_ n6_; (try clear hb); (try clear hb2); (try clear hk); (try clear hi); (try clear ho0)))
    (try simp only [Act.put, sT, s0, sS])
    go_cut [52] (fun v52 wc => ∃ (kq : Nat) (x52_33 : Bool), v52 = .bool x52_33 ∧ Aside0 (elenchuslaw04_UnifySides.j1 kq a2 t461 t464 t465 t466 t469 t470 x52_33 a0_0 l0_1 = some r) ∧ Aside0 (kq ≤ kj3) ∧ Aside0 (Kd.V k60 60 wc w.heap.size (fun k_ => ((P0_1_ k_ ∨ P1_1_ k_) ∨ w.heap.size ≤ k_) ∧ k_ ≠ gb455 ∧ k_ ≠ gb456) v462 t461) ∧ Aside0 (Kd.V k60 60 wc w.heap.size (fun k_ => ((P0_1_ k_ ∨ P1_1_ k_) ∨ w.heap.size ≤ k_) ∧ k_ ≠ gb455 ∧ k_ ≠ gb456) v467 t466) ∧ Aside0 (Kd.V k25 25 wc w.heap.size (fun k_ => ((P0_1_ k_ ∨ P1_1_ k_) ∨ w.heap.size ≤ k_) ∧ k_ ≠ gb455 ∧ k_ ≠ gb456) (.slice A0_1 l0_1.length c0_1) l0_1) ∧ Aside0 (Kd.V k25 25 wc w.heap.size (fun k_ => ((P0_1_ k_ ∨ P1_1_ k_) ∨ w.heap.size ≤ k_) ∧ k_ ≠ gb455 ∧ k_ ≠ gb456) (.slice A1_1 l1_1.length c1_1) l1_1) ∧ Aside0 (wc.heap[gb455]? = some (.cells #[.int .i64 a0_0, (.slice A0_1 l0_1.length c0_1)] 25 (0, 0))) ∧ Aside0 (wc.heap[gb456]? = some (.cells #[.int .i64 a1_0, (.slice A1_1 l1_1.length c1_1)] 25 (0, 0))) ∧ Aside0 (Below w.heap.size w wc))
    case first =>
     have H := HC34.out
     clear HC34
     by_cases c42 : t465 = 1
     ·rw [if_pos c42] at H
      have c42b0 : (t465 == 1) = true := beq_iff_eq.mpr c42
      have c42b1 : (t465 != 1) = false := bne_eq_false_iff_eq.mpr c42
      clear c42
      (first | rw [c42b0] | (simp only [i64_w, i32_w]; rw [c42b0]) | skip)
      have H' := Aside0.mk H
      clear H
      go_wp2
      go_meet
      case rel => exact ⟨_, (true), (by first | rfl | (simp; done) | (simp [*]; done)), H', ⟨by have := HJ3.out; first | omega | exact Nat.le_refl _⟩, ⟨by (with_reducible repeat (first | apply vA | apply vN | apply vD)); exact HO463.out⟩, ⟨by (with_reducible repeat (first | apply vA | apply vN | apply vD)); exact HO468.out⟩, ⟨by (with_reducible repeat (first | apply vA | apply vN | apply vD)); exact HO_456001.out⟩, ⟨by (with_reducible repeat (first | apply vA | apply vN | apply vD)); exact HO_457001.out⟩, ⟨by (with_reducible repeat (first | refine bN ?_ _ | refine bD ?_ | refine bA ?_ _)); exact BK455.out⟩, ⟨by (with_reducible repeat (first | refine bN ?_ _ | refine bD ?_ | refine bA ?_ _)); exact BK456.out⟩, ⟨by repeat (first | (with_reducible first | exact HB.out | apply wA | apply wN | apply wD | refine wS ?_ GE455.out | refine wS ?_ GE456.out) | exact HB.out)⟩⟩
     ·rw [if_neg c42] at H
      have c42b0 : (t465 == 1) = false := beq_eq_false_iff_ne.mpr c42
      have c42b1 : (t465 != 1) = true := bne_iff_ne.mpr c42
      (first | rw [c42b0] | (simp only [i64_w, i32_w]; rw [c42b0]) | skip)
      have H' := Aside0.mk H
      clear H
      go_wp2
      go_meet
      case rel => exact ⟨_, ((t470 == 1)), (by first | rfl | (simp; done) | (simp [*]; done)), H', ⟨by have := HJ3.out; first | omega | exact Nat.le_refl _⟩, ⟨by (with_reducible repeat (first | apply vA | apply vN | apply vD)); exact HO463.out⟩, ⟨by (with_reducible repeat (first | apply vA | apply vN | apply vD)); exact HO468.out⟩, ⟨by (with_reducible repeat (first | apply vA | apply vN | apply vD)); exact HO_456001.out⟩, ⟨by (with_reducible repeat (first | apply vA | apply vN | apply vD)); exact HO_457001.out⟩, ⟨by (with_reducible repeat (first | refine bN ?_ _ | refine bD ?_ | refine bA ?_ _)); exact BK455.out⟩, ⟨by (with_reducible repeat (first | refine bN ?_ _ | refine bD ?_ | refine bA ?_ _)); exact BK456.out⟩, ⟨by repeat (first | (with_reducible first | exact HB.out | apply wA | apply wN | apply wD | refine wS ?_ GE455.out | refine wS ?_ GE456.out) | exact HB.out)⟩⟩
    case rest =>
     clear HC34
     try clear c1
     try clear c2
     try clear p2
     try clear c3
     try clear c4
     try clear c5
     try clear c8
     try clear c9
     try clear c9b0
     try clear c10
     try clear c17
     try clear c24
     try clear c31
     try clear c35
     try clear c42
     try clear c42b0
     try clear c42b1
     try clear hcz11_0
     try clear hcz11_1
     try clear hcz12_0
     try clear hcz12_1
     try clear hcz18_0
     try clear hcz18_1
     try clear hcz19_0
     try clear hcz19_1
     try clear hcz25_0
     try clear hcz25_1
     try clear hcz26_0
     try clear hcz26_1
     try clear hcz36_0
     try clear hcz36_1
     try clear hcz37_0
     try clear hcz37_1
     try clear hcz39_0
     try clear hcz39_1
     try clear hcz40_0
     try clear hcz40_1
     try clear hfz11_0
     try clear hfz11_1
     try clear hfz12_0
     try clear hfz12_1
     try clear hfz18_0
     try clear hfz18_1
     try clear hfz19_0
     try clear hfz19_1
     try clear hfz25_0
     try clear hfz25_1
     try clear hfz26_0
     try clear hfz26_1
     try clear hfz36_0
     try clear hfz36_1
     try clear hfz37_0
     try clear hfz37_1
     try clear hfz39_0
     try clear hfz39_1
     try clear hfz40_0
     try clear hfz40_1
     try clear p2
     obtain ⟨kq, x52_33, rfl, HA, HJ33, HO_7, HO_10, HO_456001, HO_457001, BK455, BK456, HB⟩ := hcut
     cases kq with
     | zero => exact absurd HA.out (by simp [elenchuslaw04_UnifySides.j1])
     | succ kj33 =>
      have H := HA.out
      clear HA
      simp only [elenchuslaw04_UnifySides.j1] at H
      by_cases c43 : x52_33 = true
      ·subst c43
       have H1 : ((elenchuslaw04_awake.f).bind fun t471 => (if t471 = true then (some (t465 == t470)) else (some false))) = some r := by rw [if_pos rfl] at H; exact H
       clear H
       have H := H1
       clear H1
       replace H := Option.bind_eq_some_iff.mp H
       obtain ⟨t471, A440, H⟩ := H
       replace H : (if t471 = true then (some (t465 == t470)) else (some false)) = some r := H
       have A44 := Aside0.mk A440
       clear A440
       by_cases c45 : t471 = true
       ·subst c45
        have H1 : (some (t465 == t470)) = some r := by rw [if_pos rfl] at H; exact H
        clear H
        have H := H1
        clear H1
        obtain rfl := Option.some.inj H
        go_wp2_with (first | ((with_reducible refine gate_callee (f := 57) rfl ?_); refine goesL_ (some 53) rfl rfl Try.func57 (by kernel_rfl) rfl #[] rfl (by (try simp only [List.map_toArray, List.map_cons, List.map_nil]); first | done | rfl | (simp only [List.length_drop, List.length_take]; rfl)) ?_; (with_reducible refine (elenchuslaw04_awake.calls  true _ A44.out).mono ?_); rintro e w46 ⟨rfl, hb⟩; refine ⟨_, rfl, ?_⟩; have n0_ := Aside0.mk (Kd.V_below (by (with_reducible repeat (first | apply vA | apply vN | apply vD)); exact HO_7.out) hb); have n1_ := Aside0.mk (Kd.V_below (by (with_reducible repeat (first | apply vA | apply vN | apply vD)); exact HO_10.out) hb); have n2_ := Aside0.mk (Kd.V_below (by (with_reducible repeat (first | apply vA | apply vN | apply vD)); exact HO_456001.out) hb); have n3_ := Aside0.mk (Kd.V_below (by (with_reducible repeat (first | apply vA | apply vN | apply vD)); exact HO_457001.out) hb); have n4_ := Aside0.mk (blk_below (g := gb455) (o := .cells #[.int .i64 a0_0, .slice A0_1 l0_1.length c0_1] 25 (0, 0)) (by (with_reducible repeat (first | refine bN ?_ _ | refine bD ?_ | refine bA ?_ _)); exact BK455.out) hb); have n5_ := Aside0.mk (blk_below (g := gb456) (o := .cells #[.int .i64 a1_0, .slice A1_1 l1_1.length c1_1] 25 (0, 0)) (by (with_reducible repeat (first | refine bN ?_ _ | refine bD ?_ | refine bA ?_ _)); exact BK456.out) hb); have n6_ := Aside0.mk (below_step (by repeat (first | (with_reducible first | exact HB.out | apply wA | apply wN | apply wD | refine wS ?_ GE455.out | refine wS ?_ GE456.out) | exact HB.out)) hb); clear HO_7; clear HO_10; clear HO_456001; clear HO_457001; clear BK455; clear BK456; clear HB; have HO_7 := n0_; have HO_10 := n1_; have HO_456001 := n2_; have HO_457001 := n3_; have BK455 := n4_; have BK456 := n5_; have HB := n6_; clear n0_ n1_ n2_ n3_ n4_ n5_ n6_; (try clear hb); (try clear hb2); (try clear hk); (try clear hi)))
        go_ret
        exact ⟨by first | rfl | (simp [errW_none, errW_some] <;> rfl) | (simp [*, errW_none, errW_some] <;> rfl), by repeat (first | (with_reducible first | exact HB.out | apply wA | apply wN | apply wD | refine wS ?_ GE455.out | refine wS ?_ GE456.out) | exact HB.out)⟩
       ·replace c45 := Bool.eq_false_iff.mpr c45
        subst c45
        have H1 : (some false) = some r := by rw [if_neg (show ¬ (false = true) by decide)] at H; exact H
        clear H
        have H := H1
        clear H1
        obtain rfl := Option.some.inj H
        go_wp2_with (first | ((with_reducible refine gate_callee (f := 57) rfl ?_); refine goesL_ (some 53) rfl rfl Try.func57 (by kernel_rfl) rfl #[] rfl (by (try simp only [List.map_toArray, List.map_cons, List.map_nil]); first | done | rfl | (simp only [List.length_drop, List.length_take]; rfl)) ?_; (with_reducible refine (elenchuslaw04_awake.calls  false _ A44.out).mono ?_); rintro e w47 ⟨rfl, hb⟩; refine ⟨_, rfl, ?_⟩; have n0_ := Aside0.mk (Kd.V_below (by (with_reducible repeat (first | apply vA | apply vN | apply vD)); exact HO_7.out) hb); have n1_ := Aside0.mk (Kd.V_below (by (with_reducible repeat (first | apply vA | apply vN | apply vD)); exact HO_10.out) hb); have n2_ := Aside0.mk (Kd.V_below (by (with_reducible repeat (first | apply vA | apply vN | apply vD)); exact HO_456001.out) hb); have n3_ := Aside0.mk (Kd.V_below (by (with_reducible repeat (first | apply vA | apply vN | apply vD)); exact HO_457001.out) hb); have n4_ := Aside0.mk (blk_below (g := gb455) (o := .cells #[.int .i64 a0_0, .slice A0_1 l0_1.length c0_1] 25 (0, 0)) (by (with_reducible repeat (first | refine bN ?_ _ | refine bD ?_ | refine bA ?_ _)); exact BK455.out) hb); have n5_ := Aside0.mk (blk_below (g := gb456) (o := .cells #[.int .i64 a1_0, .slice A1_1 l1_1.length c1_1] 25 (0, 0)) (by (with_reducible repeat (first | refine bN ?_ _ | refine bD ?_ | refine bA ?_ _)); exact BK456.out) hb); have n6_ := Aside0.mk (below_step (by repeat (first | (with_reducible first | exact HB.out | apply wA | apply wN | apply wD | refine wS ?_ GE455.out | refine wS ?_ GE456.out) | exact HB.out)) hb); clear HO_7; clear HO_10; clear HO_456001; clear HO_457001; clear BK455; clear BK456; clear HB; have HO_7 := n0_; have HO_10 := n1_; have HO_456001 := n2_; have HO_457001 := n3_; have BK455 := n4_; have BK456 := n5_; have HB := n6_; clear n0_ n1_ n2_ n3_ n4_ n5_ n6_; (try clear hb); (try clear hb2); (try clear hk); (try clear hi)))
        go_ret
        exact ⟨by first | rfl | (simp [errW_none, errW_some] <;> rfl) | (simp [*, errW_none, errW_some] <;> rfl), by repeat (first | (with_reducible first | exact HB.out | apply wA | apply wN | apply wD | refine wS ?_ GE455.out | refine wS ?_ GE456.out) | exact HB.out)⟩
      ·replace c43 := Bool.eq_false_iff.mpr c43
       subst c43
       have H1 : (if (t464 != t469) = true then (if t465 = 0 then (if t470 = 0 then (elenchuslaw04_UnifySides.j2 kj33 a2 true a0_0 l0_1) else (if (t461.length : Int) = (t466.length : Int) then (elenchuslaw04_UnifySides.j2 kj33 a2 false a0_0 l0_1) else (elenchuslaw04_UnifySides.j2 kj33 a2 (t470 == 0) a0_0 l0_1))) else (if (t461.length : Int) = (t466.length : Int) then (elenchuslaw04_UnifySides.j2 kj33 a2 false a0_0 l0_1) else (elenchuslaw04_UnifySides.j2 kj33 a2 false a0_0 l0_1))) else (if (t461.length : Int) = (t466.length : Int) then (elenchuslaw04_UnifySides.j2 kj33 a2 false a0_0 l0_1) else (if t465 = 0 then (elenchuslaw04_UnifySides.j2 kj33 a2 (t470 == 0) a0_0 l0_1) else (elenchuslaw04_UnifySides.j2 kj33 a2 false a0_0 l0_1)))) = some r := by rw [if_neg (show ¬ (false = true) by decide)] at H; exact H
       clear H
       have H := H1
       clear H1
       have HC48 := Aside0.mk H
       clear H
       go_upto_region 7 with (fail)
       go_cut [84] (fun v84 wc => ∃ (kq : Nat) (x84_47 : Bool), v84 = .bool x84_47 ∧ Aside0 (elenchuslaw04_UnifySides.j2 kq a2 x84_47 a0_0 l0_1 = some r) ∧ Aside0 (kq ≤ kj33) ∧ Aside0 (Kd.V k25 25 wc w.heap.size (fun k_ => ((P0_1_ k_ ∨ P1_1_ k_) ∨ w.heap.size ≤ k_) ∧ k_ ≠ gb455 ∧ k_ ≠ gb456) (.slice A0_1 l0_1.length c0_1) l0_1) ∧ Aside0 (Kd.V k25 25 wc w.heap.size (fun k_ => ((P0_1_ k_ ∨ P1_1_ k_) ∨ w.heap.size ≤ k_) ∧ k_ ≠ gb455 ∧ k_ ≠ gb456) (.slice A1_1 l1_1.length c1_1) l1_1) ∧ Aside0 (wc.heap[gb455]? = some (.cells #[.int .i64 a0_0, (.slice A0_1 l0_1.length c0_1)] 25 (0, 0))) ∧ Aside0 (wc.heap[gb456]? = some (.cells #[.int .i64 a1_0, (.slice A1_1 l1_1.length c1_1)] 25 (0, 0))) ∧ Aside0 (Below w.heap.size w wc))
       case first =>
        have H := HC48.out
        clear HC48
        by_cases c49 : (t464 != t469) = true
        ·rw [if_pos c49] at H
         have c49b0 : (t464 != t469) = true := c49
         (try (have c49b1 : decide (t464 = t469) = false := by simpa using c49))
         (try (have c49b2 : (t464 == t469) = false := by simpa using c49))
         (try (have c49b3 : ¬ (t464 = t469) := by simpa using c49))
         clear c49
         (first | rw [c49b0] | (simp only [i64_w, i32_w]; rw [c49b0]) | skip)
         by_cases c50 : t465 = 0
         ·rw [if_pos c50] at H
          have c50b0 : (t465 == 0) = true := beq_iff_eq.mpr c50
          have c50b1 : (t465 != 0) = false := bne_eq_false_iff_eq.mpr c50
          clear c50
          by_cases c51 : t470 = 0
          ·rw [if_pos c51] at H
           have c51b0 : (t470 == 0) = true := beq_iff_eq.mpr c51
           have c51b1 : (t470 != 0) = false := bne_eq_false_iff_eq.mpr c51
           clear c51
           have H' := Aside0.mk H
           clear H
           go_wp2
           go_meet
           case rel => exact ⟨_, (true), (by first | rfl | (simp; done) | (simp [*]; done)), H', ⟨by have := HJ3.out; have := HJ33.out; first | omega | exact Nat.le_refl _⟩, ⟨by (with_reducible repeat (first | apply vA | apply vN | apply vD)); exact HO_456001.out⟩, ⟨by (with_reducible repeat (first | apply vA | apply vN | apply vD)); exact HO_457001.out⟩, ⟨by (with_reducible repeat (first | refine bN ?_ _ | refine bD ?_ | refine bA ?_ _)); exact BK455.out⟩, ⟨by (with_reducible repeat (first | refine bN ?_ _ | refine bD ?_ | refine bA ?_ _)); exact BK456.out⟩, ⟨by repeat (first | (with_reducible first | exact HB.out | apply wA | apply wN | apply wD | refine wS ?_ GE455.out | refine wS ?_ GE456.out) | exact HB.out)⟩⟩
          ·rw [if_neg c51] at H
           have c51b0 : (t470 == 0) = false := beq_eq_false_iff_ne.mpr c51
           have c51b1 : (t470 != 0) = true := bne_iff_ne.mpr c51
           by_cases c52 : (t461.length : Int) = (t466.length : Int)
           ·rw [if_pos c52] at H
            have c52b0 : ((t461.length : Int) == (t466.length : Int)) = true := beq_iff_eq.mpr c52
            have c52b1 : ((t461.length : Int) != (t466.length : Int)) = false := bne_eq_false_iff_eq.mpr c52
            have c52b2 : (t461.length == t466.length) = true := by first | simpa using c52 | (simp at c52 ⊢; omega)
            clear c52
            have H' := Aside0.mk H
            clear H
            obtain ⟨Ao53, co53, eo53⟩ := Kd.V_slice HO_7.out
            subst eo53
            obtain ⟨Ao54, co54, eo54⟩ := Kd.V_slice HO_10.out
            subst eo54
            go_wp2
            go_meet
            case rel => exact ⟨_, (false), (by first | rfl | (simp; done) | (simp [*]; done)), H', ⟨by have := HJ3.out; have := HJ33.out; first | omega | exact Nat.le_refl _⟩, ⟨by (with_reducible repeat (first | apply vA | apply vN | apply vD)); exact HO_456001.out⟩, ⟨by (with_reducible repeat (first | apply vA | apply vN | apply vD)); exact HO_457001.out⟩, ⟨by (with_reducible repeat (first | refine bN ?_ _ | refine bD ?_ | refine bA ?_ _)); exact BK455.out⟩, ⟨by (with_reducible repeat (first | refine bN ?_ _ | refine bD ?_ | refine bA ?_ _)); exact BK456.out⟩, ⟨by repeat (first | (with_reducible first | exact HB.out | apply wA | apply wN | apply wD | refine wS ?_ GE455.out | refine wS ?_ GE456.out) | exact HB.out)⟩⟩
           ·rw [if_neg c52] at H
            have c52b0 : ((t461.length : Int) == (t466.length : Int)) = false := beq_eq_false_iff_ne.mpr c52
            have c52b1 : ((t461.length : Int) != (t466.length : Int)) = true := bne_iff_ne.mpr c52
            have c52b2 : (t461.length == t466.length) = false := by first | simpa using c52 | (simp at c52 ⊢; omega)
            have H' := Aside0.mk H
            clear H
            obtain ⟨Ao55, co55, eo55⟩ := Kd.V_slice HO_7.out
            subst eo55
            obtain ⟨Ao56, co56, eo56⟩ := Kd.V_slice HO_10.out
            subst eo56
            go_wp2
            go_meet
            case rel => exact ⟨_, ((t470 == 0)), (by first | rfl | (simp; done) | (simp [*]; done)), H', ⟨by have := HJ3.out; have := HJ33.out; first | omega | exact Nat.le_refl _⟩, ⟨by (with_reducible repeat (first | apply vA | apply vN | apply vD)); exact HO_456001.out⟩, ⟨by (with_reducible repeat (first | apply vA | apply vN | apply vD)); exact HO_457001.out⟩, ⟨by (with_reducible repeat (first | refine bN ?_ _ | refine bD ?_ | refine bA ?_ _)); exact BK455.out⟩, ⟨by (with_reducible repeat (first | refine bN ?_ _ | refine bD ?_ | refine bA ?_ _)); exact BK456.out⟩, ⟨by repeat (first | (with_reducible first | exact HB.out | apply wA | apply wN | apply wD | refine wS ?_ GE455.out | refine wS ?_ GE456.out) | exact HB.out)⟩⟩
         ·rw [if_neg c50] at H
          have c50b0 : (t465 == 0) = false := beq_eq_false_iff_ne.mpr c50
          have c50b1 : (t465 != 0) = true := bne_iff_ne.mpr c50
          by_cases c57 : (t461.length : Int) = (t466.length : Int)
          ·rw [if_pos c57] at H
           have c57b0 : ((t461.length : Int) == (t466.length : Int)) = true := beq_iff_eq.mpr c57
           have c57b1 : ((t461.length : Int) != (t466.length : Int)) = false := bne_eq_false_iff_eq.mpr c57
           have c57b2 : (t461.length == t466.length) = true := by first | simpa using c57 | (simp at c57 ⊢; omega)
           clear c57
           have H' := Aside0.mk H
           clear H
           obtain ⟨Ao58, co58, eo58⟩ := Kd.V_slice HO_7.out
           subst eo58
           obtain ⟨Ao59, co59, eo59⟩ := Kd.V_slice HO_10.out
           subst eo59
           go_wp2
           go_meet
           case rel => exact ⟨_, (false), (by first | rfl | (simp; done) | (simp [*]; done)), H', ⟨by have := HJ3.out; have := HJ33.out; first | omega | exact Nat.le_refl _⟩, ⟨by (with_reducible repeat (first | apply vA | apply vN | apply vD)); exact HO_456001.out⟩, ⟨by (with_reducible repeat (first | apply vA | apply vN | apply vD)); exact HO_457001.out⟩, ⟨by (with_reducible repeat (first | refine bN ?_ _ | refine bD ?_ | refine bA ?_ _)); exact BK455.out⟩, ⟨by (with_reducible repeat (first | refine bN ?_ _ | refine bD ?_ | refine bA ?_ _)); exact BK456.out⟩, ⟨by repeat (first | (with_reducible first | exact HB.out | apply wA | apply wN | apply wD | refine wS ?_ GE455.out | refine wS ?_ GE456.out) | exact HB.out)⟩⟩
          ·rw [if_neg c57] at H
           have c57b0 : ((t461.length : Int) == (t466.length : Int)) = false := beq_eq_false_iff_ne.mpr c57
           have c57b1 : ((t461.length : Int) != (t466.length : Int)) = true := bne_iff_ne.mpr c57
           have c57b2 : (t461.length == t466.length) = false := by first | simpa using c57 | (simp at c57 ⊢; omega)
           have H' := Aside0.mk H
           clear H
           obtain ⟨Ao60, co60, eo60⟩ := Kd.V_slice HO_7.out
           subst eo60
           obtain ⟨Ao61, co61, eo61⟩ := Kd.V_slice HO_10.out
           subst eo61
           go_wp2
           go_meet
           case rel => exact ⟨_, (false), (by first | rfl | (simp; done) | (simp [*]; done)), H', ⟨by have := HJ3.out; have := HJ33.out; first | omega | exact Nat.le_refl _⟩, ⟨by (with_reducible repeat (first | apply vA | apply vN | apply vD)); exact HO_456001.out⟩, ⟨by (with_reducible repeat (first | apply vA | apply vN | apply vD)); exact HO_457001.out⟩, ⟨by (with_reducible repeat (first | refine bN ?_ _ | refine bD ?_ | refine bA ?_ _)); exact BK455.out⟩, ⟨by (with_reducible repeat (first | refine bN ?_ _ | refine bD ?_ | refine bA ?_ _)); exact BK456.out⟩, ⟨by repeat (first | (with_reducible first | exact HB.out | apply wA | apply wN | apply wD | refine wS ?_ GE455.out | refine wS ?_ GE456.out) | exact HB.out)⟩⟩
        ·rw [if_neg c49] at H
         have c49b0 : (t464 != t469) = false := by simpa using c49
         (try (have c49b1 : decide (t464 = t469) = true := by simpa using c49))
         (try (have c49b2 : (t464 == t469) = true := by simpa using c49))
         clear c49
         (first | rw [c49b0] | (simp only [i64_w, i32_w]; rw [c49b0]) | skip)
         by_cases c62 : (t461.length : Int) = (t466.length : Int)
         ·rw [if_pos c62] at H
          have c62b0 : ((t461.length : Int) == (t466.length : Int)) = true := beq_iff_eq.mpr c62
          have c62b1 : ((t461.length : Int) != (t466.length : Int)) = false := bne_eq_false_iff_eq.mpr c62
          have c62b2 : (t461.length == t466.length) = true := by first | simpa using c62 | (simp at c62 ⊢; omega)
          clear c62
          have H' := Aside0.mk H
          clear H
          obtain ⟨Ao63, co63, eo63⟩ := Kd.V_slice HO_7.out
          subst eo63
          obtain ⟨Ao64, co64, eo64⟩ := Kd.V_slice HO_10.out
          subst eo64
          go_wp2
          go_meet
          case rel => exact ⟨_, (false), (by first | rfl | (simp; done) | (simp [*]; done)), H', ⟨by have := HJ3.out; have := HJ33.out; first | omega | exact Nat.le_refl _⟩, ⟨by (with_reducible repeat (first | apply vA | apply vN | apply vD)); exact HO_456001.out⟩, ⟨by (with_reducible repeat (first | apply vA | apply vN | apply vD)); exact HO_457001.out⟩, ⟨by (with_reducible repeat (first | refine bN ?_ _ | refine bD ?_ | refine bA ?_ _)); exact BK455.out⟩, ⟨by (with_reducible repeat (first | refine bN ?_ _ | refine bD ?_ | refine bA ?_ _)); exact BK456.out⟩, ⟨by repeat (first | (with_reducible first | exact HB.out | apply wA | apply wN | apply wD | refine wS ?_ GE455.out | refine wS ?_ GE456.out) | exact HB.out)⟩⟩
         ·rw [if_neg c62] at H
          have c62b0 : ((t461.length : Int) == (t466.length : Int)) = false := beq_eq_false_iff_ne.mpr c62
          have c62b1 : ((t461.length : Int) != (t466.length : Int)) = true := bne_iff_ne.mpr c62
          have c62b2 : (t461.length == t466.length) = false := by first | simpa using c62 | (simp at c62 ⊢; omega)
          by_cases c65 : t465 = 0
          ·rw [if_pos c65] at H
           have c65b0 : (t465 == 0) = true := beq_iff_eq.mpr c65
           have c65b1 : (t465 != 0) = false := bne_eq_false_iff_eq.mpr c65
           clear c65
           have H' := Aside0.mk H
           clear H
           obtain ⟨Ao66, co66, eo66⟩ := Kd.V_slice HO_7.out
           subst eo66
           obtain ⟨Ao67, co67, eo67⟩ := Kd.V_slice HO_10.out
           subst eo67
           go_wp2
           go_meet
           case rel => exact ⟨_, ((t470 == 0)), (by first | rfl | (simp; done) | (simp [*]; done)), H', ⟨by have := HJ3.out; have := HJ33.out; first | omega | exact Nat.le_refl _⟩, ⟨by (with_reducible repeat (first | apply vA | apply vN | apply vD)); exact HO_456001.out⟩, ⟨by (with_reducible repeat (first | apply vA | apply vN | apply vD)); exact HO_457001.out⟩, ⟨by (with_reducible repeat (first | refine bN ?_ _ | refine bD ?_ | refine bA ?_ _)); exact BK455.out⟩, ⟨by (with_reducible repeat (first | refine bN ?_ _ | refine bD ?_ | refine bA ?_ _)); exact BK456.out⟩, ⟨by repeat (first | (with_reducible first | exact HB.out | apply wA | apply wN | apply wD | refine wS ?_ GE455.out | refine wS ?_ GE456.out) | exact HB.out)⟩⟩
          ·rw [if_neg c65] at H
           have c65b0 : (t465 == 0) = false := beq_eq_false_iff_ne.mpr c65
           have c65b1 : (t465 != 0) = true := bne_iff_ne.mpr c65
           have H' := Aside0.mk H
           clear H
           obtain ⟨Ao68, co68, eo68⟩ := Kd.V_slice HO_7.out
           subst eo68
           obtain ⟨Ao69, co69, eo69⟩ := Kd.V_slice HO_10.out
           subst eo69
           go_wp2
           go_meet
           case rel => exact ⟨_, (false), (by first | rfl | (simp; done) | (simp [*]; done)), H', ⟨by have := HJ3.out; have := HJ33.out; first | omega | exact Nat.le_refl _⟩, ⟨by (with_reducible repeat (first | apply vA | apply vN | apply vD)); exact HO_456001.out⟩, ⟨by (with_reducible repeat (first | apply vA | apply vN | apply vD)); exact HO_457001.out⟩, ⟨by (with_reducible repeat (first | refine bN ?_ _ | refine bD ?_ | refine bA ?_ _)); exact BK455.out⟩, ⟨by (with_reducible repeat (first | refine bN ?_ _ | refine bD ?_ | refine bA ?_ _)); exact BK456.out⟩, ⟨by repeat (first | (with_reducible first | exact HB.out | apply wA | apply wN | apply wD | refine wS ?_ GE455.out | refine wS ?_ GE456.out) | exact HB.out)⟩⟩
       case rest =>
        clear HC48
        try clear c1
        try clear c2
        try clear p2
        try clear c3
        try clear c4
        try clear c5
        try clear c6
        try clear c8
        try clear c9
        try clear c9b0
        try clear c10
        try clear c17
        try clear c24
        try clear c31
        try clear c35
        try clear c42
        try clear c42b0
        try clear c42b1
        try clear c43
        try clear c45
        try clear c49
        try clear c49b0
        try clear c49b1
        try clear c49b2
        try clear c50
        try clear c50b0
        try clear c50b1
        try clear c51
        try clear c51b0
        try clear c51b1
        try clear c52
        try clear c52b0
        try clear c52b1
        try clear c52b2
        try clear c54
        try clear c55
        try clear c57
        try clear c57b0
        try clear c57b1
        try clear c57b2
        try clear c62
        try clear c62b0
        try clear c62b1
        try clear c62b2
        try clear c65
        try clear c65b0
        try clear c65b1
        try clear hcz11_0
        try clear hcz11_1
        try clear hcz12_0
        try clear hcz12_1
        try clear hcz18_0
        try clear hcz18_1
        try clear hcz19_0
        try clear hcz19_1
        try clear hcz25_0
        try clear hcz25_1
        try clear hcz26_0
        try clear hcz26_1
        try clear hcz36_0
        try clear hcz36_1
        try clear hcz37_0
        try clear hcz37_1
        try clear hcz39_0
        try clear hcz39_1
        try clear hcz40_0
        try clear hcz40_1
        try clear hfz11_0
        try clear hfz11_1
        try clear hfz12_0
        try clear hfz12_1
        try clear hfz18_0
        try clear hfz18_1
        try clear hfz19_0
        try clear hfz19_1
        try clear hfz25_0
        try clear hfz25_1
        try clear hfz26_0
        try clear hfz26_1
        try clear hfz36_0
        try clear hfz36_1
        try clear hfz37_0
        try clear hfz37_1
        try clear hfz39_0
        try clear hfz39_1
        try clear hfz40_0
        try clear hfz40_1
        try clear p2
        obtain ⟨kq, x84_47, rfl, HA, HJ47, HO_456001, HO_457001, BK455, BK456, HB⟩ := hcut
        cases kq with
        | zero => exact absurd HA.out (by simp [elenchuslaw04_UnifySides.j2])
        | succ kj47 =>
         have H := HA.out
         clear HA
         simp only [elenchuslaw04_UnifySides.j2] at H
         by_cases c70 : x84_47 = true
         ·subst c70
          have H1 : (some false) = some r := by rw [if_pos rfl] at H; exact H
          clear H
          have H := H1
          clear H1
          obtain rfl := Option.some.inj H
          go_wp2
          go_ret
          exact ⟨by first | rfl | (simp [errW_none, errW_some] <;> rfl) | (simp [*, errW_none, errW_some] <;> rfl), by repeat (first | (with_reducible first | exact HB.out | apply wA | apply wN | apply wD | refine wS ?_ GE455.out | refine wS ?_ GE456.out) | exact HB.out)⟩
         ·replace c70 := Bool.eq_false_iff.mpr c70
          subst c70
          have H1 : ((unify_Mgu.f a0_0 l0_1 a0_0 l0_1).bind fun bt472 => ((elenchusref01_Var.f a2).bind fun bt477 => ((unify_Mgu.f bt477.1 bt477.2 a0_0 l0_1).bind fun bt481 => ((elenchuslaw04_awake.f).bind fun t486 => (if t486 = true then (if bt472.2.2 = 1 then (if bt481.2.2 = 0 then (if a0_0 = (wrap64 ((-1) - a2)) then (some (bt481.2.1 == true)) else ((term_Vars.f a0_0 l0_1).bind fun t487 => ((elenchusref01_In.f a2 t487).bind fun t490 => (some (bt481.2.1 == (!t490)))))) else (some true)) else (if bt472.2.1 = true then (if (bt472.1.length : Int) = 0 then (if bt481.2.2 = 0 then (if a0_0 = (wrap64 ((-1) - a2)) then (some (bt481.2.1 == true)) else ((term_Vars.f a0_0 l0_1).bind fun t491 => ((elenchusref01_In.f a2 t491).bind fun t494 => (some (bt481.2.1 == (!t494)))))) else (some true)) else (some false)) else (some false))) else (some false)))))) = some r := by rw [if_neg (show ¬ (false = true) by decide)] at H; exact H
          clear H
          have H := H1
          clear H1
          replace H := Option.bind_eq_some_iff.mp H
          obtain ⟨⟨t472, t475, t476⟩, A710, H⟩ := H
          replace H : ((elenchusref01_Var.f a2).bind fun bt477 => ((unify_Mgu.f bt477.1 bt477.2 a0_0 l0_1).bind fun bt481 => ((elenchuslaw04_awake.f).bind fun t486 => (if t486 = true then (if t476 = 1 then (if bt481.2.2 = 0 then (if a0_0 = (wrap64 ((-1) - a2)) then (some (bt481.2.1 == true)) else ((term_Vars.f a0_0 l0_1).bind fun t487 => ((elenchusref01_In.f a2 t487).bind fun t490 => (some (bt481.2.1 == (!t490)))))) else (some true)) else (if t475 = true then (if (t472.length : Int) = 0 then (if bt481.2.2 = 0 then (if a0_0 = (wrap64 ((-1) - a2)) then (some (bt481.2.1 == true)) else ((term_Vars.f a0_0 l0_1).bind fun t491 => ((elenchusref01_In.f a2 t491).bind fun t494 => (some (bt481.2.1 == (!t494)))))) else (some true)) else (some false)) else (some false))) else (some false))))) = some r := H
          have A71 := Aside0.mk A710
          clear A710
          replace H := Option.bind_eq_some_iff.mp H
          obtain ⟨⟨t477, t478⟩, A720, H⟩ := H
          replace H : ((unify_Mgu.f t477 t478 a0_0 l0_1).bind fun bt481 => ((elenchuslaw04_awake.f).bind fun t486 => (if t486 = true then (if t476 = 1 then (if bt481.2.2 = 0 then (if a0_0 = (wrap64 ((-1) - a2)) then (some (bt481.2.1 == true)) else ((term_Vars.f a0_0 l0_1).bind fun t487 => ((elenchusref01_In.f a2 t487).bind fun t490 => (some (bt481.2.1 == (!t490)))))) else (some true)) else (if t475 = true then (if (t472.length : Int) = 0 then (if bt481.2.2 = 0 then (if a0_0 = (wrap64 ((-1) - a2)) then (some (bt481.2.1 == true)) else ((term_Vars.f a0_0 l0_1).bind fun t491 => ((elenchusref01_In.f a2 t491).bind fun t494 => (some (bt481.2.1 == (!t494)))))) else (some true)) else (some false)) else (some false))) else (some false)))) = some r := H
          have A72 := Aside0.mk A720
          clear A720
          replace H := Option.bind_eq_some_iff.mp H
          obtain ⟨⟨t481, t484, t485⟩, A730, H⟩ := H
          replace H : ((elenchuslaw04_awake.f).bind fun t486 => (if t486 = true then (if t476 = 1 then (if t485 = 0 then (if a0_0 = (wrap64 ((-1) - a2)) then (some (t484 == true)) else ((term_Vars.f a0_0 l0_1).bind fun t487 => ((elenchusref01_In.f a2 t487).bind fun t490 => (some (t484 == (!t490)))))) else (some true)) else (if t475 = true then (if (t472.length : Int) = 0 then (if t485 = 0 then (if a0_0 = (wrap64 ((-1) - a2)) then (some (t484 == true)) else ((term_Vars.f a0_0 l0_1).bind fun t491 => ((elenchusref01_In.f a2 t491).bind fun t494 => (some (t484 == (!t494)))))) else (some true)) else (some false)) else (some false))) else (some false))) = some r := H
          have A73 := Aside0.mk A730
          clear A730
          replace H := Option.bind_eq_some_iff.mp H
          obtain ⟨t486, A740, H⟩ := H
          replace H : (if t486 = true then (if t476 = 1 then (if t485 = 0 then (if a0_0 = (wrap64 ((-1) - a2)) then (some (t484 == true)) else ((term_Vars.f a0_0 l0_1).bind fun t487 => ((elenchusref01_In.f a2 t487).bind fun t490 => (some (t484 == (!t490)))))) else (some true)) else (if t475 = true then (if (t472.length : Int) = 0 then (if t485 = 0 then (if a0_0 = (wrap64 ((-1) - a2)) then (some (t484 == true)) else ((term_Vars.f a0_0 l0_1).bind fun t491 => ((elenchusref01_In.f a2 t491).bind fun t494 => (some (t484 == (!t494)))))) else (some true)) else (some false)) else (some false))) else (some false)) = some r := H
          have A74 := Aside0.mk A740
          clear A740
          by_cases c75 : t486 = true
          ·subst c75
           have H1 : (if t476 = 1 then (if t485 = 0 then (if a0_0 = (wrap64 ((-1) - a2)) then (some (t484 == true)) else ((term_Vars.f a0_0 l0_1).bind fun t487 => ((elenchusref01_In.f a2 t487).bind fun t490 => (some (t484 == (!t490)))))) else (some true)) else (if t475 = true then (if (t472.length : Int) = 0 then (if t485 = 0 then (if a0_0 = (wrap64 ((-1) - a2)) then (some (t484 == true)) else ((term_Vars.f a0_0 l0_1).bind fun t491 => ((elenchusref01_In.f a2 t491).bind fun t494 => (some (t484 == (!t494)))))) else (some true)) else (some false)) else (some false))) = some r := by rw [if_pos rfl] at H; exact H
           clear H
           have H := H1
           clear H1
           by_cases c76 : t476 = 1
           ·rw [if_pos c76] at H
            have c76b0 : (t476 == 1) = true := beq_iff_eq.mpr c76
            have c76b1 : (t476 != 1) = false := bne_eq_false_iff_eq.mpr c76
            clear c76
            by_cases c77 : t485 = 0
            ·rw [if_pos c77] at H
             have c77b0 : (t485 == 0) = true := beq_iff_eq.mpr c77
             have c77b1 : (t485 != 0) = false := bne_eq_false_iff_eq.mpr c77
             clear c77
             by_cases c78 : a0_0 = (wrap64 ((-1) - a2))
             ·rw [if_pos c78] at H
              have c78b0 : (a0_0 == (wrap64 ((-1) - a2))) = true := beq_iff_eq.mpr c78
              have c78b1 : (a0_0 != (wrap64 ((-1) - a2))) = false := bne_eq_false_iff_eq.mpr c78
              clear c78
              obtain rfl := Option.some.inj H
              have hnb79 := NB455_456.out
              have hnc79 := NB456_455.out
              have hcz80_0 : wc.cell? ⟨gb455, 0, none⟩ = some (.int .i64 a0_0) := (blk_cell BK455.out 0).trans rfl
              have hcz80_1 : wc.cell? ⟨gb455, 1, none⟩ = some (.slice A0_1 l0_1.length c0_1) := (blk_cell BK455.out 1).trans rfl
              have hfz80_0 := blk_frozen BK455.out 0
              have hfz80_1 := blk_frozen BK455.out 1
              try go_wp2_with (first | ((with_reducible refine gate_callee (f := 55) rfl ?_); refine goesL_ (some 88) rfl rfl Try.func55 (by kernel_rfl) rfl #[.agg #[.int .i64 a0_0, .slice A0_1 l0_1.length c0_1], .agg #[.int .i64 a0_0, .slice A0_1 l0_1.length c0_1]] rfl (by (try simp only [List.map_toArray, List.map_cons, List.map_nil]); first | done | rfl | (simp only [List.length_drop, List.length_take]; rfl)) ?_; (with_reducible refine (unify_Mgu.calls a0_0 (fun k_ => (((P0_1_ k_ ∨ P1_1_ k_) ∨ w.heap.size ≤ k_) ∧ (k_ ≠ gb455 ∧ k_ ≠ gb456))) _ _ l0_1 a0_0 (fun k_ => (((P0_1_ k_ ∨ P1_1_ k_) ∨ w.heap.size ≤ k_) ∧ (k_ ≠ gb455 ∧ k_ ≠ gb456))) _ _ l0_1 t472 t475 t476 _ ?side1 ?side2 A71.out).mono ?_); (case side1 => exact HO_456001.out); (case side2 => exact HO_456001.out); rintro e w81 ⟨v473, rfl, ho0, hb⟩; refine ⟨_, rfl, ?_⟩; have n0_ := Aside0.mk (Kd.V_below (by (with_reducible repeat (first | apply vA | apply vN | apply vD)); exact HO_456001.out) hb); have n1_ := Aside0.mk (Kd.V_below (by (with_reducible repeat (first | apply vA | apply vN | apply vD)); exact HO_457001.out) hb); have n2_ := Aside0.mk (Kd.V_lower (Kd.V_mono (ok' := fun k_ => ((P0_1_ k_ ∨ P1_1_ k_) ∨ w.heap.size ≤ k_) ∧ k_ ≠ gb455 ∧ k_ ≠ gb456) ho0 (fun k_ hk_ => ⟨Or.elim hk_ (fun hs_ => Or.elim hs_ (fun hs_ => hs_.1) (fun hs_ => hs_.1)) (fun hn_ => (.inr (Nat.le_trans (below_size (by repeat (first | (with_reducible first | exact HB.out | apply wA | apply wN | apply wD | refine wS ?_ GE455.out | refine wS ?_ GE456.out) | exact HB.out))) hn_))), Or.elim hk_ (fun hs_ => Or.elim hs_ (fun hs_ => hs_.2.1) (fun hs_ => hs_.2.1)) (fun hn_ => (Kd.freshB (g := gb455) (o := .cells #[.int .i64 a0_0, .slice A0_1 l0_1.length c0_1] 25 (0, 0)) (by (with_reducible repeat (first | refine bN ?_ _ | refine bD ?_ | refine bA ?_ _)); exact BK455.out) k_ hn_)), Or.elim hk_ (fun hs_ => Or.elim hs_ (fun hs_ => hs_.2.2) (fun hs_ => hs_.2.2)) (fun hn_ => (Kd.freshB (g := gb456) (o := .cells #[.int .i64 a1_0, .slice A1_1 l1_1.length c1_1] 25 (0, 0)) (by (with_reducible repeat (first | refine bN ?_ _ | refine bD ?_ | refine bA ?_ _)); exact BK456.out) k_ hn_))⟩)) (below_size (by repeat (first | (with_reducible first | exact HB.out | apply wA | apply wN | apply wD | refine wS ?_ GE455.out | refine wS ?_ GE456.out) | exact HB.out)))); have n3_ := Aside0.mk (blk_below (g := gb455) (o := .cells #[.int .i64 a0_0, .slice A0_1 l0_1.length c0_1] 25 (0, 0)) (by (with_reducible repeat (first | refine bN ?_ _ | refine bD ?_ | refine bA ?_ _)); exact BK455.out) hb); have n4_ := Aside0.mk (blk_below (g := gb456) (o := .cells #[.int .i64 a1_0, .slice A1_1 l1_1.length c1_1] 25 (0, 0)) (by (with_reducible repeat (first | refine bN ?_ _ | refine bD ?_ | refine bA ?_ _)); exact BK456.out) hb); have n5_ := Aside0.mk (below_step (by repeat (first | (with_reducible first | exact HB.out | apply wA | apply wN | apply wD | refine wS ?_ GE455.out | refine wS ?_ GE456.out) | exact HB.out)) hb); clear HO_456001; clear HO_457001; clear BK455; clear BK456; clear HB; have HO_456001 := n0_; have HO_457001 := n1_; have HO474 := n2_; have BK455 := n3_; have BK456 := n4_; have HB := n5_; clear n0_ n1_ n2_ n3_ n4_ n5_; (try clear hb); (try clear hb2); (try clear hk); (try clear hi); (try clear ho0)))
              have n0_ := Aside0.mk (Kd.V_drew HO_456001.out)
              have n1_ := Aside0.mk (Kd.V_drew HO_457001.out)
              have n2_ := Aside0.mk (Kd.V_drew HO474.out)
              have n3_ := Aside0.mk (blk_drew BK455.out)
              have n4_ := Aside0.mk (blk_drew BK456.out)
              have n5_ := Aside0.mk (below_drew1 HB.out)
              clear HO_456001
              clear HO_457001
              clear HO474
              clear BK455
              clear BK456
              clear HB
              have HO_456001 := n0_
              have HO_457001 := n1_
              have HO474 := n2_
              have BK455 := n3_
              have BK456 := n4_
              have HB := n5_
              clear n0_ n1_ n2_ n3_ n4_ n5_
              refine start_ (n := 11) (S := fun w' => w'.cell? ⟨gb455, 0, none⟩ = some (.int .i64 a0_0) ∧ w'.cell? ⟨gb455, 1, none⟩ = some (.slice A0_1 l0_1.length c0_1)) (ds := []) #[F_, F_, F_, F_, F_, F_, F_, F_, F_, F_, F_] (by kernel_rfl) rfl rfl ⟨(blk_cell BK455.out 0).trans rfl, (blk_cell BK455.out 1).trans rfl⟩ (fun hHeld => ?_); refine with_tabW elenchuslaw04_UnifySides.tab10 elenchuslaw04_UnifySides.bits10 (fun HT_ HW_ => ?_)
              generalize w81.drew = w82 at HO_456001 HO_457001 HO474 BK455 BK456 HB hHeld ⊢
              refine pure_ (i := 0) (N := some 93) (v := ?_) (a' := ?_) #[T_, F_, F_, F_, F_, F_, F_, F_, F_, F_, F_] rfl rfl (any_of HT_.out (by kernel_rfl)) (fun _ _ _ h => h) (Or.inl ⟨by rfl, ?_⟩) ?_ ?_
              rotate_left
              ·intro w'
               go_simp
               with_reducible rfl
              rotate_left
              ·simp only [Act.put, sT, s0, sS, i64_w, i32_w]
               rfl
              refine take_ (i := 2) (N := some 95) (v := ?_) (a' := ?_) #[T_, F_, T_, F_, F_, F_, F_, F_, F_, F_, F_] rfl rfl (take_ofW HT_.out HW_.out (by kernel_rfl)) (fun _ _ _ h => h) (Or.inl ⟨by rfl, ?_⟩) hHeld ?_ ?_
              rotate_left
              ·rintro w' ⟨s0, s1⟩
               go_simp
               with_reducible rfl
              rotate_left
              ·simp only [Act.put, sT, s0, sS, i64_w, i32_w]
               rfl
              refine one_ (i := 1) (N := some 94) #[T_, T_, T_, F_, F_, F_, F_, F_, F_, F_, F_] rfl rfl (one_of HT_.out (by kernel_rfl)) (by decide) (fun K hK => ?_)
              refine goes_ Try.func39 (by kernel_rfl) rfl #[.int .i64 a2] (by rfl) rfl rfl (by (try simp only [List.map_toArray, List.map_cons, List.map_nil]); first | done | rfl | (simp only [List.length_drop, List.length_take]; rfl)) ?_
              with_reducible refine (elenchusref01_Var.calls a2 t477 t478 _ A72.out).mono ?_
              rintro e w83 ⟨v479, rfl, ho0, hb⟩
              refine ⟨_, rfl, ?_⟩
              have n0_ := Aside0.mk (Kd.V_elder' (by (with_reducible repeat (first | apply vA | apply vN | apply vD)); exact HO_456001.out) (by first | exact Kd.N_base ho0 | exact Kd.R_base ho0) hb)
              have n1_ := Aside0.mk (Kd.V_elder' (by (with_reducible repeat (first | apply vA | apply vN | apply vD)); exact HO_457001.out) (by first | exact Kd.N_base ho0 | exact Kd.R_base ho0) hb)
              have n2_ := Aside0.mk (Kd.V_elder' (by (with_reducible repeat (first | apply vA | apply vN | apply vD)); exact HO474.out) (by first | exact Kd.N_base ho0 | exact Kd.R_base ho0) hb)
              have n3_ := Aside0.mk (Kd.N_lower (Kd.N_mono (ok' := fun k_ => ((P0_1_ k_ ∨ P1_1_ k_) ∨ w.heap.size ≤ k_) ∧ k_ ≠ gb455 ∧ k_ ≠ gb456) (Kd.R_N (Kd.R_bound ho0)) (fun k_ hk_ => ⟨(.inr (Nat.le_trans (below_size (by repeat (first | (with_reducible first | exact HB.out | apply wA | apply wN | apply wD | refine wS ?_ GE455.out | refine wS ?_ GE456.out) | exact HB.out))) hk_.2.1)), (Kd.freshB (g := gb455) (o := .cells #[.int .i64 a0_0, .slice A0_1 l0_1.length c0_1] 25 (0, 0)) (by (with_reducible repeat (first | refine bN ?_ _ | refine bD ?_ | refine bA ?_ _)); exact BK455.out) k_ hk_.2.1), (Kd.freshB (g := gb456) (o := .cells #[.int .i64 a1_0, .slice A1_1 l1_1.length c1_1] 25 (0, 0)) (by (with_reducible repeat (first | refine bN ?_ _ | refine bD ?_ | refine bA ?_ _)); exact BK456.out) k_ hk_.2.1)⟩)) (below_size (by repeat (first | (with_reducible first | exact HB.out | apply wA | apply wN | apply wD | refine wS ?_ GE455.out | refine wS ?_ GE456.out) | exact HB.out))))
              have n4_ := Aside0.mk (blk_below (g := gb455) (o := .cells #[.int .i64 a0_0, .slice A0_1 l0_1.length c0_1] 25 (0, 0)) (by (with_reducible repeat (first | refine bN ?_ _ | refine bD ?_ | refine bA ?_ _)); exact BK455.out) hb)
              have n5_ := Aside0.mk (blk_below (g := gb456) (o := .cells #[.int .i64 a1_0, .slice A1_1 l1_1.length c1_1] 25 (0, 0)) (by (with_reducible repeat (first | refine bN ?_ _ | refine bD ?_ | refine bA ?_ _)); exact BK456.out) hb)
              have n6_ := Aside0.mk (below_step (by repeat (first | (with_reducible first | exact HB.out | apply wA | apply wN | apply wD | refine wS ?_ GE455.out | refine wS ?_ GE456.out) | exact HB.out)) hb)
              clear HO_456001
              clear HO_457001
              clear HO474
              clear BK455
              clear BK456
              clear HB
              have HO_456001 := n0_
              have HO_457001 := n1_
              have HO474 := n2_
              have HO480 := n3_
              have BK455 := n4_
              have BK456 := n5_
              have HB := n6_
              clear n0_ n1_ n2_ n3_ n4_ n5_ n6_
              (try clear hb)
              (try clear hb2)
              (try clear hk)
              (try clear hi)
              (try clear ho0)
              obtain ⟨Ao84, co84, eo84⟩ := Kd.N_slice HO480.out
              (first | subst eo84 | (injection eo84 with f1_ f2_ f3_; have f4_ := f1_.symm; have f5_ := f3_.symm; clear f1_ f2_ f3_; subst f4_; subst f5_))
              refine hK.out _ _ ⟨(blk_cell BK455.out 0).trans rfl, (blk_cell BK455.out 1).trans rfl⟩ (fun hHeld => ?_)
              clear hK K
              refine norm_ (a' := ?_) ?_ ?_
              rotate_left
              ·show Act.put _ (some 94) _ = _
               simp only [Act.put, sT, s0, sS, i64_w, i32_w]
               rfl
              refine one_ (i := 3) (N := some 96) #[T_, T_, T_, T_, F_, F_, F_, F_, F_, F_, F_] rfl rfl (one_of HT_.out (by kernel_rfl)) (by decide) (fun K hK => ?_)
              refine goes_ Try.func55 (by kernel_rfl) rfl #[.agg #[.int .i64 t477, .slice Ao84 t478.length co84], .agg #[.int .i64 a0_0, .slice A0_1 l0_1.length c0_1]] (by rfl) rfl rfl (by (try simp only [List.map_toArray, List.map_cons, List.map_nil]); first | done | rfl | (simp only [List.length_drop, List.length_take]; rfl)) ?_
              with_reducible refine (unify_Mgu.calls t477 (fun k_ => (((P0_1_ k_ ∨ P1_1_ k_) ∨ w.heap.size ≤ k_) ∧ (k_ ≠ gb455 ∧ k_ ≠ gb456))) _ _ t478 a0_0 (fun k_ => ((((P0_1_ k_ ∨ P1_1_ k_) ∨ w.heap.size ≤ k_) ∧ (k_ ≠ gb455 ∧ k_ ≠ gb456)) ∧ some k_ ≠ (.slice Ao84 t478.length co84 : Value).ownBlock)) _ _ l0_1 t481 t484 t485 _ ?side1 ?side2 A73.out).mono ?_
              (case side1 => exact Kd.N_V (HO480.out))
              (case side2 => exact HO_456001.out)
              rintro e w85 ⟨v482, rfl, ho0, hb⟩
              refine ⟨_, rfl, ?_⟩
              have n0_ := Aside0.mk (Kd.V_below (by (with_reducible repeat (first | apply vA | apply vN | apply vD)); exact HO_456001.out) hb)
              have n1_ := Aside0.mk (Kd.V_below (by (with_reducible repeat (first | apply vA | apply vN | apply vD)); exact HO_457001.out) hb)
              have n2_ := Aside0.mk (Kd.V_below (by (with_reducible repeat (first | apply vA | apply vN | apply vD)); exact HO474.out) hb)
              have n3_ := Aside0.mk (Kd.N_below (by (with_reducible repeat (first | apply nA | apply nN | apply nD)); exact HO480.out) hb)
              have n4_ := Aside0.mk (Kd.V_lower (Kd.V_mono (ok' := fun k_ => ((P0_1_ k_ ∨ P1_1_ k_) ∨ w.heap.size ≤ k_) ∧ k_ ≠ gb455 ∧ k_ ≠ gb456) ho0 (fun k_ hk_ => ⟨Or.elim hk_ (fun hs_ => Or.elim hs_ (fun hs_ => hs_.1) (fun hs_ => hs_.1.1)) (fun hn_ => (.inr (Nat.le_trans (below_size (by repeat (first | (with_reducible first | exact HB.out | apply wA | apply wN | apply wD | refine wS ?_ GE455.out | refine wS ?_ GE456.out) | exact HB.out))) hn_))), Or.elim hk_ (fun hs_ => Or.elim hs_ (fun hs_ => hs_.2.1) (fun hs_ => hs_.1.2.1)) (fun hn_ => (Kd.freshB (g := gb455) (o := .cells #[.int .i64 a0_0, .slice A0_1 l0_1.length c0_1] 25 (0, 0)) (by (with_reducible repeat (first | refine bN ?_ _ | refine bD ?_ | refine bA ?_ _)); exact BK455.out) k_ hn_)), Or.elim hk_ (fun hs_ => Or.elim hs_ (fun hs_ => hs_.2.2) (fun hs_ => hs_.1.2.2)) (fun hn_ => (Kd.freshB (g := gb456) (o := .cells #[.int .i64 a1_0, .slice A1_1 l1_1.length c1_1] 25 (0, 0)) (by (with_reducible repeat (first | refine bN ?_ _ | refine bD ?_ | refine bA ?_ _)); exact BK456.out) k_ hn_))⟩)) (below_size (by repeat (first | (with_reducible first | exact HB.out | apply wA | apply wN | apply wD | refine wS ?_ GE455.out | refine wS ?_ GE456.out) | exact HB.out))))
              have n5_ := Aside0.mk (blk_below (g := gb455) (o := .cells #[.int .i64 a0_0, .slice A0_1 l0_1.length c0_1] 25 (0, 0)) (by (with_reducible repeat (first | refine bN ?_ _ | refine bD ?_ | refine bA ?_ _)); exact BK455.out) hb)
              have n6_ := Aside0.mk (blk_below (g := gb456) (o := .cells #[.int .i64 a1_0, .slice A1_1 l1_1.length c1_1] 25 (0, 0)) (by (with_reducible repeat (first | refine bN ?_ _ | refine bD ?_ | refine bA ?_ _)); exact BK456.out) hb)
              have n7_ := Aside0.mk (below_step (by repeat (first | (with_reducible first | exact HB.out | apply wA | apply wN | apply wD | refine wS ?_ GE455.out | refine wS ?_ GE456.out) | exact HB.out)) hb)
              clear HO_456001
              clear HO_457001
              clear HO474
              clear HO480
              clear BK455
              clear BK456
              clear HB
              have HO_456001 := n0_
              have HO_457001 := n1_
              have HO474 := n2_
              have HO480 := n3_
              have HO483 := n4_
              have BK455 := n5_
              have BK456 := n6_
              have HB := n7_
              clear n0_ n1_ n2_ n3_ n4_ n5_ n6_ n7_
              (try clear hb)
              (try clear hb2)
              (try clear hk)
              (try clear hi)
              (try clear ho0)
              refine hK.out _ _ ⟨(blk_cell BK455.out 0).trans rfl, (blk_cell BK455.out 1).trans rfl⟩ (fun hHeld => ?_)
              clear hK K
              refine norm_ (a' := ?_) ?_ ?_
              rotate_left
              ·show Act.put _ (some 96) _ = _
               simp only [Act.put, sT, s0, sS, i64_w, i32_w]
               rfl
              refine pure_ (i := 4) (N := some 92) (v := ?_) (a' := ?_) #[T_, T_, T_, T_, T_, F_, F_, F_, F_, F_, F_] rfl rfl (any_of HT_.out (by kernel_rfl)) (fun _ _ _ h => h) (Or.inl ⟨by rfl, ?_⟩) ?_ ?_
              rotate_left
              ·intro w'
               go_simp
               with_reducible rfl
              rotate_left
              ·simp only [Act.put, sT, s0, sS, i64_w, i32_w]
               rfl
              refine pure_ (i := 5) (N := some 97) (v := ?_) (a' := ?_) #[T_, T_, T_, T_, T_, T_, F_, F_, F_, F_, F_] rfl rfl (any_of HT_.out (by kernel_rfl)) (fun _ _ _ h => h) (Or.inl ⟨by rfl, ?_⟩) ?_ ?_
              rotate_left
              ·intro w'
               go_simp
               with_reducible rfl
              rotate_left
              ·simp only [Act.put, sT, s0, sS, i64_w, i32_w]
               rfl
              refine pure_ (i := 6) (N := some 98) (v := ?_) (a' := ?_) #[T_, T_, T_, T_, T_, T_, T_, F_, F_, F_, F_] rfl rfl (any_of HT_.out (by kernel_rfl)) (fun _ _ _ h => h) (Or.inl ⟨by rfl, ?_⟩) ?_ ?_
              rotate_left
              ·intro w'
               go_simp
               with_reducible rfl
              rotate_left
              ·simp only [Act.put, sT, s0, sS, i64_w, i32_w]
               rfl
              refine pure_ (i := 7) (N := some 99) (v := ?_) (a' := ?_) #[T_, T_, T_, T_, T_, T_, T_, T_, F_, F_, F_] rfl rfl (any_of HT_.out (by kernel_rfl)) (fun _ _ _ h => h) (Or.inl ⟨by rfl, ?_⟩) ?_ ?_
              rotate_left
              ·intro w'
               go_simp
               with_reducible rfl
              rotate_left
              ·simp only [Act.put, sT, s0, sS, i64_w, i32_w]
               rfl
              refine pure_ (i := 8) (N := some 16) (v := ?_) (a' := ?_) #[T_, T_, T_, T_, T_, T_, T_, T_, T_, F_, F_] rfl rfl (any_of HT_.out (by kernel_rfl)) (fun _ _ _ h => h) (Or.inl ⟨by rfl, ?_⟩) ?_ ?_
              rotate_left
              ·intro w'
               go_simp
               with_reducible rfl
              rotate_left
              ·simp only [Act.put, sT, s0, sS, i64_w, i32_w]
               rfl
              refine pure_ (i := 9) (N := some 17) (v := ?_) (a' := ?_) #[T_, T_, T_, T_, T_, T_, T_, T_, T_, T_, F_] rfl rfl (any_of HT_.out (by kernel_rfl)) (fun _ _ _ h => h) (Or.inl ⟨by rfl, ?_⟩) ?_ ?_
              rotate_left
              ·intro w'
               go_simp
               with_reducible rfl
              rotate_left
              ·simp only [Act.put, sT, s0, sS, i64_w, i32_w]
               rfl
              refine pure_ (i := 10) (N := some 18) (v := ?_) (a' := ?_) #[T_, T_, T_, T_, T_, T_, T_, T_, T_, T_, T_] rfl rfl (any_of HT_.out (by kernel_rfl)) (fun _ _ _ h => h) (Or.inl ⟨by rfl, ?_⟩) ?_ ?_
              rotate_left
              ·intro w'
               go_simp
               with_reducible rfl
              rotate_left
              ·simp only [Act.put, sT, s0, sS, i64_w, i32_w]
               rfl
              refine done_ (done_of HT_.out (by kernel_rfl)) ?_
              have hcz86_0 : w85.cell? ⟨gb455, 0, none⟩ = some (.int .i64 a0_0) := (blk_cell BK455.out 0).trans rfl
              have hcz86_1 : w85.cell? ⟨gb455, 1, none⟩ = some (.slice A0_1 l0_1.length c0_1) := (blk_cell BK455.out 1).trans rfl
              have hfz86_0 := blk_frozen BK455.out 0
              have hfz86_1 := blk_frozen BK455.out 1
              try go_wp2_with (first | ((with_reducible refine gate_callee (f := 57) rfl ?_); refine goesL_ (some 105) rfl rfl Try.func57 (by kernel_rfl) rfl #[] rfl (by (try simp only [List.map_toArray, List.map_cons, List.map_nil]); first | done | rfl | (simp only [List.length_drop, List.length_take]; rfl)) ?_; (with_reducible refine (elenchuslaw04_awake.calls  true _ A74.out).mono ?_); rintro e w87 ⟨rfl, hb⟩; refine ⟨_, rfl, ?_⟩; have n0_ := Aside0.mk (Kd.V_below (by (with_reducible repeat (first | apply vA | apply vN | apply vD)); exact HO_456001.out) hb); have n1_ := Aside0.mk (Kd.V_below (by (with_reducible repeat (first | apply vA | apply vN | apply vD)); exact HO_457001.out) hb); have n2_ := Aside0.mk (Kd.V_below (by (with_reducible repeat (first | apply vA | apply vN | apply vD)); exact HO474.out) hb); have n3_ := Aside0.mk (Kd.N_below (by (with_reducible repeat (first | apply nA | apply nN | apply nD)); exact HO480.out) hb); have n4_ := Aside0.mk (Kd.V_below (by (with_reducible repeat (first | apply vA | apply vN | apply vD)); exact HO483.out) hb); have n5_ := Aside0.mk (blk_below (g := gb455) (o := .cells #[.int .i64 a0_0, .slice A0_1 l0_1.length c0_1] 25 (0, 0)) (by (with_reducible repeat (first | refine bN ?_ _ | refine bD ?_ | refine bA ?_ _)); exact BK455.out) hb); have n6_ := Aside0.mk (blk_below (g := gb456) (o := .cells #[.int .i64 a1_0, .slice A1_1 l1_1.length c1_1] 25 (0, 0)) (by (with_reducible repeat (first | refine bN ?_ _ | refine bD ?_ | refine bA ?_ _)); exact BK456.out) hb); have n7_ := Aside0.mk (below_step (by repeat (first | (with_reducible first | exact HB.out | apply wA | apply wN | apply wD | refine wS ?_ GE455.out | refine wS ?_ GE456.out) | exact HB.out)) hb); clear HO_456001; clear HO_457001; clear HO474; clear HO480; clear HO483; clear BK455; clear BK456; clear HB; have HO_456001 := n0_; have HO_457001 := n1_; have HO474 := n2_; have HO480 := n3_; have HO483 := n4_; have BK455 := n5_; have BK456 := n6_; have HB := n7_; clear n0_ n1_ n2_ n3_ n4_ n5_ n6_ n7_; (try clear hb); (try clear hb2); (try clear hk); (try clear hi)))
              go_ret
              exact ⟨by first | rfl | (simp [errW_none, errW_some] <;> rfl) | (simp [*, errW_none, errW_some] <;> rfl), by repeat (first | (with_reducible first | exact HB.out | apply wA | apply wN | apply wD | refine wS ?_ GE455.out | refine wS ?_ GE456.out) | exact HB.out)⟩
             ·rw [if_neg c78] at H
              have c78b0 : (a0_0 == (wrap64 ((-1) - a2))) = false := beq_eq_false_iff_ne.mpr c78
              have c78b1 : (a0_0 != (wrap64 ((-1) - a2))) = true := bne_iff_ne.mpr c78
              replace H := Option.bind_eq_some_iff.mp H
              obtain ⟨t487, A880, H⟩ := H
              replace H : ((elenchusref01_In.f a2 t487).bind fun t490 => (some (t484 == (!t490)))) = some r := H
              have A88 := Aside0.mk A880
              clear A880
              replace H := Option.bind_eq_some_iff.mp H
              obtain ⟨t490, A890, H⟩ := H
              replace H : (some (t484 == (!t490))) = some r := H
              have A89 := Aside0.mk A890
              clear A890
              obtain rfl := Option.some.inj H
              have hnb90 := NB455_456.out
              have hnc90 := NB456_455.out
              have hcz91_0 : wc.cell? ⟨gb455, 0, none⟩ = some (.int .i64 a0_0) := (blk_cell BK455.out 0).trans rfl
              have hcz91_1 : wc.cell? ⟨gb455, 1, none⟩ = some (.slice A0_1 l0_1.length c0_1) := (blk_cell BK455.out 1).trans rfl
              have hfz91_0 := blk_frozen BK455.out 0
              have hfz91_1 := blk_frozen BK455.out 1
              try go_wp2_with (first | ((with_reducible refine gate_callee (f := 55) rfl ?_); refine goesL_ (some 88) rfl rfl Try.func55 (by kernel_rfl) rfl #[.agg #[.int .i64 a0_0, .slice A0_1 l0_1.length c0_1], .agg #[.int .i64 a0_0, .slice A0_1 l0_1.length c0_1]] rfl (by (try simp only [List.map_toArray, List.map_cons, List.map_nil]); first | done | rfl | (simp only [List.length_drop, List.length_take]; rfl)) ?_; (with_reducible refine (unify_Mgu.calls a0_0 (fun k_ => (((P0_1_ k_ ∨ P1_1_ k_) ∨ w.heap.size ≤ k_) ∧ (k_ ≠ gb455 ∧ k_ ≠ gb456))) _ _ l0_1 a0_0 (fun k_ => (((P0_1_ k_ ∨ P1_1_ k_) ∨ w.heap.size ≤ k_) ∧ (k_ ≠ gb455 ∧ k_ ≠ gb456))) _ _ l0_1 t472 t475 t476 _ ?side1 ?side2 A71.out).mono ?_); (case side1 => exact HO_456001.out); (case side2 => exact HO_456001.out); rintro e w92 ⟨v473, rfl, ho0, hb⟩; refine ⟨_, rfl, ?_⟩; have n0_ := Aside0.mk (Kd.V_below (by (with_reducible repeat (first | apply vA | apply vN | apply vD)); exact HO_456001.out) hb); have n1_ := Aside0.mk (Kd.V_below (by (with_reducible repeat (first | apply vA | apply vN | apply vD)); exact HO_457001.out) hb); have n2_ := Aside0.mk (Kd.V_lower (Kd.V_mono (ok' := fun k_ => ((P0_1_ k_ ∨ P1_1_ k_) ∨ w.heap.size ≤ k_) ∧ k_ ≠ gb455 ∧ k_ ≠ gb456) ho0 (fun k_ hk_ => ⟨Or.elim hk_ (fun hs_ => Or.elim hs_ (fun hs_ => hs_.1) (fun hs_ => hs_.1)) (fun hn_ => (.inr (Nat.le_trans (below_size (by repeat (first | (with_reducible first | exact HB.out | apply wA | apply wN | apply wD | refine wS ?_ GE455.out | refine wS ?_ GE456.out) | exact HB.out))) hn_))), Or.elim hk_ (fun hs_ => Or.elim hs_ (fun hs_ => hs_.2.1) (fun hs_ => hs_.2.1)) (fun hn_ => (Kd.freshB (g := gb455) (o := .cells #[.int .i64 a0_0, .slice A0_1 l0_1.length c0_1] 25 (0, 0)) (by (with_reducible repeat (first | refine bN ?_ _ | refine bD ?_ | refine bA ?_ _)); exact BK455.out) k_ hn_)), Or.elim hk_ (fun hs_ => Or.elim hs_ (fun hs_ => hs_.2.2) (fun hs_ => hs_.2.2)) (fun hn_ => (Kd.freshB (g := gb456) (o := .cells #[.int .i64 a1_0, .slice A1_1 l1_1.length c1_1] 25 (0, 0)) (by (with_reducible repeat (first | refine bN ?_ _ | refine bD ?_ | refine bA ?_ _)); exact BK456.out) k_ hn_))⟩)) (below_size (by repeat (first | (with_reducible first | exact HB.out | apply wA | apply wN | apply wD | refine wS ?_ GE455.out | refine wS ?_ GE456.out) | exact HB.out)))); have n3_ := Aside0.mk (blk_below (g := gb455) (o := .cells #[.int .i64 a0_0, .slice A0_1 l0_1.length c0_1] 25 (0, 0)) (by (with_reducible repeat (first | refine bN ?_ _ | refine bD ?_ | refine bA ?_ _)); exact BK455.out) hb); have n4_ := Aside0.mk (blk_below (g := gb456) (o := .cells #[.int .i64 a1_0, .slice A1_1 l1_1.length c1_1] 25 (0, 0)) (by (with_reducible repeat (first | refine bN ?_ _ | refine bD ?_ | refine bA ?_ _)); exact BK456.out) hb); have n5_ := Aside0.mk (below_step (by repeat (first | (with_reducible first | exact HB.out | apply wA | apply wN | apply wD | refine wS ?_ GE455.out | refine wS ?_ GE456.out) | exact HB.out)) hb); clear HO_456001; clear HO_457001; clear BK455; clear BK456; clear HB; have HO_456001 := n0_; have HO_457001 := n1_; have HO474 := n2_; have BK455 := n3_; have BK456 := n4_; have HB := n5_; clear n0_ n1_ n2_ n3_ n4_ n5_; (try clear hb); (try clear hb2); (try clear hk); (try clear hi); (try clear ho0)))
              have n0_ := Aside0.mk (Kd.V_drew HO_456001.out)
              have n1_ := Aside0.mk (Kd.V_drew HO_457001.out)
              have n2_ := Aside0.mk (Kd.V_drew HO474.out)
              have n3_ := Aside0.mk (blk_drew BK455.out)
              have n4_ := Aside0.mk (blk_drew BK456.out)
              have n5_ := Aside0.mk (below_drew1 HB.out)
              clear HO_456001
              clear HO_457001
              clear HO474
              clear BK455
              clear BK456
              clear HB
              have HO_456001 := n0_
              have HO_457001 := n1_
              have HO474 := n2_
              have BK455 := n3_
              have BK456 := n4_
              have HB := n5_
              clear n0_ n1_ n2_ n3_ n4_ n5_
              refine start_ (n := 11) (S := fun w' => w'.cell? ⟨gb455, 0, none⟩ = some (.int .i64 a0_0) ∧ w'.cell? ⟨gb455, 1, none⟩ = some (.slice A0_1 l0_1.length c0_1)) (ds := []) #[F_, F_, F_, F_, F_, F_, F_, F_, F_, F_, F_] (by kernel_rfl) rfl rfl ⟨(blk_cell BK455.out 0).trans rfl, (blk_cell BK455.out 1).trans rfl⟩ (fun hHeld => ?_); refine with_tabW elenchuslaw04_UnifySides.tab10 elenchuslaw04_UnifySides.bits10 (fun HT_ HW_ => ?_)
              generalize w92.drew = w93 at HO_456001 HO_457001 HO474 BK455 BK456 HB hHeld ⊢
              refine pure_ (i := 0) (N := some 93) (v := ?_) (a' := ?_) #[T_, F_, F_, F_, F_, F_, F_, F_, F_, F_, F_] rfl rfl (any_of HT_.out (by kernel_rfl)) (fun _ _ _ h => h) (Or.inl ⟨by rfl, ?_⟩) ?_ ?_
              rotate_left
              ·intro w'
               go_simp
               with_reducible rfl
              rotate_left
              ·simp only [Act.put, sT, s0, sS, i64_w, i32_w]
               rfl
              refine take_ (i := 2) (N := some 95) (v := ?_) (a' := ?_) #[T_, F_, T_, F_, F_, F_, F_, F_, F_, F_, F_] rfl rfl (take_ofW HT_.out HW_.out (by kernel_rfl)) (fun _ _ _ h => h) (Or.inl ⟨by rfl, ?_⟩) hHeld ?_ ?_
              rotate_left
              ·rintro w' ⟨s0, s1⟩
               go_simp
               with_reducible rfl
              rotate_left
              ·simp only [Act.put, sT, s0, sS, i64_w, i32_w]
               rfl
              refine one_ (i := 1) (N := some 94) #[T_, T_, T_, F_, F_, F_, F_, F_, F_, F_, F_] rfl rfl (one_of HT_.out (by kernel_rfl)) (by decide) (fun K hK => ?_)
              refine goes_ Try.func39 (by kernel_rfl) rfl #[.int .i64 a2] (by rfl) rfl rfl (by (try simp only [List.map_toArray, List.map_cons, List.map_nil]); first | done | rfl | (simp only [List.length_drop, List.length_take]; rfl)) ?_
              with_reducible refine (elenchusref01_Var.calls a2 t477 t478 _ A72.out).mono ?_
              rintro e w94 ⟨v479, rfl, ho0, hb⟩
              refine ⟨_, rfl, ?_⟩
              have n0_ := Aside0.mk (Kd.V_elder' (by (with_reducible repeat (first | apply vA | apply vN | apply vD)); exact HO_456001.out) (by first | exact Kd.N_base ho0 | exact Kd.R_base ho0) hb)
              have n1_ := Aside0.mk (Kd.V_elder' (by (with_reducible repeat (first | apply vA | apply vN | apply vD)); exact HO_457001.out) (by first | exact Kd.N_base ho0 | exact Kd.R_base ho0) hb)
              have n2_ := Aside0.mk (Kd.V_elder' (by (with_reducible repeat (first | apply vA | apply vN | apply vD)); exact HO474.out) (by first | exact Kd.N_base ho0 | exact Kd.R_base ho0) hb)
              have n3_ := Aside0.mk (Kd.N_lower (Kd.N_mono (ok' := fun k_ => ((P0_1_ k_ ∨ P1_1_ k_) ∨ w.heap.size ≤ k_) ∧ k_ ≠ gb455 ∧ k_ ≠ gb456) (Kd.R_N (Kd.R_bound ho0)) (fun k_ hk_ => ⟨(.inr (Nat.le_trans (below_size (by repeat (first | (with_reducible first | exact HB.out | apply wA | apply wN | apply wD | refine wS ?_ GE455.out | refine wS ?_ GE456.out) | exact HB.out))) hk_.2.1)), (Kd.freshB (g := gb455) (o := .cells #[.int .i64 a0_0, .slice A0_1 l0_1.length c0_1] 25 (0, 0)) (by (with_reducible repeat (first | refine bN ?_ _ | refine bD ?_ | refine bA ?_ _)); exact BK455.out) k_ hk_.2.1), (Kd.freshB (g := gb456) (o := .cells #[.int .i64 a1_0, .slice A1_1 l1_1.length c1_1] 25 (0, 0)) (by (with_reducible repeat (first | refine bN ?_ _ | refine bD ?_ | refine bA ?_ _)); exact BK456.out) k_ hk_.2.1)⟩)) (below_size (by repeat (first | (with_reducible first | exact HB.out | apply wA | apply wN | apply wD | refine wS ?_ GE455.out | refine wS ?_ GE456.out) | exact HB.out))))
              have n4_ := Aside0.mk (blk_below (g := gb455) (o := .cells #[.int .i64 a0_0, .slice A0_1 l0_1.length c0_1] 25 (0, 0)) (by (with_reducible repeat (first | refine bN ?_ _ | refine bD ?_ | refine bA ?_ _)); exact BK455.out) hb)
              have n5_ := Aside0.mk (blk_below (g := gb456) (o := .cells #[.int .i64 a1_0, .slice A1_1 l1_1.length c1_1] 25 (0, 0)) (by (with_reducible repeat (first | refine bN ?_ _ | refine bD ?_ | refine bA ?_ _)); exact BK456.out) hb)
              have n6_ := Aside0.mk (below_step (by repeat (first | (with_reducible first | exact HB.out | apply wA | apply wN | apply wD | refine wS ?_ GE455.out | refine wS ?_ GE456.out) | exact HB.out)) hb)
              clear HO_456001
              clear HO_457001
              clear HO474
              clear BK455
              clear BK456
              clear HB
              have HO_456001 := n0_
              have HO_457001 := n1_
              have HO474 := n2_
              have HO480 := n3_
              have BK455 := n4_
              have BK456 := n5_
              have HB := n6_
              clear n0_ n1_ n2_ n3_ n4_ n5_ n6_
              (try clear hb)
              (try clear hb2)
              (try clear hk)
              (try clear hi)
              (try clear ho0)
              obtain ⟨Ao95, co95, eo95⟩ := Kd.N_slice HO480.out
              (first | subst eo95 | (injection eo95 with f1_ f2_ f3_; have f4_ := f1_.symm; have f5_ := f3_.symm; clear f1_ f2_ f3_; subst f4_; subst f5_))
              refine hK.out _ _ ⟨(blk_cell BK455.out 0).trans rfl, (blk_cell BK455.out 1).trans rfl⟩ (fun hHeld => ?_)
              clear hK K
              refine norm_ (a' := ?_) ?_ ?_
              rotate_left
              ·show Act.put _ (some 94) _ = _
               simp only [Act.put, sT, s0, sS, i64_w, i32_w]
               rfl
              refine one_ (i := 3) (N := some 96) #[T_, T_, T_, T_, F_, F_, F_, F_, F_, F_, F_] rfl rfl (one_of HT_.out (by kernel_rfl)) (by decide) (fun K hK => ?_)
              refine goes_ Try.func55 (by kernel_rfl) rfl #[.agg #[.int .i64 t477, .slice Ao95 t478.length co95], .agg #[.int .i64 a0_0, .slice A0_1 l0_1.length c0_1]] (by rfl) rfl rfl (by (try simp only [List.map_toArray, List.map_cons, List.map_nil]); first | done | rfl | (simp only [List.length_drop, List.length_take]; rfl)) ?_
              with_reducible refine (unify_Mgu.calls t477 (fun k_ => (((P0_1_ k_ ∨ P1_1_ k_) ∨ w.heap.size ≤ k_) ∧ (k_ ≠ gb455 ∧ k_ ≠ gb456))) _ _ t478 a0_0 (fun k_ => ((((P0_1_ k_ ∨ P1_1_ k_) ∨ w.heap.size ≤ k_) ∧ (k_ ≠ gb455 ∧ k_ ≠ gb456)) ∧ some k_ ≠ (.slice Ao95 t478.length co95 : Value).ownBlock)) _ _ l0_1 t481 t484 t485 _ ?side1 ?side2 A73.out).mono ?_
              (case side1 => exact Kd.N_V (HO480.out))
              (case side2 => exact HO_456001.out)
              rintro e w96 ⟨v482, rfl, ho0, hb⟩
              refine ⟨_, rfl, ?_⟩
              have n0_ := Aside0.mk (Kd.V_below (by (with_reducible repeat (first | apply vA | apply vN | apply vD)); exact HO_456001.out) hb)
              have n1_ := Aside0.mk (Kd.V_below (by (with_reducible repeat (first | apply vA | apply vN | apply vD)); exact HO_457001.out) hb)
              have n2_ := Aside0.mk (Kd.V_below (by (with_reducible repeat (first | apply vA | apply vN | apply vD)); exact HO474.out) hb)
              have n3_ := Aside0.mk (Kd.N_below (by (with_reducible repeat (first | apply nA | apply nN | apply nD)); exact HO480.out) hb)
              have n4_ := Aside0.mk (Kd.V_lower (Kd.V_mono (ok' := fun k_ => ((P0_1_ k_ ∨ P1_1_ k_) ∨ w.heap.size ≤ k_) ∧ k_ ≠ gb455 ∧ k_ ≠ gb456) ho0 (fun k_ hk_ => ⟨Or.elim hk_ (fun hs_ => Or.elim hs_ (fun hs_ => hs_.1) (fun hs_ => hs_.1.1)) (fun hn_ => (.inr (Nat.le_trans (below_size (by repeat (first | (with_reducible first | exact HB.out | apply wA | apply wN | apply wD | refine wS ?_ GE455.out | refine wS ?_ GE456.out) | exact HB.out))) hn_))), Or.elim hk_ (fun hs_ => Or.elim hs_ (fun hs_ => hs_.2.1) (fun hs_ => hs_.1.2.1)) (fun hn_ => (Kd.freshB (g := gb455) (o := .cells #[.int .i64 a0_0, .slice A0_1 l0_1.length c0_1] 25 (0, 0)) (by (with_reducible repeat (first | refine bN ?_ _ | refine bD ?_ | refine bA ?_ _)); exact BK455.out) k_ hn_)), Or.elim hk_ (fun hs_ => Or.elim hs_ (fun hs_ => hs_.2.2) (fun hs_ => hs_.1.2.2)) (fun hn_ => (Kd.freshB (g := gb456) (o := .cells #[.int .i64 a1_0, .slice A1_1 l1_1.length c1_1] 25 (0, 0)) (by (with_reducible repeat (first | refine bN ?_ _ | refine bD ?_ | refine bA ?_ _)); exact BK456.out) k_ hn_))⟩)) (below_size (by repeat (first | (with_reducible first | exact HB.out | apply wA | apply wN | apply wD | refine wS ?_ GE455.out | refine wS ?_ GE456.out) | exact HB.out))))
              have n5_ := Aside0.mk (blk_below (g := gb455) (o := .cells #[.int .i64 a0_0, .slice A0_1 l0_1.length c0_1] 25 (0, 0)) (by (with_reducible repeat (first | refine bN ?_ _ | refine bD ?_ | refine bA ?_ _)); exact BK455.out) hb)
              have n6_ := Aside0.mk (blk_below (g := gb456) (o := .cells #[.int .i64 a1_0, .slice A1_1 l1_1.length c1_1] 25 (0, 0)) (by (with_reducible repeat (first | refine bN ?_ _ | refine bD ?_ | refine bA ?_ _)); exact BK456.out) hb)
              have n7_ := Aside0.mk (below_step (by repeat (first | (with_reducible first | exact HB.out | apply wA | apply wN | apply wD | refine wS ?_ GE455.out | refine wS ?_ GE456.out) | exact HB.out)) hb)
              clear HO_456001
              clear HO_457001
              clear HO474
              clear HO480
              clear BK455
              clear BK456
              clear HB
              have HO_456001 := n0_
              have HO_457001 := n1_
              have HO474 := n2_
              have HO480 := n3_
              have HO483 := n4_
              have BK455 := n5_
              have BK456 := n6_
              have HB := n7_
              clear n0_ n1_ n2_ n3_ n4_ n5_ n6_ n7_
              (try clear hb)
              (try clear hb2)
              (try clear hk)
              (try clear hi)
              (try clear ho0)
              refine hK.out _ _ ⟨(blk_cell BK455.out 0).trans rfl, (blk_cell BK455.out 1).trans rfl⟩ (fun hHeld => ?_)
              clear hK K
              refine norm_ (a' := ?_) ?_ ?_
              rotate_left
              ·show Act.put _ (some 96) _ = _
               simp only [Act.put, sT, s0, sS, i64_w, i32_w]
               rfl
              refine pure_ (i := 4) (N := some 92) (v := ?_) (a' := ?_) #[T_, T_, T_, T_, T_, F_, F_, F_, F_, F_, F_] rfl rfl (any_of HT_.out (by kernel_rfl)) (fun _ _ _ h => h) (Or.inl ⟨by rfl, ?_⟩) ?_ ?_
              rotate_left
              ·intro w'
               go_simp
               with_reducible rfl
              rotate_left
              ·simp only [Act.put, sT, s0, sS, i64_w, i32_w]
               rfl
              refine pure_ (i := 5) (N := some 97) (v := ?_) (a' := ?_) #[T_, T_, T_, T_, T_, T_, F_, F_, F_, F_, F_] rfl rfl (any_of HT_.out (by kernel_rfl)) (fun _ _ _ h => h) (Or.inl ⟨by rfl, ?_⟩) ?_ ?_
              rotate_left
              ·intro w'
               go_simp
               with_reducible rfl
              rotate_left
              ·simp only [Act.put, sT, s0, sS, i64_w, i32_w]
               rfl
              refine pure_ (i := 6) (N := some 98) (v := ?_) (a' := ?_) #[T_, T_, T_, T_, T_, T_, T_, F_, F_, F_, F_] rfl rfl (any_of HT_.out (by kernel_rfl)) (fun _ _ _ h => h) (Or.inl ⟨by rfl, ?_⟩) ?_ ?_
              rotate_left
              ·intro w'
               go_simp
               with_reducible rfl
              rotate_left
              ·simp only [Act.put, sT, s0, sS, i64_w, i32_w]
               rfl
              refine pure_ (i := 7) (N := some 99) (v := ?_) (a' := ?_) #[T_, T_, T_, T_, T_, T_, T_, T_, F_, F_, F_] rfl rfl (any_of HT_.out (by kernel_rfl)) (fun _ _ _ h => h) (Or.inl ⟨by rfl, ?_⟩) ?_ ?_
              rotate_left
              ·intro w'
               go_simp
               with_reducible rfl
              rotate_left
              ·simp only [Act.put, sT, s0, sS, i64_w, i32_w]
               rfl
              refine pure_ (i := 8) (N := some 16) (v := ?_) (a' := ?_) #[T_, T_, T_, T_, T_, T_, T_, T_, T_, F_, F_] rfl rfl (any_of HT_.out (by kernel_rfl)) (fun _ _ _ h => h) (Or.inl ⟨by rfl, ?_⟩) ?_ ?_
              rotate_left
              ·intro w'
               go_simp
               with_reducible rfl
              rotate_left
              ·simp only [Act.put, sT, s0, sS, i64_w, i32_w]
               rfl
              refine pure_ (i := 9) (N := some 17) (v := ?_) (a' := ?_) #[T_, T_, T_, T_, T_, T_, T_, T_, T_, T_, F_] rfl rfl (any_of HT_.out (by kernel_rfl)) (fun _ _ _ h => h) (Or.inl ⟨by rfl, ?_⟩) ?_ ?_
              rotate_left
              ·intro w'
               go_simp
               with_reducible rfl
              rotate_left
              ·simp only [Act.put, sT, s0, sS, i64_w, i32_w]
               rfl
              refine pure_ (i := 10) (N := some 18) (v := ?_) (a' := ?_) #[T_, T_, T_, T_, T_, T_, T_, T_, T_, T_, T_] rfl rfl (any_of HT_.out (by kernel_rfl)) (fun _ _ _ h => h) (Or.inl ⟨by rfl, ?_⟩) ?_ ?_
              rotate_left
              ·intro w'
               go_simp
               with_reducible rfl
              rotate_left
              ·simp only [Act.put, sT, s0, sS, i64_w, i32_w]
               rfl
              refine done_ (done_of HT_.out (by kernel_rfl)) ?_
              have hcz97_0 : w96.cell? ⟨gb455, 0, none⟩ = some (.int .i64 a0_0) := (blk_cell BK455.out 0).trans rfl
              have hcz97_1 : w96.cell? ⟨gb455, 1, none⟩ = some (.slice A0_1 l0_1.length c0_1) := (blk_cell BK455.out 1).trans rfl
              have hfz97_0 := blk_frozen BK455.out 0
              have hfz97_1 := blk_frozen BK455.out 1
              try go_wp2_with (first | ((with_reducible refine gate_callee (f := 57) rfl ?_); refine goesL_ (some 105) rfl rfl Try.func57 (by kernel_rfl) rfl #[] rfl (by (try simp only [List.map_toArray, List.map_cons, List.map_nil]); first | done | rfl | (simp only [List.length_drop, List.length_take]; rfl)) ?_; (with_reducible refine (elenchuslaw04_awake.calls  true _ A74.out).mono ?_); rintro e w98 ⟨rfl, hb⟩; refine ⟨_, rfl, ?_⟩; have n0_ := Aside0.mk (Kd.V_below (by (with_reducible repeat (first | apply vA | apply vN | apply vD)); exact HO_456001.out) hb); have n1_ := Aside0.mk (Kd.V_below (by (with_reducible repeat (first | apply vA | apply vN | apply vD)); exact HO_457001.out) hb); have n2_ := Aside0.mk (Kd.V_below (by (with_reducible repeat (first | apply vA | apply vN | apply vD)); exact HO474.out) hb); have n3_ := Aside0.mk (Kd.N_below (by (with_reducible repeat (first | apply nA | apply nN | apply nD)); exact HO480.out) hb); have n4_ := Aside0.mk (Kd.V_below (by (with_reducible repeat (first | apply vA | apply vN | apply vD)); exact HO483.out) hb); have n5_ := Aside0.mk (blk_below (g := gb455) (o := .cells #[.int .i64 a0_0, .slice A0_1 l0_1.length c0_1] 25 (0, 0)) (by (with_reducible repeat (first | refine bN ?_ _ | refine bD ?_ | refine bA ?_ _)); exact BK455.out) hb); have n6_ := Aside0.mk (blk_below (g := gb456) (o := .cells #[.int .i64 a1_0, .slice A1_1 l1_1.length c1_1] 25 (0, 0)) (by (with_reducible repeat (first | refine bN ?_ _ | refine bD ?_ | refine bA ?_ _)); exact BK456.out) hb); have n7_ := Aside0.mk (below_step (by repeat (first | (with_reducible first | exact HB.out | apply wA | apply wN | apply wD | refine wS ?_ GE455.out | refine wS ?_ GE456.out) | exact HB.out)) hb); clear HO_456001; clear HO_457001; clear HO474; clear HO480; clear HO483; clear BK455; clear BK456; clear HB; have HO_456001 := n0_; have HO_457001 := n1_; have HO474 := n2_; have HO480 := n3_; have HO483 := n4_; have BK455 := n5_; have BK456 := n6_; have HB := n7_; clear n0_ n1_ n2_ n3_ n4_ n5_ n6_ n7_; (try clear hb); (try clear hb2); (try clear hk); (try clear hi); have hcz99_0 : w98.cell? ⟨gb455, 0, none⟩ = some (.int .i64 a0_0) := (blk_cell BK455.out 0).trans rfl; have hcz99_1 : w98.cell? ⟨gb455, 1, none⟩ = some (.slice A0_1 l0_1.length c0_1) := (blk_cell BK455.out 1).trans rfl; have hfz99_0 := blk_frozen BK455.out 0; have hfz99_1 := blk_frozen BK455.out 1) | (go_at_call 37; (with_reducible refine (term_Vars.calls a0_0 _ _ l0_1 t487 _ ?side1 ?side2 A88.out).mono ?_); (case side1 => repeat (first | exact (Kd.V_reads' HO_456001.out).2.2 | (with_reducible refine Kd.C_alloc ?_ _) | (with_reducible refine Kd.C_drewN ?_ _) | (with_reducible refine Kd.C_drew ?_))); (case side2 => exact (Kd.V_reads' HO_456001.out).2.1); rintro e w100 ⟨v488, rfl, ho0, hb⟩; have n0_ := Aside0.mk (Kd.V_below (by (with_reducible repeat (first | apply vA | apply vN | apply vD)); exact HO_456001.out) hb); have n1_ := Aside0.mk (Kd.V_below (by (with_reducible repeat (first | apply vA | apply vN | apply vD)); exact HO_457001.out) hb); have n2_ := Aside0.mk (Kd.V_below (by (with_reducible repeat (first | apply vA | apply vN | apply vD)); exact HO474.out) hb); have n3_ := Aside0.mk (Kd.N_below (by (with_reducible repeat (first | apply nA | apply nN | apply nD)); exact HO480.out) hb); have n4_ := Aside0.mk (Kd.V_below (by (with_reducible repeat (first | apply vA | apply vN | apply vD)); exact HO483.out) hb); have n5_ := Aside0.mk (Kd.V_lower (Kd.V_mono (ok' := fun k_ => ((P0_1_ k_ ∨ P1_1_ k_) ∨ w.heap.size ≤ k_) ∧ some k_ ≠ (.slice Ao95 t478.length co95 : Value).ownBlock ∧ k_ ≠ gb455 ∧ k_ ≠ gb456) ho0 (fun k_ hk_ => ⟨(.inr (Nat.le_trans (below_size (by repeat (first | (with_reducible first | exact HB.out | apply wA | apply wN | apply wD | refine wS ?_ GE455.out | refine wS ?_ GE456.out) | exact HB.out))) hk_)), (Kd.fresh' (Kd.N_lt (by (with_reducible repeat (first | apply nA | apply nN | apply nD)); exact HO480.out)) k_ hk_), (Kd.freshB (g := gb455) (o := .cells #[.int .i64 a0_0, .slice A0_1 l0_1.length c0_1] 25 (0, 0)) (by (with_reducible repeat (first | refine bN ?_ _ | refine bD ?_ | refine bA ?_ _)); exact BK455.out) k_ hk_), (Kd.freshB (g := gb456) (o := .cells #[.int .i64 a1_0, .slice A1_1 l1_1.length c1_1] 25 (0, 0)) (by (with_reducible repeat (first | refine bN ?_ _ | refine bD ?_ | refine bA ?_ _)); exact BK456.out) k_ hk_)⟩)) (below_size (by repeat (first | (with_reducible first | exact HB.out | apply wA | apply wN | apply wD | refine wS ?_ GE455.out | refine wS ?_ GE456.out) | exact HB.out)))); have n6_ := Aside0.mk (blk_below (g := gb455) (o := .cells #[.int .i64 a0_0, .slice A0_1 l0_1.length c0_1] 25 (0, 0)) (by (with_reducible repeat (first | refine bN ?_ _ | refine bD ?_ | refine bA ?_ _)); exact BK455.out) hb); have n7_ := Aside0.mk (blk_below (g := gb456) (o := .cells #[.int .i64 a1_0, .slice A1_1 l1_1.length c1_1] 25 (0, 0)) (by (with_reducible repeat (first | refine bN ?_ _ | refine bD ?_ | refine bA ?_ _)); exact BK456.out) hb); have n8_ := Aside0.mk (below_step (by repeat (first | (with_reducible first | exact HB.out | apply wA | apply wN | apply wD | refine wS ?_ GE455.out | refine wS ?_ GE456.out) | exact HB.out)) hb); clear HO_456001; clear HO_457001; clear HO474; clear HO480; clear HO483; clear BK455; clear BK456; clear HB; have HO_456001 := n0_; have HO_457001 := n1_; have HO474 := n2_; have HO480 := n3_; have HO483 := n4_; have HO489 := n5_; have BK455 := n6_; have BK456 := n7_; have HB := n8_; clear n0_ n1_ n2_ n3_ n4_ n5_ n6_ n7_ n8_; (try clear hb); (try clear hb2); (try clear hk); (try clear hi); (try clear ho0); obtain ⟨Ao101, co101, eo101⟩ := Kd.V_slice HO489.out; subst eo101) | (go_at_call 40; (with_reducible refine (elenchusref01_In.calls a2 _ _ t487 t490 _ ?side1 ?side2 A89.out).mono ?_); (case side1 => repeat (first | exact (Kd.V_reads' HO489.out).2.2 | (with_reducible refine Kd.C_alloc ?_ _) | (with_reducible refine Kd.C_drewN ?_ _) | (with_reducible refine Kd.C_drew ?_))); (case side2 => exact (Kd.V_reads' HO489.out).2.1); rintro e w102 ⟨rfl, hb⟩; have n0_ := Aside0.mk (Kd.V_below (by (with_reducible repeat (first | apply vA | apply vN | apply vD)); exact HO_456001.out) hb); have n1_ := Aside0.mk (Kd.V_below (by (with_reducible repeat (first | apply vA | apply vN | apply vD)); exact HO_457001.out) hb); have n2_ := Aside0.mk (Kd.V_below (by (with_reducible repeat (first | apply vA | apply vN | apply vD)); exact HO474.out) hb); have n3_ := Aside0.mk (Kd.N_below (by (with_reducible repeat (first | apply nA | apply nN | apply nD)); exact HO480.out) hb); have n4_ := Aside0.mk (Kd.V_below (by (with_reducible repeat (first | apply vA | apply vN | apply vD)); exact HO483.out) hb); have n5_ := Aside0.mk (Kd.V_below (by (with_reducible repeat (first | apply vA | apply vN | apply vD)); exact HO489.out) hb); have n6_ := Aside0.mk (blk_below (g := gb455) (o := .cells #[.int .i64 a0_0, .slice A0_1 l0_1.length c0_1] 25 (0, 0)) (by (with_reducible repeat (first | refine bN ?_ _ | refine bD ?_ | refine bA ?_ _)); exact BK455.out) hb); have n7_ := Aside0.mk (blk_below (g := gb456) (o := .cells #[.int .i64 a1_0, .slice A1_1 l1_1.length c1_1] 25 (0, 0)) (by (with_reducible repeat (first | refine bN ?_ _ | refine bD ?_ | refine bA ?_ _)); exact BK456.out) hb); have n8_ := Aside0.mk (below_step (by repeat (first | (with_reducible first | exact HB.out | apply wA | apply wN | apply wD | refine wS ?_ GE455.out | refine wS ?_ GE456.out) | exact HB.out)) hb); clear HO_456001; clear HO_457001; clear HO474; clear HO480; clear HO483; clear HO489; clear BK455; clear BK456; clear HB; have HO_456001 := n0_; have HO_457001 := n1_; have HO474 := n2_; have HO480 := n3_; have HO483 := n4_; have HO489 := n5_; have BK455 := n6_; have BK456 := n7_; have HB := n8_; clear n0_ n1_ n2_ n3_ n4_ n5_ n6_ n7_ n8_; (try clear hb); (try clear hb2); (try clear hk); (try clear hi)))
              go_ret
              exact ⟨by first | rfl | (simp [errW_none, errW_some] <;> rfl) | (simp [*, errW_none, errW_some] <;> rfl), by repeat (first | (with_reducible first | exact HB.out | apply wA | apply wN | apply wD | refine wS ?_ GE455.out | refine wS ?_ GE456.out) | exact HB.out)⟩
            ·rw [if_neg c77] at H
             have c77b0 : (t485 == 0) = false := beq_eq_false_iff_ne.mpr c77
             have c77b1 : (t485 != 0) = true := bne_iff_ne.mpr c77
             obtain rfl := Option.some.inj H
             have hnb103 := NB455_456.out
             have hnc103 := NB456_455.out
             have hcz104_0 : wc.cell? ⟨gb455, 0, none⟩ = some (.int .i64 a0_0) := (blk_cell BK455.out 0).trans rfl
             have hcz104_1 : wc.cell? ⟨gb455, 1, none⟩ = some (.slice A0_1 l0_1.length c0_1) := (blk_cell BK455.out 1).trans rfl
             have hfz104_0 := blk_frozen BK455.out 0
             have hfz104_1 := blk_frozen BK455.out 1
             try go_wp2_with (first | ((with_reducible refine gate_callee (f := 55) rfl ?_); refine goesL_ (some 88) rfl rfl Try.func55 (by kernel_rfl) rfl #[.agg #[.int .i64 a0_0, .slice A0_1 l0_1.length c0_1], .agg #[.int .i64 a0_0, .slice A0_1 l0_1.length c0_1]] rfl (by (try simp only [List.map_toArray, List.map_cons, List.map_nil]); first | done | rfl | (simp only [List.length_drop, List.length_take]; rfl)) ?_; (with_reducible refine (unify_Mgu.calls a0_0 (fun k_ => (((P0_1_ k_ ∨ P1_1_ k_) ∨ w.heap.size ≤ k_) ∧ (k_ ≠ gb455 ∧ k_ ≠ gb456))) _ _ l0_1 a0_0 (fun k_ => (((P0_1_ k_ ∨ P1_1_ k_) ∨ w.heap.size ≤ k_) ∧ (k_ ≠ gb455 ∧ k_ ≠ gb456))) _ _ l0_1 t472 t475 t476 _ ?side1 ?side2 A71.out).mono ?_); (case side1 => exact HO_456001.out); (case side2 => exact HO_456001.out); rintro e w105 ⟨v473, rfl, ho0, hb⟩; refine ⟨_, rfl, ?_⟩; have n0_ := Aside0.mk (Kd.V_below (by (with_reducible repeat (first | apply vA | apply vN | apply vD)); exact HO_456001.out) hb); have n1_ := Aside0.mk (Kd.V_below (by (with_reducible repeat (first | apply vA | apply vN | apply vD)); exact HO_457001.out) hb); have n2_ := Aside0.mk (Kd.V_lower (Kd.V_mono (ok' := fun k_ => ((P0_1_ k_ ∨ P1_1_ k_) ∨ w.heap.size ≤ k_) ∧ k_ ≠ gb455 ∧ k_ ≠ gb456) ho0 (fun k_ hk_ => ⟨Or.elim hk_ (fun hs_ => Or.elim hs_ (fun hs_ => hs_.1) (fun hs_ => hs_.1)) (fun hn_ => (.inr (Nat.le_trans (below_size (by repeat (first | (with_reducible first | exact HB.out | apply wA | apply wN | apply wD | refine wS ?_ GE455.out | refine wS ?_ GE456.out) | exact HB.out))) hn_))), Or.elim hk_ (fun hs_ => Or.elim hs_ (fun hs_ => hs_.2.1) (fun hs_ => hs_.2.1)) (fun hn_ => (Kd.freshB (g := gb455) (o := .cells #[.int .i64 a0_0, .slice A0_1 l0_1.length c0_1] 25 (0, 0)) (by (with_reducible repeat (first | refine bN ?_ _ | refine bD ?_ | refine bA ?_ _)); exact BK455.out) k_ hn_)), Or.elim hk_ (fun hs_ => Or.elim hs_ (fun hs_ => hs_.2.2) (fun hs_ => hs_.2.2)) (fun hn_ => (Kd.freshB (g := gb456) (o := .cells #[.int .i64 a1_0, .slice A1_1 l1_1.length c1_1] 25 (0, 0)) (by (with_reducible repeat (first | refine bN ?_ _ | refine bD ?_ | refine bA ?_ _)); exact BK456.out) k_ hn_))⟩)) (below_size (by repeat (first | (with_reducible first | exact HB.out | apply wA | apply wN | apply wD | refine wS ?_ GE455.out | refine wS ?_ GE456.out) | exact HB.out)))); have n3_ := Aside0.mk (blk_below (g := gb455) (o := .cells #[.int .i64 a0_0, .slice A0_1 l0_1.length c0_1] 25 (0, 0)) (by (with_reducible repeat (first | refine bN ?_ _ | refine bD ?_ | refine bA ?_ _)); exact BK455.out) hb); have n4_ := Aside0.mk (blk_below (g := gb456) (o := .cells #[.int .i64 a1_0, .slice A1_1 l1_1.length c1_1] 25 (0, 0)) (by (with_reducible repeat (first | refine bN ?_ _ | refine bD ?_ | refine bA ?_ _)); exact BK456.out) hb); have n5_ := Aside0.mk (below_step (by repeat (first | (with_reducible first | exact HB.out | apply wA | apply wN | apply wD | refine wS ?_ GE455.out | refine wS ?_ GE456.out) | exact HB.out)) hb); clear HO_456001; clear HO_457001; clear BK455; clear BK456; clear HB; have HO_456001 := n0_; have HO_457001 := n1_; have HO474 := n2_; have BK455 := n3_; have BK456 := n4_; have HB := n5_; clear n0_ n1_ n2_ n3_ n4_ n5_; (try clear hb); (try clear hb2); (try clear hk); (try clear hi); (try clear ho0)))
             have n0_ := Aside0.mk (Kd.V_drew HO_456001.out)
             have n1_ := Aside0.mk (Kd.V_drew HO_457001.out)
             have n2_ := Aside0.mk (Kd.V_drew HO474.out)
             have n3_ := Aside0.mk (blk_drew BK455.out)
             have n4_ := Aside0.mk (blk_drew BK456.out)
             have n5_ := Aside0.mk (below_drew1 HB.out)
             clear HO_456001
             clear HO_457001
             clear HO474
             clear BK455
             clear BK456
             clear HB
             have HO_456001 := n0_
             have HO_457001 := n1_
             have HO474 := n2_
             have BK455 := n3_
             have BK456 := n4_
             have HB := n5_
             clear n0_ n1_ n2_ n3_ n4_ n5_
             refine start_ (n := 11) (S := fun w' => w'.cell? ⟨gb455, 0, none⟩ = some (.int .i64 a0_0) ∧ w'.cell? ⟨gb455, 1, none⟩ = some (.slice A0_1 l0_1.length c0_1)) (ds := []) #[F_, F_, F_, F_, F_, F_, F_, F_, F_, F_, F_] (by kernel_rfl) rfl rfl ⟨(blk_cell BK455.out 0).trans rfl, (blk_cell BK455.out 1).trans rfl⟩ (fun hHeld => ?_); refine with_tabW elenchuslaw04_UnifySides.tab10 elenchuslaw04_UnifySides.bits10 (fun HT_ HW_ => ?_)
             generalize w105.drew = w106 at HO_456001 HO_457001 HO474 BK455 BK456 HB hHeld ⊢
             refine pure_ (i := 0) (N := some 93) (v := ?_) (a' := ?_) #[T_, F_, F_, F_, F_, F_, F_, F_, F_, F_, F_] rfl rfl (any_of HT_.out (by kernel_rfl)) (fun _ _ _ h => h) (Or.inl ⟨by rfl, ?_⟩) ?_ ?_
             rotate_left
             ·intro w'
              go_simp
              with_reducible rfl
             rotate_left
             ·simp only [Act.put, sT, s0, sS, i64_w, i32_w]
              rfl
             refine take_ (i := 2) (N := some 95) (v := ?_) (a' := ?_) #[T_, F_, T_, F_, F_, F_, F_, F_, F_, F_, F_] rfl rfl (take_ofW HT_.out HW_.out (by kernel_rfl)) (fun _ _ _ h => h) (Or.inl ⟨by rfl, ?_⟩) hHeld ?_ ?_
             rotate_left
             ·rintro w' ⟨s0, s1⟩
              go_simp
              with_reducible rfl
             rotate_left
             ·simp only [Act.put, sT, s0, sS, i64_w, i32_w]
              rfl
             refine one_ (i := 1) (N := some 94) #[T_, T_, T_, F_, F_, F_, F_, F_, F_, F_, F_] rfl rfl (one_of HT_.out (by kernel_rfl)) (by decide) (fun K hK => ?_)
             refine goes_ Try.func39 (by kernel_rfl) rfl #[.int .i64 a2] (by rfl) rfl rfl (by (try simp only [List.map_toArray, List.map_cons, List.map_nil]); first | done | rfl | (simp only [List.length_drop, List.length_take]; rfl)) ?_
             with_reducible refine (elenchusref01_Var.calls a2 t477 t478 _ A72.out).mono ?_
             rintro e w107 ⟨v479, rfl, ho0, hb⟩
             refine ⟨_, rfl, ?_⟩
             have n0_ := Aside0.mk (Kd.V_elder' (by (with_reducible repeat (first | apply vA | apply vN | apply vD)); exact HO_456001.out) (by first | exact Kd.N_base ho0 | exact Kd.R_base ho0) hb)
             have n1_ := Aside0.mk (Kd.V_elder' (by (with_reducible repeat (first | apply vA | apply vN | apply vD)); exact HO_457001.out) (by first | exact Kd.N_base ho0 | exact Kd.R_base ho0) hb)
             have n2_ := Aside0.mk (Kd.V_elder' (by (with_reducible repeat (first | apply vA | apply vN | apply vD)); exact HO474.out) (by first | exact Kd.N_base ho0 | exact Kd.R_base ho0) hb)
             have n3_ := Aside0.mk (Kd.N_lower (Kd.N_mono (ok' := fun k_ => ((P0_1_ k_ ∨ P1_1_ k_) ∨ w.heap.size ≤ k_) ∧ k_ ≠ gb455 ∧ k_ ≠ gb456) (Kd.R_N (Kd.R_bound ho0)) (fun k_ hk_ => ⟨(.inr (Nat.le_trans (below_size (by repeat (first | (with_reducible first | exact HB.out | apply wA | apply wN | apply wD | refine wS ?_ GE455.out | refine wS ?_ GE456.out) | exact HB.out))) hk_.2.1)), (Kd.freshB (g := gb455) (o := .cells #[.int .i64 a0_0, .slice A0_1 l0_1.length c0_1] 25 (0, 0)) (by (with_reducible repeat (first | refine bN ?_ _ | refine bD ?_ | refine bA ?_ _)); exact BK455.out) k_ hk_.2.1), (Kd.freshB (g := gb456) (o := .cells #[.int .i64 a1_0, .slice A1_1 l1_1.length c1_1] 25 (0, 0)) (by (with_reducible repeat (first | refine bN ?_ _ | refine bD ?_ | refine bA ?_ _)); exact BK456.out) k_ hk_.2.1)⟩)) (below_size (by repeat (first | (with_reducible first | exact HB.out | apply wA | apply wN | apply wD | refine wS ?_ GE455.out | refine wS ?_ GE456.out) | exact HB.out))))
             have n4_ := Aside0.mk (blk_below (g := gb455) (o := .cells #[.int .i64 a0_0, .slice A0_1 l0_1.length c0_1] 25 (0, 0)) (by (with_reducible repeat (first | refine bN ?_ _ | refine bD ?_ | refine bA ?_ _)); exact BK455.out) hb)
             have n5_ := Aside0.mk (blk_below (g := gb456) (o := .cells #[.int .i64 a1_0, .slice A1_1 l1_1.length c1_1] 25 (0, 0)) (by (with_reducible repeat (first | refine bN ?_ _ | refine bD ?_ | refine bA ?_ _)); exact BK456.out) hb)
             have n6_ := Aside0.mk (below_step (by repeat (first | (with_reducible first | exact HB.out | apply wA | apply wN | apply wD | refine wS ?_ GE455.out | refine wS ?_ GE456.out) | exact HB.out)) hb)
             clear HO_456001
             clear HO_457001
             clear HO474
             clear BK455
             clear BK456
             clear HB
             have HO_456001 := n0_
             have HO_457001 := n1_
             have HO474 := n2_
             have HO480 := n3_
             have BK455 := n4_
             have BK456 := n5_
             have HB := n6_
             clear n0_ n1_ n2_ n3_ n4_ n5_ n6_
             (try clear hb)
             (try clear hb2)
             (try clear hk)
             (try clear hi)
             (try clear ho0)
             obtain ⟨Ao108, co108, eo108⟩ := Kd.N_slice HO480.out
             (first | subst eo108 | (injection eo108 with f1_ f2_ f3_; have f4_ := f1_.symm; have f5_ := f3_.symm; clear f1_ f2_ f3_; subst f4_; subst f5_))
             refine hK.out _ _ ⟨(blk_cell BK455.out 0).trans rfl, (blk_cell BK455.out 1).trans rfl⟩ (fun hHeld => ?_)
             clear hK K
             refine norm_ (a' := ?_) ?_ ?_
             rotate_left
             ·show Act.put _ (some 94) _ = _
              simp only [Act.put, sT, s0, sS, i64_w, i32_w]
              rfl
             refine one_ (i := 3) (N := some 96) #[T_, T_, T_, T_, F_, F_, F_, F_, F_, F_, F_] rfl rfl (one_of HT_.out (by kernel_rfl)) (by decide) (fun K hK => ?_)
             refine goes_ Try.func55 (by kernel_rfl) rfl #[.agg #[.int .i64 t477, .slice Ao108 t478.length co108], .agg #[.int .i64 a0_0, .slice A0_1 l0_1.length c0_1]] (by rfl) rfl rfl (by (try simp only [List.map_toArray, List.map_cons, List.map_nil]); first | done | rfl | (simp only [List.length_drop, List.length_take]; rfl)) ?_
             with_reducible refine (unify_Mgu.calls t477 (fun k_ => (((P0_1_ k_ ∨ P1_1_ k_) ∨ w.heap.size ≤ k_) ∧ (k_ ≠ gb455 ∧ k_ ≠ gb456))) _ _ t478 a0_0 (fun k_ => ((((P0_1_ k_ ∨ P1_1_ k_) ∨ w.heap.size ≤ k_) ∧ (k_ ≠ gb455 ∧ k_ ≠ gb456)) ∧ some k_ ≠ (.slice Ao108 t478.length co108 : Value).ownBlock)) _ _ l0_1 t481 t484 t485 _ ?side1 ?side2 A73.out).mono ?_
             (case side1 => exact Kd.N_V (HO480.out))
             (case side2 => exact HO_456001.out)
             rintro e w109 ⟨v482, rfl, ho0, hb⟩
             refine ⟨_, rfl, ?_⟩
             have n0_ := Aside0.mk (Kd.V_below (by (with_reducible repeat (first | apply vA | apply vN | apply vD)); exact HO_456001.out) hb)
             have n1_ := Aside0.mk (Kd.V_below (by (with_reducible repeat (first | apply vA | apply vN | apply vD)); exact HO_457001.out) hb)
             have n2_ := Aside0.mk (Kd.V_below (by (with_reducible repeat (first | apply vA | apply vN | apply vD)); exact HO474.out) hb)
             have n3_ := Aside0.mk (Kd.N_below (by (with_reducible repeat (first | apply nA | apply nN | apply nD)); exact HO480.out) hb)
             have n4_ := Aside0.mk (Kd.V_lower (Kd.V_mono (ok' := fun k_ => ((P0_1_ k_ ∨ P1_1_ k_) ∨ w.heap.size ≤ k_) ∧ k_ ≠ gb455 ∧ k_ ≠ gb456) ho0 (fun k_ hk_ => ⟨Or.elim hk_ (fun hs_ => Or.elim hs_ (fun hs_ => hs_.1) (fun hs_ => hs_.1.1)) (fun hn_ => (.inr (Nat.le_trans (below_size (by repeat (first | (with_reducible first | exact HB.out | apply wA | apply wN | apply wD | refine wS ?_ GE455.out | refine wS ?_ GE456.out) | exact HB.out))) hn_))), Or.elim hk_ (fun hs_ => Or.elim hs_ (fun hs_ => hs_.2.1) (fun hs_ => hs_.1.2.1)) (fun hn_ => (Kd.freshB (g := gb455) (o := .cells #[.int .i64 a0_0, .slice A0_1 l0_1.length c0_1] 25 (0, 0)) (by (with_reducible repeat (first | refine bN ?_ _ | refine bD ?_ | refine bA ?_ _)); exact BK455.out) k_ hn_)), Or.elim hk_ (fun hs_ => Or.elim hs_ (fun hs_ => hs_.2.2) (fun hs_ => hs_.1.2.2)) (fun hn_ => (Kd.freshB (g := gb456) (o := .cells #[.int .i64 a1_0, .slice A1_1 l1_1.length c1_1] 25 (0, 0)) (by (with_reducible repeat (first | refine bN ?_ _ | refine bD ?_ | refine bA ?_ _)); exact BK456.out) k_ hn_))⟩)) (below_size (by repeat (first | (with_reducible first | exact HB.out | apply wA | apply wN | apply wD | refine wS ?_ GE455.out | refine wS ?_ GE456.out) | exact HB.out))))
             have n5_ := Aside0.mk (blk_below (g := gb455) (o := .cells #[.int .i64 a0_0, .slice A0_1 l0_1.length c0_1] 25 (0, 0)) (by (with_reducible repeat (first | refine bN ?_ _ | refine bD ?_ | refine bA ?_ _)); exact BK455.out) hb)
             have n6_ := Aside0.mk (blk_below (g := gb456) (o := .cells #[.int .i64 a1_0, .slice A1_1 l1_1.length c1_1] 25 (0, 0)) (by (with_reducible repeat (first | refine bN ?_ _ | refine bD ?_ | refine bA ?_ _)); exact BK456.out) hb)
             have n7_ := Aside0.mk (below_step (by repeat (first | (with_reducible first | exact HB.out | apply wA | apply wN | apply wD | refine wS ?_ GE455.out | refine wS ?_ GE456.out) | exact HB.out)) hb)
             clear HO_456001
             clear HO_457001
             clear HO474
             clear HO480
             clear BK455
             clear BK456
             clear HB
             have HO_456001 := n0_
             have HO_457001 := n1_
             have HO474 := n2_
             have HO480 := n3_
             have HO483 := n4_
             have BK455 := n5_
             have BK456 := n6_
             have HB := n7_
             clear n0_ n1_ n2_ n3_ n4_ n5_ n6_ n7_
             (try clear hb)
             (try clear hb2)
             (try clear hk)
             (try clear hi)
             (try clear ho0)
             refine hK.out _ _ ⟨(blk_cell BK455.out 0).trans rfl, (blk_cell BK455.out 1).trans rfl⟩ (fun hHeld => ?_)
             clear hK K
             refine norm_ (a' := ?_) ?_ ?_
             rotate_left
             ·show Act.put _ (some 96) _ = _
              simp only [Act.put, sT, s0, sS, i64_w, i32_w]
              rfl
             refine pure_ (i := 4) (N := some 92) (v := ?_) (a' := ?_) #[T_, T_, T_, T_, T_, F_, F_, F_, F_, F_, F_] rfl rfl (any_of HT_.out (by kernel_rfl)) (fun _ _ _ h => h) (Or.inl ⟨by rfl, ?_⟩) ?_ ?_
             rotate_left
             ·intro w'
              go_simp
              with_reducible rfl
             rotate_left
             ·simp only [Act.put, sT, s0, sS, i64_w, i32_w]
              rfl
             refine pure_ (i := 5) (N := some 97) (v := ?_) (a' := ?_) #[T_, T_, T_, T_, T_, T_, F_, F_, F_, F_, F_] rfl rfl (any_of HT_.out (by kernel_rfl)) (fun _ _ _ h => h) (Or.inl ⟨by rfl, ?_⟩) ?_ ?_
             rotate_left
             ·intro w'
              go_simp
              with_reducible rfl
             rotate_left
             ·simp only [Act.put, sT, s0, sS, i64_w, i32_w]
              rfl
             refine pure_ (i := 6) (N := some 98) (v := ?_) (a' := ?_) #[T_, T_, T_, T_, T_, T_, T_, F_, F_, F_, F_] rfl rfl (any_of HT_.out (by kernel_rfl)) (fun _ _ _ h => h) (Or.inl ⟨by rfl, ?_⟩) ?_ ?_
             rotate_left
             ·intro w'
              go_simp
              with_reducible rfl
             rotate_left
             ·simp only [Act.put, sT, s0, sS, i64_w, i32_w]
              rfl
             refine pure_ (i := 7) (N := some 99) (v := ?_) (a' := ?_) #[T_, T_, T_, T_, T_, T_, T_, T_, F_, F_, F_] rfl rfl (any_of HT_.out (by kernel_rfl)) (fun _ _ _ h => h) (Or.inl ⟨by rfl, ?_⟩) ?_ ?_
             rotate_left
             ·intro w'
              go_simp
              with_reducible rfl
             rotate_left
             ·simp only [Act.put, sT, s0, sS, i64_w, i32_w]
              rfl
             refine pure_ (i := 8) (N := some 16) (v := ?_) (a' := ?_) #[T_, T_, T_, T_, T_, T_, T_, T_, T_, F_, F_] rfl rfl (any_of HT_.out (by kernel_rfl)) (fun _ _ _ h => h) (Or.inl ⟨by rfl, ?_⟩) ?_ ?_
             rotate_left
             ·intro w'
              go_simp
              with_reducible rfl
             rotate_left
             ·simp only [Act.put, sT, s0, sS, i64_w, i32_w]
              rfl
             refine pure_ (i := 9) (N := some 17) (v := ?_) (a' := ?_) #[T_, T_, T_, T_, T_, T_, T_, T_, T_, T_, F_] rfl rfl (any_of HT_.out (by kernel_rfl)) (fun _ _ _ h => h) (Or.inl ⟨by rfl, ?_⟩) ?_ ?_
             rotate_left
             ·intro w'
              go_simp
              with_reducible rfl
             rotate_left
             ·simp only [Act.put, sT, s0, sS, i64_w, i32_w]
              rfl
             refine pure_ (i := 10) (N := some 18) (v := ?_) (a' := ?_) #[T_, T_, T_, T_, T_, T_, T_, T_, T_, T_, T_] rfl rfl (any_of HT_.out (by kernel_rfl)) (fun _ _ _ h => h) (Or.inl ⟨by rfl, ?_⟩) ?_ ?_
             rotate_left
             ·intro w'
              go_simp
              with_reducible rfl
             rotate_left
             ·simp only [Act.put, sT, s0, sS, i64_w, i32_w]
              rfl
             refine done_ (done_of HT_.out (by kernel_rfl)) ?_
             have hcz110_0 : w109.cell? ⟨gb455, 0, none⟩ = some (.int .i64 a0_0) := (blk_cell BK455.out 0).trans rfl
             have hcz110_1 : w109.cell? ⟨gb455, 1, none⟩ = some (.slice A0_1 l0_1.length c0_1) := (blk_cell BK455.out 1).trans rfl
             have hfz110_0 := blk_frozen BK455.out 0
             have hfz110_1 := blk_frozen BK455.out 1
             try go_wp2_with (first | ((with_reducible refine gate_callee (f := 57) rfl ?_); refine goesL_ (some 105) rfl rfl Try.func57 (by kernel_rfl) rfl #[] rfl (by (try simp only [List.map_toArray, List.map_cons, List.map_nil]); first | done | rfl | (simp only [List.length_drop, List.length_take]; rfl)) ?_; (with_reducible refine (elenchuslaw04_awake.calls  true _ A74.out).mono ?_); rintro e w111 ⟨rfl, hb⟩; refine ⟨_, rfl, ?_⟩; have n0_ := Aside0.mk (Kd.V_below (by (with_reducible repeat (first | apply vA | apply vN | apply vD)); exact HO_456001.out) hb); have n1_ := Aside0.mk (Kd.V_below (by (with_reducible repeat (first | apply vA | apply vN | apply vD)); exact HO_457001.out) hb); have n2_ := Aside0.mk (Kd.V_below (by (with_reducible repeat (first | apply vA | apply vN | apply vD)); exact HO474.out) hb); have n3_ := Aside0.mk (Kd.N_below (by (with_reducible repeat (first | apply nA | apply nN | apply nD)); exact HO480.out) hb); have n4_ := Aside0.mk (Kd.V_below (by (with_reducible repeat (first | apply vA | apply vN | apply vD)); exact HO483.out) hb); have n5_ := Aside0.mk (blk_below (g := gb455) (o := .cells #[.int .i64 a0_0, .slice A0_1 l0_1.length c0_1] 25 (0, 0)) (by (with_reducible repeat (first | refine bN ?_ _ | refine bD ?_ | refine bA ?_ _)); exact BK455.out) hb); have n6_ := Aside0.mk (blk_below (g := gb456) (o := .cells #[.int .i64 a1_0, .slice A1_1 l1_1.length c1_1] 25 (0, 0)) (by (with_reducible repeat (first | refine bN ?_ _ | refine bD ?_ | refine bA ?_ _)); exact BK456.out) hb); have n7_ := Aside0.mk (below_step (by repeat (first | (with_reducible first | exact HB.out | apply wA | apply wN | apply wD | refine wS ?_ GE455.out | refine wS ?_ GE456.out) | exact HB.out)) hb); clear HO_456001; clear HO_457001; clear HO474; clear HO480; clear HO483; clear BK455; clear BK456; clear HB; have HO_456001 := n0_; have HO_457001 := n1_; have HO474 := n2_; have HO480 := n3_; have HO483 := n4_; have BK455 := n5_; have BK456 := n6_; have HB := n7_; clear n0_ n1_ n2_ n3_ n4_ n5_ n6_ n7_; (try clear hb); (try clear hb2); (try clear hk); (try clear hi)))
             go_ret
             exact ⟨by first | rfl | (simp [errW_none, errW_some] <;> rfl) | (simp [*, errW_none, errW_some] <;> rfl), by repeat (first | (with_reducible first | exact HB.out | apply wA | apply wN | apply wD | refine wS ?_ GE455.out | refine wS ?_ GE456.out) | exact HB.out)⟩
           ·rw [if_neg c76] at H
            have c76b0 : (t476 == 1) = false := beq_eq_false_iff_ne.mpr c76
            have c76b1 : (t476 != 1) = true := bne_iff_ne.mpr c76
            by_cases c112 : t475 = true
            ·subst c112
             have H1 : (if (t472.length : Int) = 0 then (if t485 = 0 then (if a0_0 = (wrap64 ((-1) - a2)) then (some (t484 == true)) else ((term_Vars.f a0_0 l0_1).bind fun t491 => ((elenchusref01_In.f a2 t491).bind fun t494 => (some (t484 == (!t494)))))) else (some true)) else (some false)) = some r := by rw [if_pos rfl] at H; exact H
             clear H
             have H := H1
             clear H1
             by_cases c113 : (t472.length : Int) = 0
             ·rw [if_pos c113] at H
              have c113b0 : ((t472.length : Int) == 0) = true := beq_iff_eq.mpr c113
              have c113b1 : ((t472.length : Int) != 0) = false := bne_eq_false_iff_eq.mpr c113
              clear c113
              by_cases c114 : t485 = 0
              ·rw [if_pos c114] at H
               have c114b0 : (t485 == 0) = true := beq_iff_eq.mpr c114
               have c114b1 : (t485 != 0) = false := bne_eq_false_iff_eq.mpr c114
               clear c114
               by_cases c115 : a0_0 = (wrap64 ((-1) - a2))
               ·rw [if_pos c115] at H
                have c115b0 : (a0_0 == (wrap64 ((-1) - a2))) = true := beq_iff_eq.mpr c115
                have c115b1 : (a0_0 != (wrap64 ((-1) - a2))) = false := bne_eq_false_iff_eq.mpr c115
                clear c115
                obtain rfl := Option.some.inj H
                have hnb116 := NB455_456.out
                have hnc116 := NB456_455.out
                have hcz117_0 : wc.cell? ⟨gb455, 0, none⟩ = some (.int .i64 a0_0) := (blk_cell BK455.out 0).trans rfl
                have hcz117_1 : wc.cell? ⟨gb455, 1, none⟩ = some (.slice A0_1 l0_1.length c0_1) := (blk_cell BK455.out 1).trans rfl
                have hfz117_0 := blk_frozen BK455.out 0
                have hfz117_1 := blk_frozen BK455.out 1
                try go_wp2_with (first | ((with_reducible refine gate_callee (f := 55) rfl ?_); refine goesL_ (some 88) rfl rfl Try.func55 (by kernel_rfl) rfl #[.agg #[.int .i64 a0_0, .slice A0_1 l0_1.length c0_1], .agg #[.int .i64 a0_0, .slice A0_1 l0_1.length c0_1]] rfl (by (try simp only [List.map_toArray, List.map_cons, List.map_nil]); first | done | rfl | (simp only [List.length_drop, List.length_take]; rfl)) ?_; (with_reducible refine (unify_Mgu.calls a0_0 (fun k_ => (((P0_1_ k_ ∨ P1_1_ k_) ∨ w.heap.size ≤ k_) ∧ (k_ ≠ gb455 ∧ k_ ≠ gb456))) _ _ l0_1 a0_0 (fun k_ => (((P0_1_ k_ ∨ P1_1_ k_) ∨ w.heap.size ≤ k_) ∧ (k_ ≠ gb455 ∧ k_ ≠ gb456))) _ _ l0_1 t472 true t476 _ ?side1 ?side2 A71.out).mono ?_); (case side1 => exact HO_456001.out); (case side2 => exact HO_456001.out); rintro e w118 ⟨v473, rfl, ho0, hb⟩; refine ⟨_, rfl, ?_⟩; have n0_ := Aside0.mk (Kd.V_below (by (with_reducible repeat (first | apply vA | apply vN | apply vD)); exact HO_456001.out) hb); have n1_ := Aside0.mk (Kd.V_below (by (with_reducible repeat (first | apply vA | apply vN | apply vD)); exact HO_457001.out) hb); have n2_ := Aside0.mk (Kd.V_lower (Kd.V_mono (ok' := fun k_ => ((P0_1_ k_ ∨ P1_1_ k_) ∨ w.heap.size ≤ k_) ∧ k_ ≠ gb455 ∧ k_ ≠ gb456) ho0 (fun k_ hk_ => ⟨Or.elim hk_ (fun hs_ => Or.elim hs_ (fun hs_ => hs_.1) (fun hs_ => hs_.1)) (fun hn_ => (.inr (Nat.le_trans (below_size (by repeat (first | (with_reducible first | exact HB.out | apply wA | apply wN | apply wD | refine wS ?_ GE455.out | refine wS ?_ GE456.out) | exact HB.out))) hn_))), Or.elim hk_ (fun hs_ => Or.elim hs_ (fun hs_ => hs_.2.1) (fun hs_ => hs_.2.1)) (fun hn_ => (Kd.freshB (g := gb455) (o := .cells #[.int .i64 a0_0, .slice A0_1 l0_1.length c0_1] 25 (0, 0)) (by (with_reducible repeat (first | refine bN ?_ _ | refine bD ?_ | refine bA ?_ _)); exact BK455.out) k_ hn_)), Or.elim hk_ (fun hs_ => Or.elim hs_ (fun hs_ => hs_.2.2) (fun hs_ => hs_.2.2)) (fun hn_ => (Kd.freshB (g := gb456) (o := .cells #[.int .i64 a1_0, .slice A1_1 l1_1.length c1_1] 25 (0, 0)) (by (with_reducible repeat (first | refine bN ?_ _ | refine bD ?_ | refine bA ?_ _)); exact BK456.out) k_ hn_))⟩)) (below_size (by repeat (first | (with_reducible first | exact HB.out | apply wA | apply wN | apply wD | refine wS ?_ GE455.out | refine wS ?_ GE456.out) | exact HB.out)))); have n3_ := Aside0.mk (blk_below (g := gb455) (o := .cells #[.int .i64 a0_0, .slice A0_1 l0_1.length c0_1] 25 (0, 0)) (by (with_reducible repeat (first | refine bN ?_ _ | refine bD ?_ | refine bA ?_ _)); exact BK455.out) hb); have n4_ := Aside0.mk (blk_below (g := gb456) (o := .cells #[.int .i64 a1_0, .slice A1_1 l1_1.length c1_1] 25 (0, 0)) (by (with_reducible repeat (first | refine bN ?_ _ | refine bD ?_ | refine bA ?_ _)); exact BK456.out) hb); have n5_ := Aside0.mk (below_step (by repeat (first | (with_reducible first | exact HB.out | apply wA | apply wN | apply wD | refine wS ?_ GE455.out | refine wS ?_ GE456.out) | exact HB.out)) hb); clear HO_456001; clear HO_457001; clear BK455; clear BK456; clear HB; have HO_456001 := n0_; have HO_457001 := n1_; have HO474 := n2_; have BK455 := n3_; have BK456 := n4_; have HB := n5_; clear n0_ n1_ n2_ n3_ n4_ n5_; (try clear hb); (try clear hb2); (try clear hk); (try clear hi); (try clear ho0)))
                have n0_ := Aside0.mk (Kd.V_drew HO_456001.out)
                have n1_ := Aside0.mk (Kd.V_drew HO_457001.out)
                have n2_ := Aside0.mk (Kd.V_drew HO474.out)
                have n3_ := Aside0.mk (blk_drew BK455.out)
                have n4_ := Aside0.mk (blk_drew BK456.out)
                have n5_ := Aside0.mk (below_drew1 HB.out)
                clear HO_456001
                clear HO_457001
                clear HO474
                clear BK455
                clear BK456
                clear HB
                have HO_456001 := n0_
                have HO_457001 := n1_
                have HO474 := n2_
                have BK455 := n3_
                have BK456 := n4_
                have HB := n5_
                clear n0_ n1_ n2_ n3_ n4_ n5_
                refine start_ (n := 11) (S := fun w' => w'.cell? ⟨gb455, 0, none⟩ = some (.int .i64 a0_0) ∧ w'.cell? ⟨gb455, 1, none⟩ = some (.slice A0_1 l0_1.length c0_1)) (ds := []) #[F_, F_, F_, F_, F_, F_, F_, F_, F_, F_, F_] (by kernel_rfl) rfl rfl ⟨(blk_cell BK455.out 0).trans rfl, (blk_cell BK455.out 1).trans rfl⟩ (fun hHeld => ?_); refine with_tabW elenchuslaw04_UnifySides.tab10 elenchuslaw04_UnifySides.bits10 (fun HT_ HW_ => ?_)
                generalize w118.drew = w119 at HO_456001 HO_457001 HO474 BK455 BK456 HB hHeld ⊢
                refine pure_ (i := 0) (N := some 93) (v := ?_) (a' := ?_) #[T_, F_, F_, F_, F_, F_, F_, F_, F_, F_, F_] rfl rfl (any_of HT_.out (by kernel_rfl)) (fun _ _ _ h => h) (Or.inl ⟨by rfl, ?_⟩) ?_ ?_
                rotate_left
                ·intro w'
                 go_simp
                 with_reducible rfl
                rotate_left
                ·simp only [Act.put, sT, s0, sS, i64_w, i32_w]
                 rfl
                refine take_ (i := 2) (N := some 95) (v := ?_) (a' := ?_) #[T_, F_, T_, F_, F_, F_, F_, F_, F_, F_, F_] rfl rfl (take_ofW HT_.out HW_.out (by kernel_rfl)) (fun _ _ _ h => h) (Or.inl ⟨by rfl, ?_⟩) hHeld ?_ ?_
                rotate_left
                ·rintro w' ⟨s0, s1⟩
                 go_simp
                 with_reducible rfl
                rotate_left
                ·simp only [Act.put, sT, s0, sS, i64_w, i32_w]
                 rfl
                refine one_ (i := 1) (N := some 94) #[T_, T_, T_, F_, F_, F_, F_, F_, F_, F_, F_] rfl rfl (one_of HT_.out (by kernel_rfl)) (by decide) (fun K hK => ?_)
                refine goes_ Try.func39 (by kernel_rfl) rfl #[.int .i64 a2] (by rfl) rfl rfl (by (try simp only [List.map_toArray, List.map_cons, List.map_nil]); first | done | rfl | (simp only [List.length_drop, List.length_take]; rfl)) ?_
                with_reducible refine (elenchusref01_Var.calls a2 t477 t478 _ A72.out).mono ?_
                rintro e w120 ⟨v479, rfl, ho0, hb⟩
                refine ⟨_, rfl, ?_⟩
                have n0_ := Aside0.mk (Kd.V_elder' (by (with_reducible repeat (first | apply vA | apply vN | apply vD)); exact HO_456001.out) (by first | exact Kd.N_base ho0 | exact Kd.R_base ho0) hb)
                have n1_ := Aside0.mk (Kd.V_elder' (by (with_reducible repeat (first | apply vA | apply vN | apply vD)); exact HO_457001.out) (by first | exact Kd.N_base ho0 | exact Kd.R_base ho0) hb)
                have n2_ := Aside0.mk (Kd.V_elder' (by (with_reducible repeat (first | apply vA | apply vN | apply vD)); exact HO474.out) (by first | exact Kd.N_base ho0 | exact Kd.R_base ho0) hb)
                have n3_ := Aside0.mk (Kd.N_lower (Kd.N_mono (ok' := fun k_ => ((P0_1_ k_ ∨ P1_1_ k_) ∨ w.heap.size ≤ k_) ∧ k_ ≠ gb455 ∧ k_ ≠ gb456) (Kd.R_N (Kd.R_bound ho0)) (fun k_ hk_ => ⟨(.inr (Nat.le_trans (below_size (by repeat (first | (with_reducible first | exact HB.out | apply wA | apply wN | apply wD | refine wS ?_ GE455.out | refine wS ?_ GE456.out) | exact HB.out))) hk_.2.1)), (Kd.freshB (g := gb455) (o := .cells #[.int .i64 a0_0, .slice A0_1 l0_1.length c0_1] 25 (0, 0)) (by (with_reducible repeat (first | refine bN ?_ _ | refine bD ?_ | refine bA ?_ _)); exact BK455.out) k_ hk_.2.1), (Kd.freshB (g := gb456) (o := .cells #[.int .i64 a1_0, .slice A1_1 l1_1.length c1_1] 25 (0, 0)) (by (with_reducible repeat (first | refine bN ?_ _ | refine bD ?_ | refine bA ?_ _)); exact BK456.out) k_ hk_.2.1)⟩)) (below_size (by repeat (first | (with_reducible first | exact HB.out | apply wA | apply wN | apply wD | refine wS ?_ GE455.out | refine wS ?_ GE456.out) | exact HB.out))))
                have n4_ := Aside0.mk (blk_below (g := gb455) (o := .cells #[.int .i64 a0_0, .slice A0_1 l0_1.length c0_1] 25 (0, 0)) (by (with_reducible repeat (first | refine bN ?_ _ | refine bD ?_ | refine bA ?_ _)); exact BK455.out) hb)
                have n5_ := Aside0.mk (blk_below (g := gb456) (o := .cells #[.int .i64 a1_0, .slice A1_1 l1_1.length c1_1] 25 (0, 0)) (by (with_reducible repeat (first | refine bN ?_ _ | refine bD ?_ | refine bA ?_ _)); exact BK456.out) hb)
                have n6_ := Aside0.mk (below_step (by repeat (first | (with_reducible first | exact HB.out | apply wA | apply wN | apply wD | refine wS ?_ GE455.out | refine wS ?_ GE456.out) | exact HB.out)) hb)
                clear HO_456001
                clear HO_457001
                clear HO474
                clear BK455
                clear BK456
                clear HB
                have HO_456001 := n0_
                have HO_457001 := n1_
                have HO474 := n2_
                have HO480 := n3_
                have BK455 := n4_
                have BK456 := n5_
                have HB := n6_
                clear n0_ n1_ n2_ n3_ n4_ n5_ n6_
                (try clear hb)
                (try clear hb2)
                (try clear hk)
                (try clear hi)
                (try clear ho0)
                obtain ⟨Ao121, co121, eo121⟩ := Kd.N_slice HO480.out
                (first | subst eo121 | (injection eo121 with f1_ f2_ f3_; have f4_ := f1_.symm; have f5_ := f3_.symm; clear f1_ f2_ f3_; subst f4_; subst f5_))
                refine hK.out _ _ ⟨(blk_cell BK455.out 0).trans rfl, (blk_cell BK455.out 1).trans rfl⟩ (fun hHeld => ?_)
                clear hK K
                refine norm_ (a' := ?_) ?_ ?_
                rotate_left
                ·show Act.put _ (some 94) _ = _
                 simp only [Act.put, sT, s0, sS, i64_w, i32_w]
                 rfl
                refine one_ (i := 3) (N := some 96) #[T_, T_, T_, T_, F_, F_, F_, F_, F_, F_, F_] rfl rfl (one_of HT_.out (by kernel_rfl)) (by decide) (fun K hK => ?_)
                refine goes_ Try.func55 (by kernel_rfl) rfl #[.agg #[.int .i64 t477, .slice Ao121 t478.length co121], .agg #[.int .i64 a0_0, .slice A0_1 l0_1.length c0_1]] (by rfl) rfl rfl (by (try simp only [List.map_toArray, List.map_cons, List.map_nil]); first | done | rfl | (simp only [List.length_drop, List.length_take]; rfl)) ?_
                with_reducible refine (unify_Mgu.calls t477 (fun k_ => (((P0_1_ k_ ∨ P1_1_ k_) ∨ w.heap.size ≤ k_) ∧ (k_ ≠ gb455 ∧ k_ ≠ gb456))) _ _ t478 a0_0 (fun k_ => ((((P0_1_ k_ ∨ P1_1_ k_) ∨ w.heap.size ≤ k_) ∧ (k_ ≠ gb455 ∧ k_ ≠ gb456)) ∧ some k_ ≠ (.slice Ao121 t478.length co121 : Value).ownBlock)) _ _ l0_1 t481 t484 t485 _ ?side1 ?side2 A73.out).mono ?_
                (case side1 => exact Kd.N_V (HO480.out))
                (case side2 => exact HO_456001.out)
                rintro e w122 ⟨v482, rfl, ho0, hb⟩
                refine ⟨_, rfl, ?_⟩
                have n0_ := Aside0.mk (Kd.V_below (by (with_reducible repeat (first | apply vA | apply vN | apply vD)); exact HO_456001.out) hb)
                have n1_ := Aside0.mk (Kd.V_below (by (with_reducible repeat (first | apply vA | apply vN | apply vD)); exact HO_457001.out) hb)
                have n2_ := Aside0.mk (Kd.V_below (by (with_reducible repeat (first | apply vA | apply vN | apply vD)); exact HO474.out) hb)
                have n3_ := Aside0.mk (Kd.N_below (by (with_reducible repeat (first | apply nA | apply nN | apply nD)); exact HO480.out) hb)
                have n4_ := Aside0.mk (Kd.V_lower (Kd.V_mono (ok' := fun k_ => ((P0_1_ k_ ∨ P1_1_ k_) ∨ w.heap.size ≤ k_) ∧ k_ ≠ gb455 ∧ k_ ≠ gb456) ho0 (fun k_ hk_ => ⟨Or.elim hk_ (fun hs_ => Or.elim hs_ (fun hs_ => hs_.1) (fun hs_ => hs_.1.1)) (fun hn_ => (.inr (Nat.le_trans (below_size (by repeat (first | (with_reducible first | exact HB.out | apply wA | apply wN | apply wD | refine wS ?_ GE455.out | refine wS ?_ GE456.out) | exact HB.out))) hn_))), Or.elim hk_ (fun hs_ => Or.elim hs_ (fun hs_ => hs_.2.1) (fun hs_ => hs_.1.2.1)) (fun hn_ => (Kd.freshB (g := gb455) (o := .cells #[.int .i64 a0_0, .slice A0_1 l0_1.length c0_1] 25 (0, 0)) (by (with_reducible repeat (first | refine bN ?_ _ | refine bD ?_ | refine bA ?_ _)); exact BK455.out) k_ hn_)), Or.elim hk_ (fun hs_ => Or.elim hs_ (fun hs_ => hs_.2.2) (fun hs_ => hs_.1.2.2)) (fun hn_ => (Kd.freshB (g := gb456) (o := .cells #[.int .i64 a1_0, .slice A1_1 l1_1.length c1_1] 25 (0, 0)) (by (with_reducible repeat (first | refine bN ?_ _ | refine bD ?_ | refine bA ?_ _)); exact BK456.out) k_ hn_))⟩)) (below_size (by repeat (first | (with_reducible first | exact HB.out | apply wA | apply wN | apply wD | refine wS ?_ GE455.out | refine wS ?_ GE456.out) | exact HB.out))))
                have n5_ := Aside0.mk (blk_below (g := gb455) (o := .cells #[.int .i64 a0_0, .slice A0_1 l0_1.length c0_1] 25 (0, 0)) (by (with_reducible repeat (first | refine bN ?_ _ | refine bD ?_ | refine bA ?_ _)); exact BK455.out) hb)
                have n6_ := Aside0.mk (blk_below (g := gb456) (o := .cells #[.int .i64 a1_0, .slice A1_1 l1_1.length c1_1] 25 (0, 0)) (by (with_reducible repeat (first | refine bN ?_ _ | refine bD ?_ | refine bA ?_ _)); exact BK456.out) hb)
                have n7_ := Aside0.mk (below_step (by repeat (first | (with_reducible first | exact HB.out | apply wA | apply wN | apply wD | refine wS ?_ GE455.out | refine wS ?_ GE456.out) | exact HB.out)) hb)
                clear HO_456001
                clear HO_457001
                clear HO474
                clear HO480
                clear BK455
                clear BK456
                clear HB
                have HO_456001 := n0_
                have HO_457001 := n1_
                have HO474 := n2_
                have HO480 := n3_
                have HO483 := n4_
                have BK455 := n5_
                have BK456 := n6_
                have HB := n7_
                clear n0_ n1_ n2_ n3_ n4_ n5_ n6_ n7_
                (try clear hb)
                (try clear hb2)
                (try clear hk)
                (try clear hi)
                (try clear ho0)
                refine hK.out _ _ ⟨(blk_cell BK455.out 0).trans rfl, (blk_cell BK455.out 1).trans rfl⟩ (fun hHeld => ?_)
                clear hK K
                refine norm_ (a' := ?_) ?_ ?_
                rotate_left
                ·show Act.put _ (some 96) _ = _
                 simp only [Act.put, sT, s0, sS, i64_w, i32_w]
                 rfl
                refine pure_ (i := 4) (N := some 92) (v := ?_) (a' := ?_) #[T_, T_, T_, T_, T_, F_, F_, F_, F_, F_, F_] rfl rfl (any_of HT_.out (by kernel_rfl)) (fun _ _ _ h => h) (Or.inl ⟨by rfl, ?_⟩) ?_ ?_
                rotate_left
                ·intro w'
                 go_simp
                 with_reducible rfl
                rotate_left
                ·simp only [Act.put, sT, s0, sS, i64_w, i32_w]
                 rfl
                refine pure_ (i := 5) (N := some 97) (v := ?_) (a' := ?_) #[T_, T_, T_, T_, T_, T_, F_, F_, F_, F_, F_] rfl rfl (any_of HT_.out (by kernel_rfl)) (fun _ _ _ h => h) (Or.inl ⟨by rfl, ?_⟩) ?_ ?_
                rotate_left
                ·intro w'
                 go_simp
                 with_reducible rfl
                rotate_left
                ·simp only [Act.put, sT, s0, sS, i64_w, i32_w]
                 rfl
                refine pure_ (i := 6) (N := some 98) (v := ?_) (a' := ?_) #[T_, T_, T_, T_, T_, T_, T_, F_, F_, F_, F_] rfl rfl (any_of HT_.out (by kernel_rfl)) (fun _ _ _ h => h) (Or.inl ⟨by rfl, ?_⟩) ?_ ?_
                rotate_left
                ·intro w'
                 go_simp
                 with_reducible rfl
                rotate_left
                ·simp only [Act.put, sT, s0, sS, i64_w, i32_w]
                 rfl
                refine pure_ (i := 7) (N := some 99) (v := ?_) (a' := ?_) #[T_, T_, T_, T_, T_, T_, T_, T_, F_, F_, F_] rfl rfl (any_of HT_.out (by kernel_rfl)) (fun _ _ _ h => h) (Or.inl ⟨by rfl, ?_⟩) ?_ ?_
                rotate_left
                ·intro w'
                 go_simp
                 with_reducible rfl
                rotate_left
                ·simp only [Act.put, sT, s0, sS, i64_w, i32_w]
                 rfl
                refine pure_ (i := 8) (N := some 16) (v := ?_) (a' := ?_) #[T_, T_, T_, T_, T_, T_, T_, T_, T_, F_, F_] rfl rfl (any_of HT_.out (by kernel_rfl)) (fun _ _ _ h => h) (Or.inl ⟨by rfl, ?_⟩) ?_ ?_
                rotate_left
                ·intro w'
                 go_simp
                 with_reducible rfl
                rotate_left
                ·simp only [Act.put, sT, s0, sS, i64_w, i32_w]
                 rfl
                refine pure_ (i := 9) (N := some 17) (v := ?_) (a' := ?_) #[T_, T_, T_, T_, T_, T_, T_, T_, T_, T_, F_] rfl rfl (any_of HT_.out (by kernel_rfl)) (fun _ _ _ h => h) (Or.inl ⟨by rfl, ?_⟩) ?_ ?_
                rotate_left
                ·intro w'
                 go_simp
                 with_reducible rfl
                rotate_left
                ·simp only [Act.put, sT, s0, sS, i64_w, i32_w]
                 rfl
                refine pure_ (i := 10) (N := some 18) (v := ?_) (a' := ?_) #[T_, T_, T_, T_, T_, T_, T_, T_, T_, T_, T_] rfl rfl (any_of HT_.out (by kernel_rfl)) (fun _ _ _ h => h) (Or.inl ⟨by rfl, ?_⟩) ?_ ?_
                rotate_left
                ·intro w'
                 go_simp
                 with_reducible rfl
                rotate_left
                ·simp only [Act.put, sT, s0, sS, i64_w, i32_w]
                 rfl
                refine done_ (done_of HT_.out (by kernel_rfl)) ?_
                have hcz123_0 : w122.cell? ⟨gb455, 0, none⟩ = some (.int .i64 a0_0) := (blk_cell BK455.out 0).trans rfl
                have hcz123_1 : w122.cell? ⟨gb455, 1, none⟩ = some (.slice A0_1 l0_1.length c0_1) := (blk_cell BK455.out 1).trans rfl
                have hfz123_0 := blk_frozen BK455.out 0
                have hfz123_1 := blk_frozen BK455.out 1
                try go_wp2_with (first | ((with_reducible refine gate_callee (f := 57) rfl ?_); refine goesL_ (some 105) rfl rfl Try.func57 (by kernel_rfl) rfl #[] rfl (by (try simp only [List.map_toArray, List.map_cons, List.map_nil]); first | done | rfl | (simp only [List.length_drop, List.length_take]; rfl)) ?_; (with_reducible refine (elenchuslaw04_awake.calls  true _ A74.out).mono ?_); rintro e w124 ⟨rfl, hb⟩; refine ⟨_, rfl, ?_⟩; have n0_ := Aside0.mk (Kd.V_below (by (with_reducible repeat (first | apply vA | apply vN | apply vD)); exact HO_456001.out) hb); have n1_ := Aside0.mk (Kd.V_below (by (with_reducible repeat (first | apply vA | apply vN | apply vD)); exact HO_457001.out) hb); have n2_ := Aside0.mk (Kd.V_below (by (with_reducible repeat (first | apply vA | apply vN | apply vD)); exact HO474.out) hb); have n3_ := Aside0.mk (Kd.N_below (by (with_reducible repeat (first | apply nA | apply nN | apply nD)); exact HO480.out) hb); have n4_ := Aside0.mk (Kd.V_below (by (with_reducible repeat (first | apply vA | apply vN | apply vD)); exact HO483.out) hb); have n5_ := Aside0.mk (blk_below (g := gb455) (o := .cells #[.int .i64 a0_0, .slice A0_1 l0_1.length c0_1] 25 (0, 0)) (by (with_reducible repeat (first | refine bN ?_ _ | refine bD ?_ | refine bA ?_ _)); exact BK455.out) hb); have n6_ := Aside0.mk (blk_below (g := gb456) (o := .cells #[.int .i64 a1_0, .slice A1_1 l1_1.length c1_1] 25 (0, 0)) (by (with_reducible repeat (first | refine bN ?_ _ | refine bD ?_ | refine bA ?_ _)); exact BK456.out) hb); have n7_ := Aside0.mk (below_step (by repeat (first | (with_reducible first | exact HB.out | apply wA | apply wN | apply wD | refine wS ?_ GE455.out | refine wS ?_ GE456.out) | exact HB.out)) hb); clear HO_456001; clear HO_457001; clear HO474; clear HO480; clear HO483; clear BK455; clear BK456; clear HB; have HO_456001 := n0_; have HO_457001 := n1_; have HO474 := n2_; have HO480 := n3_; have HO483 := n4_; have BK455 := n5_; have BK456 := n6_; have HB := n7_; clear n0_ n1_ n2_ n3_ n4_ n5_ n6_ n7_; (try clear hb); (try clear hb2); (try clear hk); (try clear hi); obtain ⟨Ao125, co125, eo125⟩ := Kd.V_slice HO474.out; subst eo125))
                go_ret
                exact ⟨by first | rfl | (simp [errW_none, errW_some] <;> rfl) | (simp [*, errW_none, errW_some] <;> rfl), by repeat (first | (with_reducible first | exact HB.out | apply wA | apply wN | apply wD | refine wS ?_ GE455.out | refine wS ?_ GE456.out) | exact HB.out)⟩
               ·rw [if_neg c115] at H
                have c115b0 : (a0_0 == (wrap64 ((-1) - a2))) = false := beq_eq_false_iff_ne.mpr c115
                have c115b1 : (a0_0 != (wrap64 ((-1) - a2))) = true := bne_iff_ne.mpr c115
                replace H := Option.bind_eq_some_iff.mp H
                obtain ⟨t491, A1260, H⟩ := H
                replace H : ((elenchusref01_In.f a2 t491).bind fun t494 => (some (t484 == (!t494)))) = some r := H
                have A126 := Aside0.mk A1260
                clear A1260
                replace H := Option.bind_eq_some_iff.mp H
                obtain ⟨t494, A1270, H⟩ := H
                replace H : (some (t484 == (!t494))) = some r := H
                have A127 := Aside0.mk A1270
                clear A1270
                obtain rfl := Option.some.inj H
                have hnb128 := NB455_456.out
                have hnc128 := NB456_455.out
                have hcz129_0 : wc.cell? ⟨gb455, 0, none⟩ = some (.int .i64 a0_0) := (blk_cell BK455.out 0).trans rfl
                have hcz129_1 : wc.cell? ⟨gb455, 1, none⟩ = some (.slice A0_1 l0_1.length c0_1) := (blk_cell BK455.out 1).trans rfl
                have hfz129_0 := blk_frozen BK455.out 0
                have hfz129_1 := blk_frozen BK455.out 1
                try go_wp2_with (first | ((with_reducible refine gate_callee (f := 55) rfl ?_); refine goesL_ (some 88) rfl rfl Try.func55 (by kernel_rfl) rfl #[.agg #[.int .i64 a0_0, .slice A0_1 l0_1.length c0_1], .agg #[.int .i64 a0_0, .slice A0_1 l0_1.length c0_1]] rfl (by (try simp only [List.map_toArray, List.map_cons, List.map_nil]); first | done | rfl | (simp only [List.length_drop, List.length_take]; rfl)) ?_; (with_reducible refine (unify_Mgu.calls a0_0 (fun k_ => (((P0_1_ k_ ∨ P1_1_ k_) ∨ w.heap.size ≤ k_) ∧ (k_ ≠ gb455 ∧ k_ ≠ gb456))) _ _ l0_1 a0_0 (fun k_ => (((P0_1_ k_ ∨ P1_1_ k_) ∨ w.heap.size ≤ k_) ∧ (k_ ≠ gb455 ∧ k_ ≠ gb456))) _ _ l0_1 t472 true t476 _ ?side1 ?side2 A71.out).mono ?_); (case side1 => exact HO_456001.out); (case side2 => exact HO_456001.out); rintro e w130 ⟨v473, rfl, ho0, hb⟩; refine ⟨_, rfl, ?_⟩; have n0_ := Aside0.mk (Kd.V_below (by (with_reducible repeat (first | apply vA | apply vN | apply vD)); exact HO_456001.out) hb); have n1_ := Aside0.mk (Kd.V_below (by (with_reducible repeat (first | apply vA | apply vN | apply vD)); exact HO_457001.out) hb); have n2_ := Aside0.mk (Kd.V_lower (Kd.V_mono (ok' := fun k_ => ((P0_1_ k_ ∨ P1_1_ k_) ∨ w.heap.size ≤ k_) ∧ k_ ≠ gb455 ∧ k_ ≠ gb456) ho0 (fun k_ hk_ => ⟨Or.elim hk_ (fun hs_ => Or.elim hs_ (fun hs_ => hs_.1) (fun hs_ => hs_.1)) (fun hn_ => (.inr (Nat.le_trans (below_size (by repeat (first | (with_reducible first | exact HB.out | apply wA | apply wN | apply wD | refine wS ?_ GE455.out | refine wS ?_ GE456.out) | exact HB.out))) hn_))), Or.elim hk_ (fun hs_ => Or.elim hs_ (fun hs_ => hs_.2.1) (fun hs_ => hs_.2.1)) (fun hn_ => (Kd.freshB (g := gb455) (o := .cells #[.int .i64 a0_0, .slice A0_1 l0_1.length c0_1] 25 (0, 0)) (by (with_reducible repeat (first | refine bN ?_ _ | refine bD ?_ | refine bA ?_ _)); exact BK455.out) k_ hn_)), Or.elim hk_ (fun hs_ => Or.elim hs_ (fun hs_ => hs_.2.2) (fun hs_ => hs_.2.2)) (fun hn_ => (Kd.freshB (g := gb456) (o := .cells #[.int .i64 a1_0, .slice A1_1 l1_1.length c1_1] 25 (0, 0)) (by (with_reducible repeat (first | refine bN ?_ _ | refine bD ?_ | refine bA ?_ _)); exact BK456.out) k_ hn_))⟩)) (below_size (by repeat (first | (with_reducible first | exact HB.out | apply wA | apply wN | apply wD | refine wS ?_ GE455.out | refine wS ?_ GE456.out) | exact HB.out)))); have n3_ := Aside0.mk (blk_below (g := gb455) (o := .cells #[.int .i64 a0_0, .slice A0_1 l0_1.length c0_1] 25 (0, 0)) (by (with_reducible repeat (first | refine bN ?_ _ | refine bD ?_ | refine bA ?_ _)); exact BK455.out) hb); have n4_ := Aside0.mk (blk_below (g := gb456) (o := .cells #[.int .i64 a1_0, .slice A1_1 l1_1.length c1_1] 25 (0, 0)) (by (with_reducible repeat (first | refine bN ?_ _ | refine bD ?_ | refine bA ?_ _)); exact BK456.out) hb); have n5_ := Aside0.mk (below_step (by repeat (first | (with_reducible first | exact HB.out | apply wA | apply wN | apply wD | refine wS ?_ GE455.out | refine wS ?_ GE456.out) | exact HB.out)) hb); clear HO_456001; clear HO_457001; clear BK455; clear BK456; clear HB; have HO_456001 := n0_; have HO_457001 := n1_; have HO474 := n2_; have BK455 := n3_; have BK456 := n4_; have HB := n5_; clear n0_ n1_ n2_ n3_ n4_ n5_; (try clear hb); (try clear hb2); (try clear hk); (try clear hi); (try clear ho0)))
                have n0_ := Aside0.mk (Kd.V_drew HO_456001.out)
                have n1_ := Aside0.mk (Kd.V_drew HO_457001.out)
                have n2_ := Aside0.mk (Kd.V_drew HO474.out)
                have n3_ := Aside0.mk (blk_drew BK455.out)
                have n4_ := Aside0.mk (blk_drew BK456.out)
                have n5_ := Aside0.mk (below_drew1 HB.out)
                clear HO_456001
                clear HO_457001
                clear HO474
                clear BK455
                clear BK456
                clear HB
                have HO_456001 := n0_
                have HO_457001 := n1_
                have HO474 := n2_
                have BK455 := n3_
                have BK456 := n4_
                have HB := n5_
                clear n0_ n1_ n2_ n3_ n4_ n5_
                refine start_ (n := 11) (S := fun w' => w'.cell? ⟨gb455, 0, none⟩ = some (.int .i64 a0_0) ∧ w'.cell? ⟨gb455, 1, none⟩ = some (.slice A0_1 l0_1.length c0_1)) (ds := []) #[F_, F_, F_, F_, F_, F_, F_, F_, F_, F_, F_] (by kernel_rfl) rfl rfl ⟨(blk_cell BK455.out 0).trans rfl, (blk_cell BK455.out 1).trans rfl⟩ (fun hHeld => ?_); refine with_tabW elenchuslaw04_UnifySides.tab10 elenchuslaw04_UnifySides.bits10 (fun HT_ HW_ => ?_)
                generalize w130.drew = w131 at HO_456001 HO_457001 HO474 BK455 BK456 HB hHeld ⊢
                refine pure_ (i := 0) (N := some 93) (v := ?_) (a' := ?_) #[T_, F_, F_, F_, F_, F_, F_, F_, F_, F_, F_] rfl rfl (any_of HT_.out (by kernel_rfl)) (fun _ _ _ h => h) (Or.inl ⟨by rfl, ?_⟩) ?_ ?_
                rotate_left
                ·intro w'
                 go_simp
                 with_reducible rfl
                rotate_left
                ·simp only [Act.put, sT, s0, sS, i64_w, i32_w]
                 rfl
                refine take_ (i := 2) (N := some 95) (v := ?_) (a' := ?_) #[T_, F_, T_, F_, F_, F_, F_, F_, F_, F_, F_] rfl rfl (take_ofW HT_.out HW_.out (by kernel_rfl)) (fun _ _ _ h => h) (Or.inl ⟨by rfl, ?_⟩) hHeld ?_ ?_
                rotate_left
                ·rintro w' ⟨s0, s1⟩
                 go_simp
                 with_reducible rfl
                rotate_left
                ·simp only [Act.put, sT, s0, sS, i64_w, i32_w]
                 rfl
                refine one_ (i := 1) (N := some 94) #[T_, T_, T_, F_, F_, F_, F_, F_, F_, F_, F_] rfl rfl (one_of HT_.out (by kernel_rfl)) (by decide) (fun K hK => ?_)
                refine goes_ Try.func39 (by kernel_rfl) rfl #[.int .i64 a2] (by rfl) rfl rfl (by (try simp only [List.map_toArray, List.map_cons, List.map_nil]); first | done | rfl | (simp only [List.length_drop, List.length_take]; rfl)) ?_
                with_reducible refine (elenchusref01_Var.calls a2 t477 t478 _ A72.out).mono ?_
                rintro e w132 ⟨v479, rfl, ho0, hb⟩
                refine ⟨_, rfl, ?_⟩
                have n0_ := Aside0.mk (Kd.V_elder' (by (with_reducible repeat (first | apply vA | apply vN | apply vD)); exact HO_456001.out) (by first | exact Kd.N_base ho0 | exact Kd.R_base ho0) hb)
                have n1_ := Aside0.mk (Kd.V_elder' (by (with_reducible repeat (first | apply vA | apply vN | apply vD)); exact HO_457001.out) (by first | exact Kd.N_base ho0 | exact Kd.R_base ho0) hb)
                have n2_ := Aside0.mk (Kd.V_elder' (by (with_reducible repeat (first | apply vA | apply vN | apply vD)); exact HO474.out) (by first | exact Kd.N_base ho0 | exact Kd.R_base ho0) hb)
                have n3_ := Aside0.mk (Kd.N_lower (Kd.N_mono (ok' := fun k_ => ((P0_1_ k_ ∨ P1_1_ k_) ∨ w.heap.size ≤ k_) ∧ k_ ≠ gb455 ∧ k_ ≠ gb456) (Kd.R_N (Kd.R_bound ho0)) (fun k_ hk_ => ⟨(.inr (Nat.le_trans (below_size (by repeat (first | (with_reducible first | exact HB.out | apply wA | apply wN | apply wD | refine wS ?_ GE455.out | refine wS ?_ GE456.out) | exact HB.out))) hk_.2.1)), (Kd.freshB (g := gb455) (o := .cells #[.int .i64 a0_0, .slice A0_1 l0_1.length c0_1] 25 (0, 0)) (by (with_reducible repeat (first | refine bN ?_ _ | refine bD ?_ | refine bA ?_ _)); exact BK455.out) k_ hk_.2.1), (Kd.freshB (g := gb456) (o := .cells #[.int .i64 a1_0, .slice A1_1 l1_1.length c1_1] 25 (0, 0)) (by (with_reducible repeat (first | refine bN ?_ _ | refine bD ?_ | refine bA ?_ _)); exact BK456.out) k_ hk_.2.1)⟩)) (below_size (by repeat (first | (with_reducible first | exact HB.out | apply wA | apply wN | apply wD | refine wS ?_ GE455.out | refine wS ?_ GE456.out) | exact HB.out))))
                have n4_ := Aside0.mk (blk_below (g := gb455) (o := .cells #[.int .i64 a0_0, .slice A0_1 l0_1.length c0_1] 25 (0, 0)) (by (with_reducible repeat (first | refine bN ?_ _ | refine bD ?_ | refine bA ?_ _)); exact BK455.out) hb)
                have n5_ := Aside0.mk (blk_below (g := gb456) (o := .cells #[.int .i64 a1_0, .slice A1_1 l1_1.length c1_1] 25 (0, 0)) (by (with_reducible repeat (first | refine bN ?_ _ | refine bD ?_ | refine bA ?_ _)); exact BK456.out) hb)
                have n6_ := Aside0.mk (below_step (by repeat (first | (with_reducible first | exact HB.out | apply wA | apply wN | apply wD | refine wS ?_ GE455.out | refine wS ?_ GE456.out) | exact HB.out)) hb)
                clear HO_456001
                clear HO_457001
                clear HO474
                clear BK455
                clear BK456
                clear HB
                have HO_456001 := n0_
                have HO_457001 := n1_
                have HO474 := n2_
                have HO480 := n3_
                have BK455 := n4_
                have BK456 := n5_
                have HB := n6_
                clear n0_ n1_ n2_ n3_ n4_ n5_ n6_
                (try clear hb)
                (try clear hb2)
                (try clear hk)
                (try clear hi)
                (try clear ho0)
                obtain ⟨Ao133, co133, eo133⟩ := Kd.N_slice HO480.out
                (first | subst eo133 | (injection eo133 with f1_ f2_ f3_; have f4_ := f1_.symm; have f5_ := f3_.symm; clear f1_ f2_ f3_; subst f4_; subst f5_))
                refine hK.out _ _ ⟨(blk_cell BK455.out 0).trans rfl, (blk_cell BK455.out 1).trans rfl⟩ (fun hHeld => ?_)
                clear hK K
                refine norm_ (a' := ?_) ?_ ?_
                rotate_left
                ·show Act.put _ (some 94) _ = _
                 simp only [Act.put, sT, s0, sS, i64_w, i32_w]
                 rfl
                refine one_ (i := 3) (N := some 96) #[T_, T_, T_, T_, F_, F_, F_, F_, F_, F_, F_] rfl rfl (one_of HT_.out (by kernel_rfl)) (by decide) (fun K hK => ?_)
                refine goes_ Try.func55 (by kernel_rfl) rfl #[.agg #[.int .i64 t477, .slice Ao133 t478.length co133], .agg #[.int .i64 a0_0, .slice A0_1 l0_1.length c0_1]] (by rfl) rfl rfl (by (try simp only [List.map_toArray, List.map_cons, List.map_nil]); first | done | rfl | (simp only [List.length_drop, List.length_take]; rfl)) ?_
                with_reducible refine (unify_Mgu.calls t477 (fun k_ => (((P0_1_ k_ ∨ P1_1_ k_) ∨ w.heap.size ≤ k_) ∧ (k_ ≠ gb455 ∧ k_ ≠ gb456))) _ _ t478 a0_0 (fun k_ => ((((P0_1_ k_ ∨ P1_1_ k_) ∨ w.heap.size ≤ k_) ∧ (k_ ≠ gb455 ∧ k_ ≠ gb456)) ∧ some k_ ≠ (.slice Ao133 t478.length co133 : Value).ownBlock)) _ _ l0_1 t481 t484 t485 _ ?side1 ?side2 A73.out).mono ?_
                (case side1 => exact Kd.N_V (HO480.out))
                (case side2 => exact HO_456001.out)
                rintro e w134 ⟨v482, rfl, ho0, hb⟩
                refine ⟨_, rfl, ?_⟩
                have n0_ := Aside0.mk (Kd.V_below (by (with_reducible repeat (first | apply vA | apply vN | apply vD)); exact HO_456001.out) hb)
                have n1_ := Aside0.mk (Kd.V_below (by (with_reducible repeat (first | apply vA | apply vN | apply vD)); exact HO_457001.out) hb)
                have n2_ := Aside0.mk (Kd.V_below (by (with_reducible repeat (first | apply vA | apply vN | apply vD)); exact HO474.out) hb)
                have n3_ := Aside0.mk (Kd.N_below (by (with_reducible repeat (first | apply nA | apply nN | apply nD)); exact HO480.out) hb)
                have n4_ := Aside0.mk (Kd.V_lower (Kd.V_mono (ok' := fun k_ => ((P0_1_ k_ ∨ P1_1_ k_) ∨ w.heap.size ≤ k_) ∧ k_ ≠ gb455 ∧ k_ ≠ gb456) ho0 (fun k_ hk_ => ⟨Or.elim hk_ (fun hs_ => Or.elim hs_ (fun hs_ => hs_.1) (fun hs_ => hs_.1.1)) (fun hn_ => (.inr (Nat.le_trans (below_size (by repeat (first | (with_reducible first | exact HB.out | apply wA | apply wN | apply wD | refine wS ?_ GE455.out | refine wS ?_ GE456.out) | exact HB.out))) hn_))), Or.elim hk_ (fun hs_ => Or.elim hs_ (fun hs_ => hs_.2.1) (fun hs_ => hs_.1.2.1)) (fun hn_ => (Kd.freshB (g := gb455) (o := .cells #[.int .i64 a0_0, .slice A0_1 l0_1.length c0_1] 25 (0, 0)) (by (with_reducible repeat (first | refine bN ?_ _ | refine bD ?_ | refine bA ?_ _)); exact BK455.out) k_ hn_)), Or.elim hk_ (fun hs_ => Or.elim hs_ (fun hs_ => hs_.2.2) (fun hs_ => hs_.1.2.2)) (fun hn_ => (Kd.freshB (g := gb456) (o := .cells #[.int .i64 a1_0, .slice A1_1 l1_1.length c1_1] 25 (0, 0)) (by (with_reducible repeat (first | refine bN ?_ _ | refine bD ?_ | refine bA ?_ _)); exact BK456.out) k_ hn_))⟩)) (below_size (by repeat (first | (with_reducible first | exact HB.out | apply wA | apply wN | apply wD | refine wS ?_ GE455.out | refine wS ?_ GE456.out) | exact HB.out))))
                have n5_ := Aside0.mk (blk_below (g := gb455) (o := .cells #[.int .i64 a0_0, .slice A0_1 l0_1.length c0_1] 25 (0, 0)) (by (with_reducible repeat (first | refine bN ?_ _ | refine bD ?_ | refine bA ?_ _)); exact BK455.out) hb)
                have n6_ := Aside0.mk (blk_below (g := gb456) (o := .cells #[.int .i64 a1_0, .slice A1_1 l1_1.length c1_1] 25 (0, 0)) (by (with_reducible repeat (first | refine bN ?_ _ | refine bD ?_ | refine bA ?_ _)); exact BK456.out) hb)
                have n7_ := Aside0.mk (below_step (by repeat (first | (with_reducible first | exact HB.out | apply wA | apply wN | apply wD | refine wS ?_ GE455.out | refine wS ?_ GE456.out) | exact HB.out)) hb)
                clear HO_456001
                clear HO_457001
                clear HO474
                clear HO480
                clear BK455
                clear BK456
                clear HB
                have HO_456001 := n0_
                have HO_457001 := n1_
                have HO474 := n2_
                have HO480 := n3_
                have HO483 := n4_
                have BK455 := n5_
                have BK456 := n6_
                have HB := n7_
                clear n0_ n1_ n2_ n3_ n4_ n5_ n6_ n7_
                (try clear hb)
                (try clear hb2)
                (try clear hk)
                (try clear hi)
                (try clear ho0)
                refine hK.out _ _ ⟨(blk_cell BK455.out 0).trans rfl, (blk_cell BK455.out 1).trans rfl⟩ (fun hHeld => ?_)
                clear hK K
                refine norm_ (a' := ?_) ?_ ?_
                rotate_left
                ·show Act.put _ (some 96) _ = _
                 simp only [Act.put, sT, s0, sS, i64_w, i32_w]
                 rfl
                refine pure_ (i := 4) (N := some 92) (v := ?_) (a' := ?_) #[T_, T_, T_, T_, T_, F_, F_, F_, F_, F_, F_] rfl rfl (any_of HT_.out (by kernel_rfl)) (fun _ _ _ h => h) (Or.inl ⟨by rfl, ?_⟩) ?_ ?_
                rotate_left
                ·intro w'
                 go_simp
                 with_reducible rfl
                rotate_left
                ·simp only [Act.put, sT, s0, sS, i64_w, i32_w]
                 rfl
                refine pure_ (i := 5) (N := some 97) (v := ?_) (a' := ?_) #[T_, T_, T_, T_, T_, T_, F_, F_, F_, F_, F_] rfl rfl (any_of HT_.out (by kernel_rfl)) (fun _ _ _ h => h) (Or.inl ⟨by rfl, ?_⟩) ?_ ?_
                rotate_left
                ·intro w'
                 go_simp
                 with_reducible rfl
                rotate_left
                ·simp only [Act.put, sT, s0, sS, i64_w, i32_w]
                 rfl
                refine pure_ (i := 6) (N := some 98) (v := ?_) (a' := ?_) #[T_, T_, T_, T_, T_, T_, T_, F_, F_, F_, F_] rfl rfl (any_of HT_.out (by kernel_rfl)) (fun _ _ _ h => h) (Or.inl ⟨by rfl, ?_⟩) ?_ ?_
                rotate_left
                ·intro w'
                 go_simp
                 with_reducible rfl
                rotate_left
                ·simp only [Act.put, sT, s0, sS, i64_w, i32_w]
                 rfl
                refine pure_ (i := 7) (N := some 99) (v := ?_) (a' := ?_) #[T_, T_, T_, T_, T_, T_, T_, T_, F_, F_, F_] rfl rfl (any_of HT_.out (by kernel_rfl)) (fun _ _ _ h => h) (Or.inl ⟨by rfl, ?_⟩) ?_ ?_
                rotate_left
                ·intro w'
                 go_simp
                 with_reducible rfl
                rotate_left
                ·simp only [Act.put, sT, s0, sS, i64_w, i32_w]
                 rfl
                refine pure_ (i := 8) (N := some 16) (v := ?_) (a' := ?_) #[T_, T_, T_, T_, T_, T_, T_, T_, T_, F_, F_] rfl rfl (any_of HT_.out (by kernel_rfl)) (fun _ _ _ h => h) (Or.inl ⟨by rfl, ?_⟩) ?_ ?_
                rotate_left
                ·intro w'
                 go_simp
                 with_reducible rfl
                rotate_left
                ·simp only [Act.put, sT, s0, sS, i64_w, i32_w]
                 rfl
                refine pure_ (i := 9) (N := some 17) (v := ?_) (a' := ?_) #[T_, T_, T_, T_, T_, T_, T_, T_, T_, T_, F_] rfl rfl (any_of HT_.out (by kernel_rfl)) (fun _ _ _ h => h) (Or.inl ⟨by rfl, ?_⟩) ?_ ?_
                rotate_left
                ·intro w'
                 go_simp
                 with_reducible rfl
                rotate_left
                ·simp only [Act.put, sT, s0, sS, i64_w, i32_w]
                 rfl
                refine pure_ (i := 10) (N := some 18) (v := ?_) (a' := ?_) #[T_, T_, T_, T_, T_, T_, T_, T_, T_, T_, T_] rfl rfl (any_of HT_.out (by kernel_rfl)) (fun _ _ _ h => h) (Or.inl ⟨by rfl, ?_⟩) ?_ ?_
                rotate_left
                ·intro w'
                 go_simp
                 with_reducible rfl
                rotate_left
                ·simp only [Act.put, sT, s0, sS, i64_w, i32_w]
                 rfl
                refine done_ (done_of HT_.out (by kernel_rfl)) ?_
                have hcz135_0 : w134.cell? ⟨gb455, 0, none⟩ = some (.int .i64 a0_0) := (blk_cell BK455.out 0).trans rfl
                have hcz135_1 : w134.cell? ⟨gb455, 1, none⟩ = some (.slice A0_1 l0_1.length c0_1) := (blk_cell BK455.out 1).trans rfl
                have hfz135_0 := blk_frozen BK455.out 0
                have hfz135_1 := blk_frozen BK455.out 1
                try go_wp2_with (first | ((with_reducible refine gate_callee (f := 57) rfl ?_); refine goesL_ (some 105) rfl rfl Try.func57 (by kernel_rfl) rfl #[] rfl (by (try simp only [List.map_toArray, List.map_cons, List.map_nil]); first | done | rfl | (simp only [List.length_drop, List.length_take]; rfl)) ?_; (with_reducible refine (elenchuslaw04_awake.calls  true _ A74.out).mono ?_); rintro e w136 ⟨rfl, hb⟩; refine ⟨_, rfl, ?_⟩; have n0_ := Aside0.mk (Kd.V_below (by (with_reducible repeat (first | apply vA | apply vN | apply vD)); exact HO_456001.out) hb); have n1_ := Aside0.mk (Kd.V_below (by (with_reducible repeat (first | apply vA | apply vN | apply vD)); exact HO_457001.out) hb); have n2_ := Aside0.mk (Kd.V_below (by (with_reducible repeat (first | apply vA | apply vN | apply vD)); exact HO474.out) hb); have n3_ := Aside0.mk (Kd.N_below (by (with_reducible repeat (first | apply nA | apply nN | apply nD)); exact HO480.out) hb); have n4_ := Aside0.mk (Kd.V_below (by (with_reducible repeat (first | apply vA | apply vN | apply vD)); exact HO483.out) hb); have n5_ := Aside0.mk (blk_below (g := gb455) (o := .cells #[.int .i64 a0_0, .slice A0_1 l0_1.length c0_1] 25 (0, 0)) (by (with_reducible repeat (first | refine bN ?_ _ | refine bD ?_ | refine bA ?_ _)); exact BK455.out) hb); have n6_ := Aside0.mk (blk_below (g := gb456) (o := .cells #[.int .i64 a1_0, .slice A1_1 l1_1.length c1_1] 25 (0, 0)) (by (with_reducible repeat (first | refine bN ?_ _ | refine bD ?_ | refine bA ?_ _)); exact BK456.out) hb); have n7_ := Aside0.mk (below_step (by repeat (first | (with_reducible first | exact HB.out | apply wA | apply wN | apply wD | refine wS ?_ GE455.out | refine wS ?_ GE456.out) | exact HB.out)) hb); clear HO_456001; clear HO_457001; clear HO474; clear HO480; clear HO483; clear BK455; clear BK456; clear HB; have HO_456001 := n0_; have HO_457001 := n1_; have HO474 := n2_; have HO480 := n3_; have HO483 := n4_; have BK455 := n5_; have BK456 := n6_; have HB := n7_; clear n0_ n1_ n2_ n3_ n4_ n5_ n6_ n7_; (try clear hb); (try clear hb2); (try clear hk); (try clear hi); obtain ⟨Ao137, co137, eo137⟩ := Kd.V_slice HO474.out; subst eo137; have hcz138_0 : w136.cell? ⟨gb455, 0, none⟩ = some (.int .i64 a0_0) := (blk_cell BK455.out 0).trans rfl; have hcz138_1 : w136.cell? ⟨gb455, 1, none⟩ = some (.slice A0_1 l0_1.length c0_1) := (blk_cell BK455.out 1).trans rfl; have hfz138_0 := blk_frozen BK455.out 0; have hfz138_1 := blk_frozen BK455.out 1) | (go_at_call 37; (with_reducible refine (term_Vars.calls a0_0 _ _ l0_1 t491 _ ?side1 ?side2 A126.out).mono ?_); (case side1 => repeat (first | exact (Kd.V_reads' HO_456001.out).2.2 | (with_reducible refine Kd.C_alloc ?_ _) | (with_reducible refine Kd.C_drewN ?_ _) | (with_reducible refine Kd.C_drew ?_))); (case side2 => exact (Kd.V_reads' HO_456001.out).2.1); rintro e w139 ⟨v492, rfl, ho0, hb⟩; have n0_ := Aside0.mk (Kd.V_below (by (with_reducible repeat (first | apply vA | apply vN | apply vD)); exact HO_456001.out) hb); have n1_ := Aside0.mk (Kd.V_below (by (with_reducible repeat (first | apply vA | apply vN | apply vD)); exact HO_457001.out) hb); have n2_ := Aside0.mk (Kd.V_below (by (with_reducible repeat (first | apply vA | apply vN | apply vD)); exact HO474.out) hb); have n3_ := Aside0.mk (Kd.N_below (by (with_reducible repeat (first | apply nA | apply nN | apply nD)); exact HO480.out) hb); have n4_ := Aside0.mk (Kd.V_below (by (with_reducible repeat (first | apply vA | apply vN | apply vD)); exact HO483.out) hb); have n5_ := Aside0.mk (Kd.V_lower (Kd.V_mono (ok' := fun k_ => ((P0_1_ k_ ∨ P1_1_ k_) ∨ w.heap.size ≤ k_) ∧ some k_ ≠ (.slice Ao133 t478.length co133 : Value).ownBlock ∧ k_ ≠ gb455 ∧ k_ ≠ gb456) ho0 (fun k_ hk_ => ⟨(.inr (Nat.le_trans (below_size (by repeat (first | (with_reducible first | exact HB.out | apply wA | apply wN | apply wD | refine wS ?_ GE455.out | refine wS ?_ GE456.out) | exact HB.out))) hk_)), (Kd.fresh' (Kd.N_lt (by (with_reducible repeat (first | apply nA | apply nN | apply nD)); exact HO480.out)) k_ hk_), (Kd.freshB (g := gb455) (o := .cells #[.int .i64 a0_0, .slice A0_1 l0_1.length c0_1] 25 (0, 0)) (by (with_reducible repeat (first | refine bN ?_ _ | refine bD ?_ | refine bA ?_ _)); exact BK455.out) k_ hk_), (Kd.freshB (g := gb456) (o := .cells #[.int .i64 a1_0, .slice A1_1 l1_1.length c1_1] 25 (0, 0)) (by (with_reducible repeat (first | refine bN ?_ _ | refine bD ?_ | refine bA ?_ _)); exact BK456.out) k_ hk_)⟩)) (below_size (by repeat (first | (with_reducible first | exact HB.out | apply wA | apply wN | apply wD | refine wS ?_ GE455.out | refine wS ?_ GE456.out) | exact HB.out)))); have n6_ := Aside0.mk (blk_below (g := gb455) (o := .cells #[.int .i64 a0_0, .slice A0_1 l0_1.length c0_1] 25 (0, 0)) (by (with_reducible repeat (first | refine bN ?_ _ | refine bD ?_ | refine bA ?_ _)); exact BK455.out) hb); have n7_ := Aside0.mk (blk_below (g := gb456) (o := .cells #[.int .i64 a1_0, .slice A1_1 l1_1.length c1_1] 25 (0, 0)) (by (with_reducible repeat (first | refine bN ?_ _ | refine bD ?_ | refine bA ?_ _)); exact BK456.out) hb); have n8_ := Aside0.mk (below_step (by repeat (first | (with_reducible first | exact HB.out | apply wA | apply wN | apply wD | refine wS ?_ GE455.out | refine wS ?_ GE456.out) | exact HB.out)) hb); clear HO_456001; clear HO_457001; clear HO474; clear HO480; clear HO483; clear BK455; clear BK456; clear HB; have HO_456001 := n0_; have HO_457001 := n1_; have HO474 := n2_; have HO480 := n3_; have HO483 := n4_; have HO493 := n5_; have BK455 := n6_; have BK456 := n7_; have HB := n8_; clear n0_ n1_ n2_ n3_ n4_ n5_ n6_ n7_ n8_; (try clear hb); (try clear hb2); (try clear hk); (try clear hi); (try clear ho0); obtain ⟨Ao140, co140, eo140⟩ := Kd.V_slice HO493.out; subst eo140) | (go_at_call 40; (with_reducible refine (elenchusref01_In.calls a2 _ _ t491 t494 _ ?side1 ?side2 A127.out).mono ?_); (case side1 => repeat (first | exact (Kd.V_reads' HO493.out).2.2 | (with_reducible refine Kd.C_alloc ?_ _) | (with_reducible refine Kd.C_drewN ?_ _) | (with_reducible refine Kd.C_drew ?_))); (case side2 => exact (Kd.V_reads' HO493.out).2.1); rintro e w141 ⟨rfl, hb⟩; have n0_ := Aside0.mk (Kd.V_below (by (with_reducible repeat (first | apply vA | apply vN | apply vD)); exact HO_456001.out) hb); have n1_ := Aside0.mk (Kd.V_below (by (with_reducible repeat (first | apply vA | apply vN | apply vD)); exact HO_457001.out) hb); have n2_ := Aside0.mk (Kd.V_below (by (with_reducible repeat (first | apply vA | apply vN | apply vD)); exact HO474.out) hb); have n3_ := Aside0.mk (Kd.N_below (by (with_reducible repeat (first | apply nA | apply nN | apply nD)); exact HO480.out) hb); have n4_ := Aside0.mk (Kd.V_below (by (with_reducible repeat (first | apply vA | apply vN | apply vD)); exact HO483.out) hb); have n5_ := Aside0.mk (Kd.V_below (by (with_reducible repeat (first | apply vA | apply vN | apply vD)); exact HO493.out) hb); have n6_ := Aside0.mk (blk_below (g := gb455) (o := .cells #[.int .i64 a0_0, .slice A0_1 l0_1.length c0_1] 25 (0, 0)) (by (with_reducible repeat (first | refine bN ?_ _ | refine bD ?_ | refine bA ?_ _)); exact BK455.out) hb); have n7_ := Aside0.mk (blk_below (g := gb456) (o := .cells #[.int .i64 a1_0, .slice A1_1 l1_1.length c1_1] 25 (0, 0)) (by (with_reducible repeat (first | refine bN ?_ _ | refine bD ?_ | refine bA ?_ _)); exact BK456.out) hb); have n8_ := Aside0.mk (below_step (by repeat (first | (with_reducible first | exact HB.out | apply wA | apply wN | apply wD | refine wS ?_ GE455.out | refine wS ?_ GE456.out) | exact HB.out)) hb); clear HO_456001; clear HO_457001; clear HO474; clear HO480; clear HO483; clear HO493; clear BK455; clear BK456; clear HB; have HO_456001 := n0_; have HO_457001 := n1_; have HO474 := n2_; have HO480 := n3_; have HO483 := n4_; have HO493 := n5_; have BK455 := n6_; have BK456 := n7_; have HB := n8_; clear n0_ n1_ n2_ n3_ n4_ n5_ n6_ n7_ n8_; (try clear hb); (try clear hb2); (try clear hk); (try clear hi)))
                go_ret
                exact ⟨by first | rfl | (simp [errW_none, errW_some] <;> rfl) | (simp [*, errW_none, errW_some] <;> rfl), by repeat (first | (with_reducible first | exact HB.out | apply wA | apply wN | apply wD | refine wS ?_ GE455.out | refine wS ?_ GE456.out) | exact HB.out)⟩
              ·rw [if_neg c114] at H
               have c114b0 : (t485 == 0) = false := beq_eq_false_iff_ne.mpr c114
               have c114b1 : (t485 != 0) = true := bne_iff_ne.mpr c114
               obtain rfl := Option.some.inj H
               have hnb142 := NB455_456.out
               have hnc142 := NB456_455.out
               have hcz143_0 : wc.cell? ⟨gb455, 0, none⟩ = some (.int .i64 a0_0) := (blk_cell BK455.out 0).trans rfl
               have hcz143_1 : wc.cell? ⟨gb455, 1, none⟩ = some (.slice A0_1 l0_1.length c0_1) := (blk_cell BK455.out 1).trans rfl
               have hfz143_0 := blk_frozen BK455.out 0
               have hfz143_1 := blk_frozen BK455.out 1
               try go_wp2_with (first | ((with_reducible refine gate_callee (f := 55) rfl ?_); refine goesL_ (some 88) rfl rfl Try.func55 (by kernel_rfl) rfl #[.agg #[.int .i64 a0_0, .slice A0_1 l0_1.length c0_1], .agg #[.int .i64 a0_0, .slice A0_1 l0_1.length c0_1]] rfl (by (try simp only [List.map_toArray, List.map_cons, List.map_nil]); first | done | rfl | (simp only [List.length_drop, List.length_take]; rfl)) ?_; (with_reducible refine (unify_Mgu.calls a0_0 (fun k_ => (((P0_1_ k_ ∨ P1_1_ k_) ∨ w.heap.size ≤ k_) ∧ (k_ ≠ gb455 ∧ k_ ≠ gb456))) _ _ l0_1 a0_0 (fun k_ => (((P0_1_ k_ ∨ P1_1_ k_) ∨ w.heap.size ≤ k_) ∧ (k_ ≠ gb455 ∧ k_ ≠ gb456))) _ _ l0_1 t472 true t476 _ ?side1 ?side2 A71.out).mono ?_); (case side1 => exact HO_456001.out); (case side2 => exact HO_456001.out); rintro e w144 ⟨v473, rfl, ho0, hb⟩; refine ⟨_, rfl, ?_⟩; have n0_ := Aside0.mk (Kd.V_below (by (with_reducible repeat (first | apply vA | apply vN | apply vD)); exact HO_456001.out) hb); have n1_ := Aside0.mk (Kd.V_below (by (with_reducible repeat (first | apply vA | apply vN | apply vD)); exact HO_457001.out) hb); have n2_ := Aside0.mk (Kd.V_lower (Kd.V_mono (ok' := fun k_ => ((P0_1_ k_ ∨ P1_1_ k_) ∨ w.heap.size ≤ k_) ∧ k_ ≠ gb455 ∧ k_ ≠ gb456) ho0 (fun k_ hk_ => ⟨Or.elim hk_ (fun hs_ => Or.elim hs_ (fun hs_ => hs_.1) (fun hs_ => hs_.1)) (fun hn_ => (.inr (Nat.le_trans (below_size (by repeat (first | (with_reducible first | exact HB.out | apply wA | apply wN | apply wD | refine wS ?_ GE455.out | refine wS ?_ GE456.out) | exact HB.out))) hn_))), Or.elim hk_ (fun hs_ => Or.elim hs_ (fun hs_ => hs_.2.1) (fun hs_ => hs_.2.1)) (fun hn_ => (Kd.freshB (g := gb455) (o := .cells #[.int .i64 a0_0, .slice A0_1 l0_1.length c0_1] 25 (0, 0)) (by (with_reducible repeat (first | refine bN ?_ _ | refine bD ?_ | refine bA ?_ _)); exact BK455.out) k_ hn_)), Or.elim hk_ (fun hs_ => Or.elim hs_ (fun hs_ => hs_.2.2) (fun hs_ => hs_.2.2)) (fun hn_ => (Kd.freshB (g := gb456) (o := .cells #[.int .i64 a1_0, .slice A1_1 l1_1.length c1_1] 25 (0, 0)) (by (with_reducible repeat (first | refine bN ?_ _ | refine bD ?_ | refine bA ?_ _)); exact BK456.out) k_ hn_))⟩)) (below_size (by repeat (first | (with_reducible first | exact HB.out | apply wA | apply wN | apply wD | refine wS ?_ GE455.out | refine wS ?_ GE456.out) | exact HB.out)))); have n3_ := Aside0.mk (blk_below (g := gb455) (o := .cells #[.int .i64 a0_0, .slice A0_1 l0_1.length c0_1] 25 (0, 0)) (by (with_reducible repeat (first | refine bN ?_ _ | refine bD ?_ | refine bA ?_ _)); exact BK455.out) hb); have n4_ := Aside0.mk (blk_below (g := gb456) (o := .cells #[.int .i64 a1_0, .slice A1_1 l1_1.length c1_1] 25 (0, 0)) (by (with_reducible repeat (first | refine bN ?_ _ | refine bD ?_ | refine bA ?_ _)); exact BK456.out) hb); have n5_ := Aside0.mk (below_step (by repeat (first | (with_reducible first | exact HB.out | apply wA | apply wN | apply wD | refine wS ?_ GE455.out | refine wS ?_ GE456.out) | exact HB.out)) hb); clear HO_456001; clear HO_457001; clear BK455; clear BK456; clear HB; have HO_456001 := n0_; have HO_457001 := n1_; have HO474 := n2_; have BK455 := n3_; have BK456 := n4_; have HB := n5_; clear n0_ n1_ n2_ n3_ n4_ n5_; (try clear hb); (try clear hb2); (try clear hk); (try clear hi); (try clear ho0)))
               have n0_ := Aside0.mk (Kd.V_drew HO_456001.out)
               have n1_ := Aside0.mk (Kd.V_drew HO_457001.out)
               have n2_ := Aside0.mk (Kd.V_drew HO474.out)
               have n3_ := Aside0.mk (blk_drew BK455.out)
               have n4_ := Aside0.mk (blk_drew BK456.out)
               have n5_ := Aside0.mk (below_drew1 HB.out)
               clear HO_456001
               clear HO_457001
               clear HO474
               clear BK455
               clear BK456
               clear HB
               have HO_456001 := n0_
               have HO_457001 := n1_
               have HO474 := n2_
               have BK455 := n3_
               have BK456 := n4_
               have HB := n5_
               clear n0_ n1_ n2_ n3_ n4_ n5_
               refine start_ (n := 11) (S := fun w' => w'.cell? ⟨gb455, 0, none⟩ = some (.int .i64 a0_0) ∧ w'.cell? ⟨gb455, 1, none⟩ = some (.slice A0_1 l0_1.length c0_1)) (ds := []) #[F_, F_, F_, F_, F_, F_, F_, F_, F_, F_, F_] (by kernel_rfl) rfl rfl ⟨(blk_cell BK455.out 0).trans rfl, (blk_cell BK455.out 1).trans rfl⟩ (fun hHeld => ?_); refine with_tabW elenchuslaw04_UnifySides.tab10 elenchuslaw04_UnifySides.bits10 (fun HT_ HW_ => ?_)
               generalize w144.drew = w145 at HO_456001 HO_457001 HO474 BK455 BK456 HB hHeld ⊢
               refine pure_ (i := 0) (N := some 93) (v := ?_) (a' := ?_) #[T_, F_, F_, F_, F_, F_, F_, F_, F_, F_, F_] rfl rfl (any_of HT_.out (by kernel_rfl)) (fun _ _ _ h => h) (Or.inl ⟨by rfl, ?_⟩) ?_ ?_
               rotate_left
               ·intro w'
                go_simp
                with_reducible rfl
               rotate_left
               ·simp only [Act.put, sT, s0, sS, i64_w, i32_w]
                rfl
               refine take_ (i := 2) (N := some 95) (v := ?_) (a' := ?_) #[T_, F_, T_, F_, F_, F_, F_, F_, F_, F_, F_] rfl rfl (take_ofW HT_.out HW_.out (by kernel_rfl)) (fun _ _ _ h => h) (Or.inl ⟨by rfl, ?_⟩) hHeld ?_ ?_
               rotate_left
               ·rintro w' ⟨s0, s1⟩
                go_simp
                with_reducible rfl
               rotate_left
               ·simp only [Act.put, sT, s0, sS, i64_w, i32_w]
                rfl
               refine one_ (i := 1) (N := some 94) #[T_, T_, T_, F_, F_, F_, F_, F_, F_, F_, F_] rfl rfl (one_of HT_.out (by kernel_rfl)) (by decide) (fun K hK => ?_)
               refine goes_ Try.func39 (by kernel_rfl) rfl #[.int .i64 a2] (by rfl) rfl rfl (by (try simp only [List.map_toArray, List.map_cons, List.map_nil]); first | done | rfl | (simp only [List.length_drop, List.length_take]; rfl)) ?_
               with_reducible refine (elenchusref01_Var.calls a2 t477 t478 _ A72.out).mono ?_
               rintro e w146 ⟨v479, rfl, ho0, hb⟩
               refine ⟨_, rfl, ?_⟩
               have n0_ := Aside0.mk (Kd.V_elder' (by (with_reducible repeat (first | apply vA | apply vN | apply vD)); exact HO_456001.out) (by first | exact Kd.N_base ho0 | exact Kd.R_base ho0) hb)
               have n1_ := Aside0.mk (Kd.V_elder' (by (with_reducible repeat (first | apply vA | apply vN | apply vD)); exact HO_457001.out) (by first | exact Kd.N_base ho0 | exact Kd.R_base ho0) hb)
               have n2_ := Aside0.mk (Kd.V_elder' (by (with_reducible repeat (first | apply vA | apply vN | apply vD)); exact HO474.out) (by first | exact Kd.N_base ho0 | exact Kd.R_base ho0) hb)
               have n3_ := Aside0.mk (Kd.N_lower (Kd.N_mono (ok' := fun k_ => ((P0_1_ k_ ∨ P1_1_ k_) ∨ w.heap.size ≤ k_) ∧ k_ ≠ gb455 ∧ k_ ≠ gb456) (Kd.R_N (Kd.R_bound ho0)) (fun k_ hk_ => ⟨(.inr (Nat.le_trans (below_size (by repeat (first | (with_reducible first | exact HB.out | apply wA | apply wN | apply wD | refine wS ?_ GE455.out | refine wS ?_ GE456.out) | exact HB.out))) hk_.2.1)), (Kd.freshB (g := gb455) (o := .cells #[.int .i64 a0_0, .slice A0_1 l0_1.length c0_1] 25 (0, 0)) (by (with_reducible repeat (first | refine bN ?_ _ | refine bD ?_ | refine bA ?_ _)); exact BK455.out) k_ hk_.2.1), (Kd.freshB (g := gb456) (o := .cells #[.int .i64 a1_0, .slice A1_1 l1_1.length c1_1] 25 (0, 0)) (by (with_reducible repeat (first | refine bN ?_ _ | refine bD ?_ | refine bA ?_ _)); exact BK456.out) k_ hk_.2.1)⟩)) (below_size (by repeat (first | (with_reducible first | exact HB.out | apply wA | apply wN | apply wD | refine wS ?_ GE455.out | refine wS ?_ GE456.out) | exact HB.out))))
               have n4_ := Aside0.mk (blk_below (g := gb455) (o := .cells #[.int .i64 a0_0, .slice A0_1 l0_1.length c0_1] 25 (0, 0)) (by (with_reducible repeat (first | refine bN ?_ _ | refine bD ?_ | refine bA ?_ _)); exact BK455.out) hb)
               have n5_ := Aside0.mk (blk_below (g := gb456) (o := .cells #[.int .i64 a1_0, .slice A1_1 l1_1.length c1_1] 25 (0, 0)) (by (with_reducible repeat (first | refine bN ?_ _ | refine bD ?_ | refine bA ?_ _)); exact BK456.out) hb)
               have n6_ := Aside0.mk (below_step (by repeat (first | (with_reducible first | exact HB.out | apply wA | apply wN | apply wD | refine wS ?_ GE455.out | refine wS ?_ GE456.out) | exact HB.out)) hb)
               clear HO_456001
               clear HO_457001
               clear HO474
               clear BK455
               clear BK456
               clear HB
               have HO_456001 := n0_
               have HO_457001 := n1_
               have HO474 := n2_
               have HO480 := n3_
               have BK455 := n4_
               have BK456 := n5_
               have HB := n6_
               clear n0_ n1_ n2_ n3_ n4_ n5_ n6_
               (try clear hb)
               (try clear hb2)
               (try clear hk)
               (try clear hi)
               (try clear ho0)
               obtain ⟨Ao147, co147, eo147⟩ := Kd.N_slice HO480.out
               (first | subst eo147 | (injection eo147 with f1_ f2_ f3_; have f4_ := f1_.symm; have f5_ := f3_.symm; clear f1_ f2_ f3_; subst f4_; subst f5_))
               refine hK.out _ _ ⟨(blk_cell BK455.out 0).trans rfl, (blk_cell BK455.out 1).trans rfl⟩ (fun hHeld => ?_)
               clear hK K
               refine norm_ (a' := ?_) ?_ ?_
               rotate_left
               ·show Act.put _ (some 94) _ = _
                simp only [Act.put, sT, s0, sS, i64_w, i32_w]
                rfl
               refine one_ (i := 3) (N := some 96) #[T_, T_, T_, T_, F_, F_, F_, F_, F_, F_, F_] rfl rfl (one_of HT_.out (by kernel_rfl)) (by decide) (fun K hK => ?_)
               refine goes_ Try.func55 (by kernel_rfl) rfl #[.agg #[.int .i64 t477, .slice Ao147 t478.length co147], .agg #[.int .i64 a0_0, .slice A0_1 l0_1.length c0_1]] (by rfl) rfl rfl (by (try simp only [List.map_toArray, List.map_cons, List.map_nil]); first | done | rfl | (simp only [List.length_drop, List.length_take]; rfl)) ?_
               with_reducible refine (unify_Mgu.calls t477 (fun k_ => (((P0_1_ k_ ∨ P1_1_ k_) ∨ w.heap.size ≤ k_) ∧ (k_ ≠ gb455 ∧ k_ ≠ gb456))) _ _ t478 a0_0 (fun k_ => ((((P0_1_ k_ ∨ P1_1_ k_) ∨ w.heap.size ≤ k_) ∧ (k_ ≠ gb455 ∧ k_ ≠ gb456)) ∧ some k_ ≠ (.slice Ao147 t478.length co147 : Value).ownBlock)) _ _ l0_1 t481 t484 t485 _ ?side1 ?side2 A73.out).mono ?_
               (case side1 => exact Kd.N_V (HO480.out))
               (case side2 => exact HO_456001.out)
               rintro e w148 ⟨v482, rfl, ho0, hb⟩
               refine ⟨_, rfl, ?_⟩
               have n0_ := Aside0.mk (Kd.V_below (by (with_reducible repeat (first | apply vA | apply vN | apply vD)); exact HO_456001.out) hb)
               have n1_ := Aside0.mk (Kd.V_below (by (with_reducible repeat (first | apply vA | apply vN | apply vD)); exact HO_457001.out) hb)
               have n2_ := Aside0.mk (Kd.V_below (by (with_reducible repeat (first | apply vA | apply vN | apply vD)); exact HO474.out) hb)
               have n3_ := Aside0.mk (Kd.N_below (by (with_reducible repeat (first | apply nA | apply nN | apply nD)); exact HO480.out) hb)
               have n4_ := Aside0.mk (Kd.V_lower (Kd.V_mono (ok' := fun k_ => ((P0_1_ k_ ∨ P1_1_ k_) ∨ w.heap.size ≤ k_) ∧ k_ ≠ gb455 ∧ k_ ≠ gb456) ho0 (fun k_ hk_ => ⟨Or.elim hk_ (fun hs_ => Or.elim hs_ (fun hs_ => hs_.1) (fun hs_ => hs_.1.1)) (fun hn_ => (.inr (Nat.le_trans (below_size (by repeat (first | (with_reducible first | exact HB.out | apply wA | apply wN | apply wD | refine wS ?_ GE455.out | refine wS ?_ GE456.out) | exact HB.out))) hn_))), Or.elim hk_ (fun hs_ => Or.elim hs_ (fun hs_ => hs_.2.1) (fun hs_ => hs_.1.2.1)) (fun hn_ => (Kd.freshB (g := gb455) (o := .cells #[.int .i64 a0_0, .slice A0_1 l0_1.length c0_1] 25 (0, 0)) (by (with_reducible repeat (first | refine bN ?_ _ | refine bD ?_ | refine bA ?_ _)); exact BK455.out) k_ hn_)), Or.elim hk_ (fun hs_ => Or.elim hs_ (fun hs_ => hs_.2.2) (fun hs_ => hs_.1.2.2)) (fun hn_ => (Kd.freshB (g := gb456) (o := .cells #[.int .i64 a1_0, .slice A1_1 l1_1.length c1_1] 25 (0, 0)) (by (with_reducible repeat (first | refine bN ?_ _ | refine bD ?_ | refine bA ?_ _)); exact BK456.out) k_ hn_))⟩)) (below_size (by repeat (first | (with_reducible first | exact HB.out | apply wA | apply wN | apply wD | refine wS ?_ GE455.out | refine wS ?_ GE456.out) | exact HB.out))))
               have n5_ := Aside0.mk (blk_below (g := gb455) (o := .cells #[.int .i64 a0_0, .slice A0_1 l0_1.length c0_1] 25 (0, 0)) (by (with_reducible repeat (first | refine bN ?_ _ | refine bD ?_ | refine bA ?_ _)); exact BK455.out) hb)
               have n6_ := Aside0.mk (blk_below (g := gb456) (o := .cells #[.int .i64 a1_0, .slice A1_1 l1_1.length c1_1] 25 (0, 0)) (by (with_reducible repeat (first | refine bN ?_ _ | refine bD ?_ | refine bA ?_ _)); exact BK456.out) hb)
               have n7_ := Aside0.mk (below_step (by repeat (first | (with_reducible first | exact HB.out | apply wA | apply wN | apply wD | refine wS ?_ GE455.out | refine wS ?_ GE456.out) | exact HB.out)) hb)
               clear HO_456001
               clear HO_457001
               clear HO474
               clear HO480
               clear BK455
               clear BK456
               clear HB
               have HO_456001 := n0_
               have HO_457001 := n1_
               have HO474 := n2_
               have HO480 := n3_
               have HO483 := n4_
               have BK455 := n5_
               have BK456 := n6_
               have HB := n7_
               clear n0_ n1_ n2_ n3_ n4_ n5_ n6_ n7_
               (try clear hb)
               (try clear hb2)
               (try clear hk)
               (try clear hi)
               (try clear ho0)
               refine hK.out _ _ ⟨(blk_cell BK455.out 0).trans rfl, (blk_cell BK455.out 1).trans rfl⟩ (fun hHeld => ?_)
               clear hK K
               refine norm_ (a' := ?_) ?_ ?_
               rotate_left
               ·show Act.put _ (some 96) _ = _
                simp only [Act.put, sT, s0, sS, i64_w, i32_w]
                rfl
               refine pure_ (i := 4) (N := some 92) (v := ?_) (a' := ?_) #[T_, T_, T_, T_, T_, F_, F_, F_, F_, F_, F_] rfl rfl (any_of HT_.out (by kernel_rfl)) (fun _ _ _ h => h) (Or.inl ⟨by rfl, ?_⟩) ?_ ?_
               rotate_left
               ·intro w'
                go_simp
                with_reducible rfl
               rotate_left
               ·simp only [Act.put, sT, s0, sS, i64_w, i32_w]
                rfl
               refine pure_ (i := 5) (N := some 97) (v := ?_) (a' := ?_) #[T_, T_, T_, T_, T_, T_, F_, F_, F_, F_, F_] rfl rfl (any_of HT_.out (by kernel_rfl)) (fun _ _ _ h => h) (Or.inl ⟨by rfl, ?_⟩) ?_ ?_
               rotate_left
               ·intro w'
                go_simp
                with_reducible rfl
               rotate_left
               ·simp only [Act.put, sT, s0, sS, i64_w, i32_w]
                rfl
               refine pure_ (i := 6) (N := some 98) (v := ?_) (a' := ?_) #[T_, T_, T_, T_, T_, T_, T_, F_, F_, F_, F_] rfl rfl (any_of HT_.out (by kernel_rfl)) (fun _ _ _ h => h) (Or.inl ⟨by rfl, ?_⟩) ?_ ?_
               rotate_left
               ·intro w'
                go_simp
                with_reducible rfl
               rotate_left
               ·simp only [Act.put, sT, s0, sS, i64_w, i32_w]
                rfl
               refine pure_ (i := 7) (N := some 99) (v := ?_) (a' := ?_) #[T_, T_, T_, T_, T_, T_, T_, T_, F_, F_, F_] rfl rfl (any_of HT_.out (by kernel_rfl)) (fun _ _ _ h => h) (Or.inl ⟨by rfl, ?_⟩) ?_ ?_
               rotate_left
               ·intro w'
                go_simp
                with_reducible rfl
               rotate_left
               ·simp only [Act.put, sT, s0, sS, i64_w, i32_w]
                rfl
               refine pure_ (i := 8) (N := some 16) (v := ?_) (a' := ?_) #[T_, T_, T_, T_, T_, T_, T_, T_, T_, F_, F_] rfl rfl (any_of HT_.out (by kernel_rfl)) (fun _ _ _ h => h) (Or.inl ⟨by rfl, ?_⟩) ?_ ?_
               rotate_left
               ·intro w'
                go_simp
                with_reducible rfl
               rotate_left
               ·simp only [Act.put, sT, s0, sS, i64_w, i32_w]
                rfl
               refine pure_ (i := 9) (N := some 17) (v := ?_) (a' := ?_) #[T_, T_, T_, T_, T_, T_, T_, T_, T_, T_, F_] rfl rfl (any_of HT_.out (by kernel_rfl)) (fun _ _ _ h => h) (Or.inl ⟨by rfl, ?_⟩) ?_ ?_
               rotate_left
               ·intro w'
                go_simp
                with_reducible rfl
               rotate_left
               ·simp only [Act.put, sT, s0, sS, i64_w, i32_w]
                rfl
               refine pure_ (i := 10) (N := some 18) (v := ?_) (a' := ?_) #[T_, T_, T_, T_, T_, T_, T_, T_, T_, T_, T_] rfl rfl (any_of HT_.out (by kernel_rfl)) (fun _ _ _ h => h) (Or.inl ⟨by rfl, ?_⟩) ?_ ?_
               rotate_left
               ·intro w'
                go_simp
                with_reducible rfl
               rotate_left
               ·simp only [Act.put, sT, s0, sS, i64_w, i32_w]
                rfl
               refine done_ (done_of HT_.out (by kernel_rfl)) ?_
               have hcz149_0 : w148.cell? ⟨gb455, 0, none⟩ = some (.int .i64 a0_0) := (blk_cell BK455.out 0).trans rfl
               have hcz149_1 : w148.cell? ⟨gb455, 1, none⟩ = some (.slice A0_1 l0_1.length c0_1) := (blk_cell BK455.out 1).trans rfl
               have hfz149_0 := blk_frozen BK455.out 0
               have hfz149_1 := blk_frozen BK455.out 1
               try go_wp2_with (first | ((with_reducible refine gate_callee (f := 57) rfl ?_); refine goesL_ (some 105) rfl rfl Try.func57 (by kernel_rfl) rfl #[] rfl (by (try simp only [List.map_toArray, List.map_cons, List.map_nil]); first | done | rfl | (simp only [List.length_drop, List.length_take]; rfl)) ?_; (with_reducible refine (elenchuslaw04_awake.calls  true _ A74.out).mono ?_); rintro e w150 ⟨rfl, hb⟩; refine ⟨_, rfl, ?_⟩; have n0_ := Aside0.mk (Kd.V_below (by (with_reducible repeat (first | apply vA | apply vN | apply vD)); exact HO_456001.out) hb); have n1_ := Aside0.mk (Kd.V_below (by (with_reducible repeat (first | apply vA | apply vN | apply vD)); exact HO_457001.out) hb); have n2_ := Aside0.mk (Kd.V_below (by (with_reducible repeat (first | apply vA | apply vN | apply vD)); exact HO474.out) hb); have n3_ := Aside0.mk (Kd.N_below (by (with_reducible repeat (first | apply nA | apply nN | apply nD)); exact HO480.out) hb); have n4_ := Aside0.mk (Kd.V_below (by (with_reducible repeat (first | apply vA | apply vN | apply vD)); exact HO483.out) hb); have n5_ := Aside0.mk (blk_below (g := gb455) (o := .cells #[.int .i64 a0_0, .slice A0_1 l0_1.length c0_1] 25 (0, 0)) (by (with_reducible repeat (first | refine bN ?_ _ | refine bD ?_ | refine bA ?_ _)); exact BK455.out) hb); have n6_ := Aside0.mk (blk_below (g := gb456) (o := .cells #[.int .i64 a1_0, .slice A1_1 l1_1.length c1_1] 25 (0, 0)) (by (with_reducible repeat (first | refine bN ?_ _ | refine bD ?_ | refine bA ?_ _)); exact BK456.out) hb); have n7_ := Aside0.mk (below_step (by repeat (first | (with_reducible first | exact HB.out | apply wA | apply wN | apply wD | refine wS ?_ GE455.out | refine wS ?_ GE456.out) | exact HB.out)) hb); clear HO_456001; clear HO_457001; clear HO474; clear HO480; clear HO483; clear BK455; clear BK456; clear HB; have HO_456001 := n0_; have HO_457001 := n1_; have HO474 := n2_; have HO480 := n3_; have HO483 := n4_; have BK455 := n5_; have BK456 := n6_; have HB := n7_; clear n0_ n1_ n2_ n3_ n4_ n5_ n6_ n7_; (try clear hb); (try clear hb2); (try clear hk); (try clear hi); obtain ⟨Ao151, co151, eo151⟩ := Kd.V_slice HO474.out; subst eo151))
               go_ret
               exact ⟨by first | rfl | (simp [errW_none, errW_some] <;> rfl) | (simp [*, errW_none, errW_some] <;> rfl), by repeat (first | (with_reducible first | exact HB.out | apply wA | apply wN | apply wD | refine wS ?_ GE455.out | refine wS ?_ GE456.out) | exact HB.out)⟩
             ·rw [if_neg c113] at H
              have c113b0 : ((t472.length : Int) == 0) = false := beq_eq_false_iff_ne.mpr c113
              have c113b1 : ((t472.length : Int) != 0) = true := bne_iff_ne.mpr c113
              have c113b2 : ¬ (t472 = []) := fun h_ => c113 (by rw [h_]; rfl)
              obtain rfl := Option.some.inj H
              have hnb152 := NB455_456.out
              have hnc152 := NB456_455.out
              have hcz153_0 : wc.cell? ⟨gb455, 0, none⟩ = some (.int .i64 a0_0) := (blk_cell BK455.out 0).trans rfl
              have hcz153_1 : wc.cell? ⟨gb455, 1, none⟩ = some (.slice A0_1 l0_1.length c0_1) := (blk_cell BK455.out 1).trans rfl
              have hfz153_0 := blk_frozen BK455.out 0
              have hfz153_1 := blk_frozen BK455.out 1
              try go_wp2_with (first | ((with_reducible refine gate_callee (f := 55) rfl ?_); refine goesL_ (some 88) rfl rfl Try.func55 (by kernel_rfl) rfl #[.agg #[.int .i64 a0_0, .slice A0_1 l0_1.length c0_1], .agg #[.int .i64 a0_0, .slice A0_1 l0_1.length c0_1]] rfl (by (try simp only [List.map_toArray, List.map_cons, List.map_nil]); first | done | rfl | (simp only [List.length_drop, List.length_take]; rfl)) ?_; (with_reducible refine (unify_Mgu.calls a0_0 (fun k_ => (((P0_1_ k_ ∨ P1_1_ k_) ∨ w.heap.size ≤ k_) ∧ (k_ ≠ gb455 ∧ k_ ≠ gb456))) _ _ l0_1 a0_0 (fun k_ => (((P0_1_ k_ ∨ P1_1_ k_) ∨ w.heap.size ≤ k_) ∧ (k_ ≠ gb455 ∧ k_ ≠ gb456))) _ _ l0_1 t472 true t476 _ ?side1 ?side2 A71.out).mono ?_); (case side1 => exact HO_456001.out); (case side2 => exact HO_456001.out); rintro e w154 ⟨v473, rfl, ho0, hb⟩; refine ⟨_, rfl, ?_⟩; have n0_ := Aside0.mk (Kd.V_below (by (with_reducible repeat (first | apply vA | apply vN | apply vD)); exact HO_456001.out) hb); have n1_ := Aside0.mk (Kd.V_below (by (with_reducible repeat (first | apply vA | apply vN | apply vD)); exact HO_457001.out) hb); have n2_ := Aside0.mk (Kd.V_lower (Kd.V_mono (ok' := fun k_ => ((P0_1_ k_ ∨ P1_1_ k_) ∨ w.heap.size ≤ k_) ∧ k_ ≠ gb455 ∧ k_ ≠ gb456) ho0 (fun k_ hk_ => ⟨Or.elim hk_ (fun hs_ => Or.elim hs_ (fun hs_ => hs_.1) (fun hs_ => hs_.1)) (fun hn_ => (.inr (Nat.le_trans (below_size (by repeat (first | (with_reducible first | exact HB.out | apply wA | apply wN | apply wD | refine wS ?_ GE455.out | refine wS ?_ GE456.out) | exact HB.out))) hn_))), Or.elim hk_ (fun hs_ => Or.elim hs_ (fun hs_ => hs_.2.1) (fun hs_ => hs_.2.1)) (fun hn_ => (Kd.freshB (g := gb455) (o := .cells #[.int .i64 a0_0, .slice A0_1 l0_1.length c0_1] 25 (0, 0)) (by (with_reducible repeat (first | refine bN ?_ _ | refine bD ?_ | refine bA ?_ _)); exact BK455.out) k_ hn_)), Or.elim hk_ (fun hs_ => Or.elim hs_ (fun hs_ => hs_.2.2) (fun hs_ => hs_.2.2)) (fun hn_ => (Kd.freshB (g := gb456) (o := .cells #[.int .i64 a1_0, .slice A1_1 l1_1.length c1_1] 25 (0, 0)) (by (with_reducible repeat (first | refine bN ?_ _ | refine bD ?_ | refine bA ?_ _)); exact BK456.out) k_ hn_))⟩)) (below_size (by repeat (first | (with_reducible first | exact HB.out | apply wA | apply wN | apply wD | refine wS ?_ GE455.out | refine wS ?_ GE456.out) | exact HB.out)))); have n3_ := Aside0.mk (blk_below (g := gb455) (o := .cells #[.int .i64 a0_0, .slice A0_1 l0_1.length c0_1] 25 (0, 0)) (by (with_reducible repeat (first | refine bN ?_ _ | refine bD ?_ | refine bA ?_ _)); exact BK455.out) hb); have n4_ := Aside0.mk (blk_below (g := gb456) (o := .cells #[.int .i64 a1_0, .slice A1_1 l1_1.length c1_1] 25 (0, 0)) (by (with_reducible repeat (first | refine bN ?_ _ | refine bD ?_ | refine bA ?_ _)); exact BK456.out) hb); have n5_ := Aside0.mk (below_step (by repeat (first | (with_reducible first | exact HB.out | apply wA | apply wN | apply wD | refine wS ?_ GE455.out | refine wS ?_ GE456.out) | exact HB.out)) hb); clear HO_456001; clear HO_457001; clear BK455; clear BK456; clear HB; have HO_456001 := n0_; have HO_457001 := n1_; have HO474 := n2_; have BK455 := n3_; have BK456 := n4_; have HB := n5_; clear n0_ n1_ n2_ n3_ n4_ n5_; (try clear hb); (try clear hb2); (try clear hk); (try clear hi); (try clear ho0)))
              have n0_ := Aside0.mk (Kd.V_drew HO_456001.out)
              have n1_ := Aside0.mk (Kd.V_drew HO_457001.out)
              have n2_ := Aside0.mk (Kd.V_drew HO474.out)
              have n3_ := Aside0.mk (blk_drew BK455.out)
              have n4_ := Aside0.mk (blk_drew BK456.out)
              have n5_ := Aside0.mk (below_drew1 HB.out)
              clear HO_456001
              clear HO_457001
              clear HO474
              clear BK455
              clear BK456
              clear HB
              have HO_456001 := n0_
              have HO_457001 := n1_
              have HO474 := n2_
              have BK455 := n3_
              have BK456 := n4_
              have HB := n5_
              clear n0_ n1_ n2_ n3_ n4_ n5_
              refine start_ (n := 11) (S := fun w' => w'.cell? ⟨gb455, 0, none⟩ = some (.int .i64 a0_0) ∧ w'.cell? ⟨gb455, 1, none⟩ = some (.slice A0_1 l0_1.length c0_1)) (ds := []) #[F_, F_, F_, F_, F_, F_, F_, F_, F_, F_, F_] (by kernel_rfl) rfl rfl ⟨(blk_cell BK455.out 0).trans rfl, (blk_cell BK455.out 1).trans rfl⟩ (fun hHeld => ?_); refine with_tabW elenchuslaw04_UnifySides.tab10 elenchuslaw04_UnifySides.bits10 (fun HT_ HW_ => ?_)
              generalize w154.drew = w155 at HO_456001 HO_457001 HO474 BK455 BK456 HB hHeld ⊢
              refine pure_ (i := 0) (N := some 93) (v := ?_) (a' := ?_) #[T_, F_, F_, F_, F_, F_, F_, F_, F_, F_, F_] rfl rfl (any_of HT_.out (by kernel_rfl)) (fun _ _ _ h => h) (Or.inl ⟨by rfl, ?_⟩) ?_ ?_
              rotate_left
              ·intro w'
               go_simp
               with_reducible rfl
              rotate_left
              ·simp only [Act.put, sT, s0, sS, i64_w, i32_w]
               rfl
              refine take_ (i := 2) (N := some 95) (v := ?_) (a' := ?_) #[T_, F_, T_, F_, F_, F_, F_, F_, F_, F_, F_] rfl rfl (take_ofW HT_.out HW_.out (by kernel_rfl)) (fun _ _ _ h => h) (Or.inl ⟨by rfl, ?_⟩) hHeld ?_ ?_
              rotate_left
              ·rintro w' ⟨s0, s1⟩
               go_simp
               with_reducible rfl
              rotate_left
              ·simp only [Act.put, sT, s0, sS, i64_w, i32_w]
               rfl
              refine one_ (i := 1) (N := some 94) #[T_, T_, T_, F_, F_, F_, F_, F_, F_, F_, F_] rfl rfl (one_of HT_.out (by kernel_rfl)) (by decide) (fun K hK => ?_)
              refine goes_ Try.func39 (by kernel_rfl) rfl #[.int .i64 a2] (by rfl) rfl rfl (by (try simp only [List.map_toArray, List.map_cons, List.map_nil]); first | done | rfl | (simp only [List.length_drop, List.length_take]; rfl)) ?_
              with_reducible refine (elenchusref01_Var.calls a2 t477 t478 _ A72.out).mono ?_
              rintro e w156 ⟨v479, rfl, ho0, hb⟩
              refine ⟨_, rfl, ?_⟩
              have n0_ := Aside0.mk (Kd.V_elder' (by (with_reducible repeat (first | apply vA | apply vN | apply vD)); exact HO_456001.out) (by first | exact Kd.N_base ho0 | exact Kd.R_base ho0) hb)
              have n1_ := Aside0.mk (Kd.V_elder' (by (with_reducible repeat (first | apply vA | apply vN | apply vD)); exact HO_457001.out) (by first | exact Kd.N_base ho0 | exact Kd.R_base ho0) hb)
              have n2_ := Aside0.mk (Kd.V_elder' (by (with_reducible repeat (first | apply vA | apply vN | apply vD)); exact HO474.out) (by first | exact Kd.N_base ho0 | exact Kd.R_base ho0) hb)
              have n3_ := Aside0.mk (Kd.N_lower (Kd.N_mono (ok' := fun k_ => ((P0_1_ k_ ∨ P1_1_ k_) ∨ w.heap.size ≤ k_) ∧ k_ ≠ gb455 ∧ k_ ≠ gb456) (Kd.R_N (Kd.R_bound ho0)) (fun k_ hk_ => ⟨(.inr (Nat.le_trans (below_size (by repeat (first | (with_reducible first | exact HB.out | apply wA | apply wN | apply wD | refine wS ?_ GE455.out | refine wS ?_ GE456.out) | exact HB.out))) hk_.2.1)), (Kd.freshB (g := gb455) (o := .cells #[.int .i64 a0_0, .slice A0_1 l0_1.length c0_1] 25 (0, 0)) (by (with_reducible repeat (first | refine bN ?_ _ | refine bD ?_ | refine bA ?_ _)); exact BK455.out) k_ hk_.2.1), (Kd.freshB (g := gb456) (o := .cells #[.int .i64 a1_0, .slice A1_1 l1_1.length c1_1] 25 (0, 0)) (by (with_reducible repeat (first | refine bN ?_ _ | refine bD ?_ | refine bA ?_ _)); exact BK456.out) k_ hk_.2.1)⟩)) (below_size (by repeat (first | (with_reducible first | exact HB.out | apply wA | apply wN | apply wD | refine wS ?_ GE455.out | refine wS ?_ GE456.out) | exact HB.out))))
              have n4_ := Aside0.mk (blk_below (g := gb455) (o := .cells #[.int .i64 a0_0, .slice A0_1 l0_1.length c0_1] 25 (0, 0)) (by (with_reducible repeat (first | refine bN ?_ _ | refine bD ?_ | refine bA ?_ _)); exact BK455.out) hb)
              have n5_ := Aside0.mk (blk_below (g := gb456) (o := .cells #[.int .i64 a1_0, .slice A1_1 l1_1.length c1_1] 25 (0, 0)) (by (with_reducible repeat (first | refine bN ?_ _ | refine bD ?_ | refine bA ?_ _)); exact BK456.out) hb)
              have n6_ := Aside0.mk (below_step (by repeat (first | (with_reducible first | exact HB.out | apply wA | apply wN | apply wD | refine wS ?_ GE455.out | refine wS ?_ GE456.out) | exact HB.out)) hb)
              clear HO_456001
              clear HO_457001
              clear HO474
              clear BK455
              clear BK456
              clear HB
              have HO_456001 := n0_
              have HO_457001 := n1_
              have HO474 := n2_
              have HO480 := n3_
              have BK455 := n4_
              have BK456 := n5_
              have HB := n6_
              clear n0_ n1_ n2_ n3_ n4_ n5_ n6_
              (try clear hb)
              (try clear hb2)
              (try clear hk)
              (try clear hi)
              (try clear ho0)
              obtain ⟨Ao157, co157, eo157⟩ := Kd.N_slice HO480.out
              (first | subst eo157 | (injection eo157 with f1_ f2_ f3_; have f4_ := f1_.symm; have f5_ := f3_.symm; clear f1_ f2_ f3_; subst f4_; subst f5_))
              refine hK.out _ _ ⟨(blk_cell BK455.out 0).trans rfl, (blk_cell BK455.out 1).trans rfl⟩ (fun hHeld => ?_)
              clear hK K
              refine norm_ (a' := ?_) ?_ ?_
              rotate_left
              ·show Act.put _ (some 94) _ = _
               simp only [Act.put, sT, s0, sS, i64_w, i32_w]
               rfl
              refine one_ (i := 3) (N := some 96) #[T_, T_, T_, T_, F_, F_, F_, F_, F_, F_, F_] rfl rfl (one_of HT_.out (by kernel_rfl)) (by decide) (fun K hK => ?_)
              refine goes_ Try.func55 (by kernel_rfl) rfl #[.agg #[.int .i64 t477, .slice Ao157 t478.length co157], .agg #[.int .i64 a0_0, .slice A0_1 l0_1.length c0_1]] (by rfl) rfl rfl (by (try simp only [List.map_toArray, List.map_cons, List.map_nil]); first | done | rfl | (simp only [List.length_drop, List.length_take]; rfl)) ?_
              with_reducible refine (unify_Mgu.calls t477 (fun k_ => (((P0_1_ k_ ∨ P1_1_ k_) ∨ w.heap.size ≤ k_) ∧ (k_ ≠ gb455 ∧ k_ ≠ gb456))) _ _ t478 a0_0 (fun k_ => ((((P0_1_ k_ ∨ P1_1_ k_) ∨ w.heap.size ≤ k_) ∧ (k_ ≠ gb455 ∧ k_ ≠ gb456)) ∧ some k_ ≠ (.slice Ao157 t478.length co157 : Value).ownBlock)) _ _ l0_1 t481 t484 t485 _ ?side1 ?side2 A73.out).mono ?_
              (case side1 => exact Kd.N_V (HO480.out))
              (case side2 => exact HO_456001.out)
              rintro e w158 ⟨v482, rfl, ho0, hb⟩
              refine ⟨_, rfl, ?_⟩
              have n0_ := Aside0.mk (Kd.V_below (by (with_reducible repeat (first | apply vA | apply vN | apply vD)); exact HO_456001.out) hb)
              have n1_ := Aside0.mk (Kd.V_below (by (with_reducible repeat (first | apply vA | apply vN | apply vD)); exact HO_457001.out) hb)
              have n2_ := Aside0.mk (Kd.V_below (by (with_reducible repeat (first | apply vA | apply vN | apply vD)); exact HO474.out) hb)
              have n3_ := Aside0.mk (Kd.N_below (by (with_reducible repeat (first | apply nA | apply nN | apply nD)); exact HO480.out) hb)
              have n4_ := Aside0.mk (Kd.V_lower (Kd.V_mono (ok' := fun k_ => ((P0_1_ k_ ∨ P1_1_ k_) ∨ w.heap.size ≤ k_) ∧ k_ ≠ gb455 ∧ k_ ≠ gb456) ho0 (fun k_ hk_ => ⟨Or.elim hk_ (fun hs_ => Or.elim hs_ (fun hs_ => hs_.1) (fun hs_ => hs_.1.1)) (fun hn_ => (.inr (Nat.le_trans (below_size (by repeat (first | (with_reducible first | exact HB.out | apply wA | apply wN | apply wD | refine wS ?_ GE455.out | refine wS ?_ GE456.out) | exact HB.out))) hn_))), Or.elim hk_ (fun hs_ => Or.elim hs_ (fun hs_ => hs_.2.1) (fun hs_ => hs_.1.2.1)) (fun hn_ => (Kd.freshB (g := gb455) (o := .cells #[.int .i64 a0_0, .slice A0_1 l0_1.length c0_1] 25 (0, 0)) (by (with_reducible repeat (first | refine bN ?_ _ | refine bD ?_ | refine bA ?_ _)); exact BK455.out) k_ hn_)), Or.elim hk_ (fun hs_ => Or.elim hs_ (fun hs_ => hs_.2.2) (fun hs_ => hs_.1.2.2)) (fun hn_ => (Kd.freshB (g := gb456) (o := .cells #[.int .i64 a1_0, .slice A1_1 l1_1.length c1_1] 25 (0, 0)) (by (with_reducible repeat (first | refine bN ?_ _ | refine bD ?_ | refine bA ?_ _)); exact BK456.out) k_ hn_))⟩)) (below_size (by repeat (first | (with_reducible first | exact HB.out | apply wA | apply wN | apply wD | refine wS ?_ GE455.out | refine wS ?_ GE456.out) | exact HB.out))))
              have n5_ := Aside0.mk (blk_below (g := gb455) (o := .cells #[.int .i64 a0_0, .slice A0_1 l0_1.length c0_1] 25 (0, 0)) (by (with_reducible repeat (first | refine bN ?_ _ | refine bD ?_ | refine bA ?_ _)); exact BK455.out) hb)
              have n6_ := Aside0.mk (blk_below (g := gb456) (o := .cells #[.int .i64 a1_0, .slice A1_1 l1_1.length c1_1] 25 (0, 0)) (by (with_reducible repeat (first | refine bN ?_ _ | refine bD ?_ | refine bA ?_ _)); exact BK456.out) hb)
              have n7_ := Aside0.mk (below_step (by repeat (first | (with_reducible first | exact HB.out | apply wA | apply wN | apply wD | refine wS ?_ GE455.out | refine wS ?_ GE456.out) | exact HB.out)) hb)
              clear HO_456001
              clear HO_457001
              clear HO474
              clear HO480
              clear BK455
              clear BK456
              clear HB
              have HO_456001 := n0_
              have HO_457001 := n1_
              have HO474 := n2_
              have HO480 := n3_
              have HO483 := n4_
              have BK455 := n5_
              have BK456 := n6_
              have HB := n7_
              clear n0_ n1_ n2_ n3_ n4_ n5_ n6_ n7_
              (try clear hb)
              (try clear hb2)
              (try clear hk)
              (try clear hi)
              (try clear ho0)
              refine hK.out _ _ ⟨(blk_cell BK455.out 0).trans rfl, (blk_cell BK455.out 1).trans rfl⟩ (fun hHeld => ?_)
              clear hK K
              refine norm_ (a' := ?_) ?_ ?_
              rotate_left
              ·show Act.put _ (some 96) _ = _
               simp only [Act.put, sT, s0, sS, i64_w, i32_w]
               rfl
              refine pure_ (i := 4) (N := some 92) (v := ?_) (a' := ?_) #[T_, T_, T_, T_, T_, F_, F_, F_, F_, F_, F_] rfl rfl (any_of HT_.out (by kernel_rfl)) (fun _ _ _ h => h) (Or.inl ⟨by rfl, ?_⟩) ?_ ?_
              rotate_left
              ·intro w'
               go_simp
               with_reducible rfl
              rotate_left
              ·simp only [Act.put, sT, s0, sS, i64_w, i32_w]
               rfl
              refine pure_ (i := 5) (N := some 97) (v := ?_) (a' := ?_) #[T_, T_, T_, T_, T_, T_, F_, F_, F_, F_, F_] rfl rfl (any_of HT_.out (by kernel_rfl)) (fun _ _ _ h => h) (Or.inl ⟨by rfl, ?_⟩) ?_ ?_
              rotate_left
              ·intro w'
               go_simp
               with_reducible rfl
              rotate_left
              ·simp only [Act.put, sT, s0, sS, i64_w, i32_w]
               rfl
              refine pure_ (i := 6) (N := some 98) (v := ?_) (a' := ?_) #[T_, T_, T_, T_, T_, T_, T_, F_, F_, F_, F_] rfl rfl (any_of HT_.out (by kernel_rfl)) (fun _ _ _ h => h) (Or.inl ⟨by rfl, ?_⟩) ?_ ?_
              rotate_left
              ·intro w'
               go_simp
               with_reducible rfl
              rotate_left
              ·simp only [Act.put, sT, s0, sS, i64_w, i32_w]
               rfl
              refine pure_ (i := 7) (N := some 99) (v := ?_) (a' := ?_) #[T_, T_, T_, T_, T_, T_, T_, T_, F_, F_, F_] rfl rfl (any_of HT_.out (by kernel_rfl)) (fun _ _ _ h => h) (Or.inl ⟨by rfl, ?_⟩) ?_ ?_
              rotate_left
              ·intro w'
               go_simp
               with_reducible rfl
              rotate_left
              ·simp only [Act.put, sT, s0, sS, i64_w, i32_w]
               rfl
              refine pure_ (i := 8) (N := some 16) (v := ?_) (a' := ?_) #[T_, T_, T_, T_, T_, T_, T_, T_, T_, F_, F_] rfl rfl (any_of HT_.out (by kernel_rfl)) (fun _ _ _ h => h) (Or.inl ⟨by rfl, ?_⟩) ?_ ?_
              rotate_left
              ·intro w'
               go_simp
               with_reducible rfl
              rotate_left
              ·simp only [Act.put, sT, s0, sS, i64_w, i32_w]
               rfl
              refine pure_ (i := 9) (N := some 17) (v := ?_) (a' := ?_) #[T_, T_, T_, T_, T_, T_, T_, T_, T_, T_, F_] rfl rfl (any_of HT_.out (by kernel_rfl)) (fun _ _ _ h => h) (Or.inl ⟨by rfl, ?_⟩) ?_ ?_
              rotate_left
              ·intro w'
               go_simp
               with_reducible rfl
              rotate_left
              ·simp only [Act.put, sT, s0, sS, i64_w, i32_w]
               rfl
              refine pure_ (i := 10) (N := some 18) (v := ?_) (a' := ?_) #[T_, T_, T_, T_, T_, T_, T_, T_, T_, T_, T_] rfl rfl (any_of HT_.out (by kernel_rfl)) (fun _ _ _ h => h) (Or.inl ⟨by rfl, ?_⟩) ?_ ?_
              rotate_left
              ·intro w'
               go_simp
               with_reducible rfl
              rotate_left
              ·simp only [Act.put, sT, s0, sS, i64_w, i32_w]
               rfl
              refine done_ (done_of HT_.out (by kernel_rfl)) ?_
              have hcz159_0 : w158.cell? ⟨gb455, 0, none⟩ = some (.int .i64 a0_0) := (blk_cell BK455.out 0).trans rfl
              have hcz159_1 : w158.cell? ⟨gb455, 1, none⟩ = some (.slice A0_1 l0_1.length c0_1) := (blk_cell BK455.out 1).trans rfl
              have hfz159_0 := blk_frozen BK455.out 0
              have hfz159_1 := blk_frozen BK455.out 1
              try go_wp2_with (first | ((with_reducible refine gate_callee (f := 57) rfl ?_); refine goesL_ (some 105) rfl rfl Try.func57 (by kernel_rfl) rfl #[] rfl (by (try simp only [List.map_toArray, List.map_cons, List.map_nil]); first | done | rfl | (simp only [List.length_drop, List.length_take]; rfl)) ?_; (with_reducible refine (elenchuslaw04_awake.calls  true _ A74.out).mono ?_); rintro e w160 ⟨rfl, hb⟩; refine ⟨_, rfl, ?_⟩; have n0_ := Aside0.mk (Kd.V_below (by (with_reducible repeat (first | apply vA | apply vN | apply vD)); exact HO_456001.out) hb); have n1_ := Aside0.mk (Kd.V_below (by (with_reducible repeat (first | apply vA | apply vN | apply vD)); exact HO_457001.out) hb); have n2_ := Aside0.mk (Kd.V_below (by (with_reducible repeat (first | apply vA | apply vN | apply vD)); exact HO474.out) hb); have n3_ := Aside0.mk (Kd.N_below (by (with_reducible repeat (first | apply nA | apply nN | apply nD)); exact HO480.out) hb); have n4_ := Aside0.mk (Kd.V_below (by (with_reducible repeat (first | apply vA | apply vN | apply vD)); exact HO483.out) hb); have n5_ := Aside0.mk (blk_below (g := gb455) (o := .cells #[.int .i64 a0_0, .slice A0_1 l0_1.length c0_1] 25 (0, 0)) (by (with_reducible repeat (first | refine bN ?_ _ | refine bD ?_ | refine bA ?_ _)); exact BK455.out) hb); have n6_ := Aside0.mk (blk_below (g := gb456) (o := .cells #[.int .i64 a1_0, .slice A1_1 l1_1.length c1_1] 25 (0, 0)) (by (with_reducible repeat (first | refine bN ?_ _ | refine bD ?_ | refine bA ?_ _)); exact BK456.out) hb); have n7_ := Aside0.mk (below_step (by repeat (first | (with_reducible first | exact HB.out | apply wA | apply wN | apply wD | refine wS ?_ GE455.out | refine wS ?_ GE456.out) | exact HB.out)) hb); clear HO_456001; clear HO_457001; clear HO474; clear HO480; clear HO483; clear BK455; clear BK456; clear HB; have HO_456001 := n0_; have HO_457001 := n1_; have HO474 := n2_; have HO480 := n3_; have HO483 := n4_; have BK455 := n5_; have BK456 := n6_; have HB := n7_; clear n0_ n1_ n2_ n3_ n4_ n5_ n6_ n7_; (try clear hb); (try clear hb2); (try clear hk); (try clear hi); obtain ⟨Ao161, co161, eo161⟩ := Kd.V_slice HO474.out; subst eo161))
              go_ret
              exact ⟨by first | rfl | (simp [errW_none, errW_some] <;> rfl) | (simp [*, errW_none, errW_some] <;> rfl), by repeat (first | (with_reducible first | exact HB.out | apply wA | apply wN | apply wD | refine wS ?_ GE455.out | refine wS ?_ GE456.out) | exact HB.out)⟩
            ·replace c112 := Bool.eq_false_iff.mpr c112
             subst c112
             have H1 : (some false) = some r := by rw [if_neg (show ¬ (false = true) by decide)] at H; exact H
             clear H
             have H := H1
             clear H1
             obtain rfl := Option.some.inj H
             have hnb162 := NB455_456.out
             have hnc162 := NB456_455.out
             have hcz163_0 : wc.cell? ⟨gb455, 0, none⟩ = some (.int .i64 a0_0) := (blk_cell BK455.out 0).trans rfl
             have hcz163_1 : wc.cell? ⟨gb455, 1, none⟩ = some (.slice A0_1 l0_1.length c0_1) := (blk_cell BK455.out 1).trans rfl
             have hfz163_0 := blk_frozen BK455.out 0
             have hfz163_1 := blk_frozen BK455.out 1
             try go_wp2_with (first | ((with_reducible refine gate_callee (f := 55) rfl ?_); refine goesL_ (some 88) rfl rfl Try.func55 (by kernel_rfl) rfl #[.agg #[.int .i64 a0_0, .slice A0_1 l0_1.length c0_1], .agg #[.int .i64 a0_0, .slice A0_1 l0_1.length c0_1]] rfl (by (try simp only [List.map_toArray, List.map_cons, List.map_nil]); first | done | rfl | (simp only [List.length_drop, List.length_take]; rfl)) ?_; (with_reducible refine (unify_Mgu.calls a0_0 (fun k_ => (((P0_1_ k_ ∨ P1_1_ k_) ∨ w.heap.size ≤ k_) ∧ (k_ ≠ gb455 ∧ k_ ≠ gb456))) _ _ l0_1 a0_0 (fun k_ => (((P0_1_ k_ ∨ P1_1_ k_) ∨ w.heap.size ≤ k_) ∧ (k_ ≠ gb455 ∧ k_ ≠ gb456))) _ _ l0_1 t472 false t476 _ ?side1 ?side2 A71.out).mono ?_); (case side1 => exact HO_456001.out); (case side2 => exact HO_456001.out); rintro e w164 ⟨v473, rfl, ho0, hb⟩; refine ⟨_, rfl, ?_⟩; have n0_ := Aside0.mk (Kd.V_below (by (with_reducible repeat (first | apply vA | apply vN | apply vD)); exact HO_456001.out) hb); have n1_ := Aside0.mk (Kd.V_below (by (with_reducible repeat (first | apply vA | apply vN | apply vD)); exact HO_457001.out) hb); have n2_ := Aside0.mk (Kd.V_lower (Kd.V_mono (ok' := fun k_ => ((P0_1_ k_ ∨ P1_1_ k_) ∨ w.heap.size ≤ k_) ∧ k_ ≠ gb455 ∧ k_ ≠ gb456) ho0 (fun k_ hk_ => ⟨Or.elim hk_ (fun hs_ => Or.elim hs_ (fun hs_ => hs_.1) (fun hs_ => hs_.1)) (fun hn_ => (.inr (Nat.le_trans (below_size (by repeat (first | (with_reducible first | exact HB.out | apply wA | apply wN | apply wD | refine wS ?_ GE455.out | refine wS ?_ GE456.out) | exact HB.out))) hn_))), Or.elim hk_ (fun hs_ => Or.elim hs_ (fun hs_ => hs_.2.1) (fun hs_ => hs_.2.1)) (fun hn_ => (Kd.freshB (g := gb455) (o := .cells #[.int .i64 a0_0, .slice A0_1 l0_1.length c0_1] 25 (0, 0)) (by (with_reducible repeat (first | refine bN ?_ _ | refine bD ?_ | refine bA ?_ _)); exact BK455.out) k_ hn_)), Or.elim hk_ (fun hs_ => Or.elim hs_ (fun hs_ => hs_.2.2) (fun hs_ => hs_.2.2)) (fun hn_ => (Kd.freshB (g := gb456) (o := .cells #[.int .i64 a1_0, .slice A1_1 l1_1.length c1_1] 25 (0, 0)) (by (with_reducible repeat (first | refine bN ?_ _ | refine bD ?_ | refine bA ?_ _)); exact BK456.out) k_ hn_))⟩)) (below_size (by repeat (first | (with_reducible first | exact HB.out | apply wA | apply wN | apply wD | refine wS ?_ GE455.out | refine wS ?_ GE456.out) | exact HB.out)))); have n3_ := Aside0.mk (blk_below (g := gb455) (o := .cells #[.int .i64 a0_0, .slice A0_1 l0_1.length c0_1] 25 (0, 0)) (by (with_reducible repeat (first | refine bN ?_ _ | refine bD ?_ | refine bA ?_ _)); exact BK455.out) hb); have n4_ := Aside0.mk (blk_below (g := gb456) (o := .cells #[.int .i64 a1_0, .slice A1_1 l1_1.length c1_1] 25 (0, 0)) (by (with_reducible repeat (first | refine bN ?_ _ | refine bD ?_ | refine bA ?_ _)); exact BK456.out) hb); have n5_ := Aside0.mk (below_step (by repeat (first | (with_reducible first | exact HB.out | apply wA | apply wN | apply wD | refine wS ?_ GE455.out | refine wS ?_ GE456.out) | exact HB.out)) hb); clear HO_456001; clear HO_457001; clear BK455; clear BK456; clear HB; have HO_456001 := n0_; have HO_457001 := n1_; have HO474 := n2_; have BK455 := n3_; have BK456 := n4_; have HB := n5_; clear n0_ n1_ n2_ n3_ n4_ n5_; (try clear hb); (try clear hb2); (try clear hk); (try clear hi); (try clear ho0)))
             have n0_ := Aside0.mk (Kd.V_drew HO_456001.out)
             have n1_ := Aside0.mk (Kd.V_drew HO_457001.out)
             have n2_ := Aside0.mk (Kd.V_drew HO474.out)
             have n3_ := Aside0.mk (blk_drew BK455.out)
             have n4_ := Aside0.mk (blk_drew BK456.out)
             have n5_ := Aside0.mk (below_drew1 HB.out)
             clear HO_456001
             clear HO_457001
             clear HO474
             clear BK455
             clear BK456
             clear HB
             have HO_456001 := n0_
             have HO_457001 := n1_
             have HO474 := n2_
             have BK455 := n3_
             have BK456 := n4_
             have HB := n5_
             clear n0_ n1_ n2_ n3_ n4_ n5_
             refine start_ (n := 11) (S := fun w' => w'.cell? ⟨gb455, 0, none⟩ = some (.int .i64 a0_0) ∧ w'.cell? ⟨gb455, 1, none⟩ = some (.slice A0_1 l0_1.length c0_1)) (ds := []) #[F_, F_, F_, F_, F_, F_, F_, F_, F_, F_, F_] (by kernel_rfl) rfl rfl ⟨(blk_cell BK455.out 0).trans rfl, (blk_cell BK455.out 1).trans rfl⟩ (fun hHeld => ?_); refine with_tabW elenchuslaw04_UnifySides.tab10 elenchuslaw04_UnifySides.bits10 (fun HT_ HW_ => ?_)
             generalize w164.drew = w165 at HO_456001 HO_457001 HO474 BK455 BK456 HB hHeld ⊢
             refine pure_ (i := 0) (N := some 93) (v := ?_) (a' := ?_) #[T_, F_, F_, F_, F_, F_, F_, F_, F_, F_, F_] rfl rfl (any_of HT_.out (by kernel_rfl)) (fun _ _ _ h => h) (Or.inl ⟨by rfl, ?_⟩) ?_ ?_
             rotate_left
             ·intro w'
              go_simp
              with_reducible rfl
             rotate_left
             ·simp only [Act.put, sT, s0, sS, i64_w, i32_w]
              rfl
             refine take_ (i := 2) (N := some 95) (v := ?_) (a' := ?_) #[T_, F_, T_, F_, F_, F_, F_, F_, F_, F_, F_] rfl rfl (take_ofW HT_.out HW_.out (by kernel_rfl)) (fun _ _ _ h => h) (Or.inl ⟨by rfl, ?_⟩) hHeld ?_ ?_
             rotate_left
             ·rintro w' ⟨s0, s1⟩
              go_simp
              with_reducible rfl
             rotate_left
             ·simp only [Act.put, sT, s0, sS, i64_w, i32_w]
              rfl
             refine one_ (i := 1) (N := some 94) #[T_, T_, T_, F_, F_, F_, F_, F_, F_, F_, F_] rfl rfl (one_of HT_.out (by kernel_rfl)) (by decide) (fun K hK => ?_)
             refine goes_ Try.func39 (by kernel_rfl) rfl #[.int .i64 a2] (by rfl) rfl rfl (by (try simp only [List.map_toArray, List.map_cons, List.map_nil]); first | done | rfl | (simp only [List.length_drop, List.length_take]; rfl)) ?_
             with_reducible refine (elenchusref01_Var.calls a2 t477 t478 _ A72.out).mono ?_
             rintro e w166 ⟨v479, rfl, ho0, hb⟩
             refine ⟨_, rfl, ?_⟩
             have n0_ := Aside0.mk (Kd.V_elder' (by (with_reducible repeat (first | apply vA | apply vN | apply vD)); exact HO_456001.out) (by first | exact Kd.N_base ho0 | exact Kd.R_base ho0) hb)
             have n1_ := Aside0.mk (Kd.V_elder' (by (with_reducible repeat (first | apply vA | apply vN | apply vD)); exact HO_457001.out) (by first | exact Kd.N_base ho0 | exact Kd.R_base ho0) hb)
             have n2_ := Aside0.mk (Kd.V_elder' (by (with_reducible repeat (first | apply vA | apply vN | apply vD)); exact HO474.out) (by first | exact Kd.N_base ho0 | exact Kd.R_base ho0) hb)
             have n3_ := Aside0.mk (Kd.N_lower (Kd.N_mono (ok' := fun k_ => ((P0_1_ k_ ∨ P1_1_ k_) ∨ w.heap.size ≤ k_) ∧ k_ ≠ gb455 ∧ k_ ≠ gb456) (Kd.R_N (Kd.R_bound ho0)) (fun k_ hk_ => ⟨(.inr (Nat.le_trans (below_size (by repeat (first | (with_reducible first | exact HB.out | apply wA | apply wN | apply wD | refine wS ?_ GE455.out | refine wS ?_ GE456.out) | exact HB.out))) hk_.2.1)), (Kd.freshB (g := gb455) (o := .cells #[.int .i64 a0_0, .slice A0_1 l0_1.length c0_1] 25 (0, 0)) (by (with_reducible repeat (first | refine bN ?_ _ | refine bD ?_ | refine bA ?_ _)); exact BK455.out) k_ hk_.2.1), (Kd.freshB (g := gb456) (o := .cells #[.int .i64 a1_0, .slice A1_1 l1_1.length c1_1] 25 (0, 0)) (by (with_reducible repeat (first | refine bN ?_ _ | refine bD ?_ | refine bA ?_ _)); exact BK456.out) k_ hk_.2.1)⟩)) (below_size (by repeat (first | (with_reducible first | exact HB.out | apply wA | apply wN | apply wD | refine wS ?_ GE455.out | refine wS ?_ GE456.out) | exact HB.out))))
             have n4_ := Aside0.mk (blk_below (g := gb455) (o := .cells #[.int .i64 a0_0, .slice A0_1 l0_1.length c0_1] 25 (0, 0)) (by (with_reducible repeat (first | refine bN ?_ _ | refine bD ?_ | refine bA ?_ _)); exact BK455.out) hb)
             have n5_ := Aside0.mk (blk_below (g := gb456) (o := .cells #[.int .i64 a1_0, .slice A1_1 l1_1.length c1_1] 25 (0, 0)) (by (with_reducible repeat (first | refine bN ?_ _ | refine bD ?_ | refine bA ?_ _)); exact BK456.out) hb)
             have n6_ := Aside0.mk (below_step (by repeat (first | (with_reducible first | exact HB.out | apply wA | apply wN | apply wD | refine wS ?_ GE455.out | refine wS ?_ GE456.out) | exact HB.out)) hb)
             clear HO_456001
             clear HO_457001
             clear HO474
             clear BK455
             clear BK456
             clear HB
             have HO_456001 := n0_
             have HO_457001 := n1_
             have HO474 := n2_
             have HO480 := n3_
             have BK455 := n4_
             have BK456 := n5_
             have HB := n6_
             clear n0_ n1_ n2_ n3_ n4_ n5_ n6_
             (try clear hb)
             (try clear hb2)
             (try clear hk)
             (try clear hi)
             (try clear ho0)
             obtain ⟨Ao167, co167, eo167⟩ := Kd.N_slice HO480.out
             (first | subst eo167 | (injection eo167 with f1_ f2_ f3_; have f4_ := f1_.symm; have f5_ := f3_.symm; clear f1_ f2_ f3_; subst f4_; subst f5_))
             refine hK.out _ _ ⟨(blk_cell BK455.out 0).trans rfl, (blk_cell BK455.out 1).trans rfl⟩ (fun hHeld => ?_)
             clear hK K
             refine norm_ (a' := ?_) ?_ ?_
             rotate_left
             ·show Act.put _ (some 94) _ = _
              simp only [Act.put, sT, s0, sS, i64_w, i32_w]
              rfl
             refine one_ (i := 3) (N := some 96) #[T_, T_, T_, T_, F_, F_, F_, F_, F_, F_, F_] rfl rfl (one_of HT_.out (by kernel_rfl)) (by decide) (fun K hK => ?_)
             refine goes_ Try.func55 (by kernel_rfl) rfl #[.agg #[.int .i64 t477, .slice Ao167 t478.length co167], .agg #[.int .i64 a0_0, .slice A0_1 l0_1.length c0_1]] (by rfl) rfl rfl (by (try simp only [List.map_toArray, List.map_cons, List.map_nil]); first | done | rfl | (simp only [List.length_drop, List.length_take]; rfl)) ?_
             with_reducible refine (unify_Mgu.calls t477 (fun k_ => (((P0_1_ k_ ∨ P1_1_ k_) ∨ w.heap.size ≤ k_) ∧ (k_ ≠ gb455 ∧ k_ ≠ gb456))) _ _ t478 a0_0 (fun k_ => ((((P0_1_ k_ ∨ P1_1_ k_) ∨ w.heap.size ≤ k_) ∧ (k_ ≠ gb455 ∧ k_ ≠ gb456)) ∧ some k_ ≠ (.slice Ao167 t478.length co167 : Value).ownBlock)) _ _ l0_1 t481 t484 t485 _ ?side1 ?side2 A73.out).mono ?_
             (case side1 => exact Kd.N_V (HO480.out))
             (case side2 => exact HO_456001.out)
             rintro e w168 ⟨v482, rfl, ho0, hb⟩
             refine ⟨_, rfl, ?_⟩
             have n0_ := Aside0.mk (Kd.V_below (by (with_reducible repeat (first | apply vA | apply vN | apply vD)); exact HO_456001.out) hb)
             have n1_ := Aside0.mk (Kd.V_below (by (with_reducible repeat (first | apply vA | apply vN | apply vD)); exact HO_457001.out) hb)
             have n2_ := Aside0.mk (Kd.V_below (by (with_reducible repeat (first | apply vA | apply vN | apply vD)); exact HO474.out) hb)
             have n3_ := Aside0.mk (Kd.N_below (by (with_reducible repeat (first | apply nA | apply nN | apply nD)); exact HO480.out) hb)
             have n4_ := Aside0.mk (Kd.V_lower (Kd.V_mono (ok' := fun k_ => ((P0_1_ k_ ∨ P1_1_ k_) ∨ w.heap.size ≤ k_) ∧ k_ ≠ gb455 ∧ k_ ≠ gb456) ho0 (fun k_ hk_ => ⟨Or.elim hk_ (fun hs_ => Or.elim hs_ (fun hs_ => hs_.1) (fun hs_ => hs_.1.1)) (fun hn_ => (.inr (Nat.le_trans (below_size (by repeat (first | (with_reducible first | exact HB.out | apply wA | apply wN | apply wD | refine wS ?_ GE455.out | refine wS ?_ GE456.out) | exact HB.out))) hn_))), Or.elim hk_ (fun hs_ => Or.elim hs_ (fun hs_ => hs_.2.1) (fun hs_ => hs_.1.2.1)) (fun hn_ => (Kd.freshB (g := gb455) (o := .cells #[.int .i64 a0_0, .slice A0_1 l0_1.length c0_1] 25 (0, 0)) (by (with_reducible repeat (first | refine bN ?_ _ | refine bD ?_ | refine bA ?_ _)); exact BK455.out) k_ hn_)), Or.elim hk_ (fun hs_ => Or.elim hs_ (fun hs_ => hs_.2.2) (fun hs_ => hs_.1.2.2)) (fun hn_ => (Kd.freshB (g := gb456) (o := .cells #[.int .i64 a1_0, .slice A1_1 l1_1.length c1_1] 25 (0, 0)) (by (with_reducible repeat (first | refine bN ?_ _ | refine bD ?_ | refine bA ?_ _)); exact BK456.out) k_ hn_))⟩)) (below_size (by repeat (first | (with_reducible first | exact HB.out | apply wA | apply wN | apply wD | refine wS ?_ GE455.out | refine wS ?_ GE456.out) | exact HB.out))))
             have n5_ := Aside0.mk (blk_below (g := gb455) (o := .cells #[.int .i64 a0_0, .slice A0_1 l0_1.length c0_1] 25 (0, 0)) (by (with_reducible repeat (first | refine bN ?_ _ | refine bD ?_ | refine bA ?_ _)); exact BK455.out) hb)
             have n6_ := Aside0.mk (blk_below (g := gb456) (o := .cells #[.int .i64 a1_0, .slice A1_1 l1_1.length c1_1] 25 (0, 0)) (by (with_reducible repeat (first | refine bN ?_ _ | refine bD ?_ | refine bA ?_ _)); exact BK456.out) hb)
             have n7_ := Aside0.mk (below_step (by repeat (first | (with_reducible first | exact HB.out | apply wA | apply wN | apply wD | refine wS ?_ GE455.out | refine wS ?_ GE456.out) | exact HB.out)) hb)
             clear HO_456001
             clear HO_457001
             clear HO474
             clear HO480
             clear BK455
             clear BK456
             clear HB
             have HO_456001 := n0_
             have HO_457001 := n1_
             have HO474 := n2_
             have HO480 := n3_
             have HO483 := n4_
             have BK455 := n5_
             have BK456 := n6_
             have HB := n7_
             clear n0_ n1_ n2_ n3_ n4_ n5_ n6_ n7_
             (try clear hb)
             (try clear hb2)
             (try clear hk)
             (try clear hi)
             (try clear ho0)
             refine hK.out _ _ ⟨(blk_cell BK455.out 0).trans rfl, (blk_cell BK455.out 1).trans rfl⟩ (fun hHeld => ?_)
             clear hK K
             refine norm_ (a' := ?_) ?_ ?_
             rotate_left
             ·show Act.put _ (some 96) _ = _
              simp only [Act.put, sT, s0, sS, i64_w, i32_w]
              rfl
             refine pure_ (i := 4) (N := some 92) (v := ?_) (a' := ?_) #[T_, T_, T_, T_, T_, F_, F_, F_, F_, F_, F_] rfl rfl (any_of HT_.out (by kernel_rfl)) (fun _ _ _ h => h) (Or.inl ⟨by rfl, ?_⟩) ?_ ?_
             rotate_left
             ·intro w'
              go_simp
              with_reducible rfl
             rotate_left
             ·simp only [Act.put, sT, s0, sS, i64_w, i32_w]
              rfl
             refine pure_ (i := 5) (N := some 97) (v := ?_) (a' := ?_) #[T_, T_, T_, T_, T_, T_, F_, F_, F_, F_, F_] rfl rfl (any_of HT_.out (by kernel_rfl)) (fun _ _ _ h => h) (Or.inl ⟨by rfl, ?_⟩) ?_ ?_
             rotate_left
             ·intro w'
              go_simp
              with_reducible rfl
             rotate_left
             ·simp only [Act.put, sT, s0, sS, i64_w, i32_w]
              rfl
             refine pure_ (i := 6) (N := some 98) (v := ?_) (a' := ?_) #[T_, T_, T_, T_, T_, T_, T_, F_, F_, F_, F_] rfl rfl (any_of HT_.out (by kernel_rfl)) (fun _ _ _ h => h) (Or.inl ⟨by rfl, ?_⟩) ?_ ?_
             rotate_left
             ·intro w'
              go_simp
              with_reducible rfl
             rotate_left
             ·simp only [Act.put, sT, s0, sS, i64_w, i32_w]
              rfl
             refine pure_ (i := 7) (N := some 99) (v := ?_) (a' := ?_) #[T_, T_, T_, T_, T_, T_, T_, T_, F_, F_, F_] rfl rfl (any_of HT_.out (by kernel_rfl)) (fun _ _ _ h => h) (Or.inl ⟨by rfl, ?_⟩) ?_ ?_
             rotate_left
             ·intro w'
              go_simp
              with_reducible rfl
             rotate_left
             ·simp only [Act.put, sT, s0, sS, i64_w, i32_w]
              rfl
             refine pure_ (i := 8) (N := some 16) (v := ?_) (a' := ?_) #[T_, T_, T_, T_, T_, T_, T_, T_, T_, F_, F_] rfl rfl (any_of HT_.out (by kernel_rfl)) (fun _ _ _ h => h) (Or.inl ⟨by rfl, ?_⟩) ?_ ?_
             rotate_left
             ·intro w'
              go_simp
              with_reducible rfl
             rotate_left
             ·simp only [Act.put, sT, s0, sS, i64_w, i32_w]
              rfl
             refine pure_ (i := 9) (N := some 17) (v := ?_) (a' := ?_) #[T_, T_, T_, T_, T_, T_, T_, T_, T_, T_, F_] rfl rfl (any_of HT_.out (by kernel_rfl)) (fun _ _ _ h => h) (Or.inl ⟨by rfl, ?_⟩) ?_ ?_
             rotate_left
             ·intro w'
              go_simp
              with_reducible rfl
             rotate_left
             ·simp only [Act.put, sT, s0, sS, i64_w, i32_w]
              rfl
             refine pure_ (i := 10) (N := some 18) (v := ?_) (a' := ?_) #[T_, T_, T_, T_, T_, T_, T_, T_, T_, T_, T_] rfl rfl (any_of HT_.out (by kernel_rfl)) (fun _ _ _ h => h) (Or.inl ⟨by rfl, ?_⟩) ?_ ?_
             rotate_left
             ·intro w'
              go_simp
              with_reducible rfl
             rotate_left
             ·simp only [Act.put, sT, s0, sS, i64_w, i32_w]
              rfl
             refine done_ (done_of HT_.out (by kernel_rfl)) ?_
             have hcz169_0 : w168.cell? ⟨gb455, 0, none⟩ = some (.int .i64 a0_0) := (blk_cell BK455.out 0).trans rfl
             have hcz169_1 : w168.cell? ⟨gb455, 1, none⟩ = some (.slice A0_1 l0_1.length c0_1) := (blk_cell BK455.out 1).trans rfl
             have hfz169_0 := blk_frozen BK455.out 0
             have hfz169_1 := blk_frozen BK455.out 1
             try go_wp2_with (first | ((with_reducible refine gate_callee (f := 57) rfl ?_); refine goesL_ (some 105) rfl rfl Try.func57 (by kernel_rfl) rfl #[] rfl (by (try simp only [List.map_toArray, List.map_cons, List.map_nil]); first | done | rfl | (simp only [List.length_drop, List.length_take]; rfl)) ?_; (with_reducible refine (elenchuslaw04_awake.calls  true _ A74.out).mono ?_); rintro e w170 ⟨rfl, hb⟩; refine ⟨_, rfl, ?_⟩; have n0_ := Aside0.mk (Kd.V_below (by (with_reducible repeat (first | apply vA | apply vN | apply vD)); exact HO_456001.out) hb); have n1_ := Aside0.mk (Kd.V_below (by (with_reducible repeat (first | apply vA | apply vN | apply vD)); exact HO_457001.out) hb); have n2_ := Aside0.mk (Kd.V_below (by (with_reducible repeat (first | apply vA | apply vN | apply vD)); exact HO474.out) hb); have n3_ := Aside0.mk (Kd.N_below (by (with_reducible repeat (first | apply nA | apply nN | apply nD)); exact HO480.out) hb); have n4_ := Aside0.mk (Kd.V_below (by (with_reducible repeat (first | apply vA | apply vN | apply vD)); exact HO483.out) hb); have n5_ := Aside0.mk (blk_below (g := gb455) (o := .cells #[.int .i64 a0_0, .slice A0_1 l0_1.length c0_1] 25 (0, 0)) (by (with_reducible repeat (first | refine bN ?_ _ | refine bD ?_ | refine bA ?_ _)); exact BK455.out) hb); have n6_ := Aside0.mk (blk_below (g := gb456) (o := .cells #[.int .i64 a1_0, .slice A1_1 l1_1.length c1_1] 25 (0, 0)) (by (with_reducible repeat (first | refine bN ?_ _ | refine bD ?_ | refine bA ?_ _)); exact BK456.out) hb); have n7_ := Aside0.mk (below_step (by repeat (first | (with_reducible first | exact HB.out | apply wA | apply wN | apply wD | refine wS ?_ GE455.out | refine wS ?_ GE456.out) | exact HB.out)) hb); clear HO_456001; clear HO_457001; clear HO474; clear HO480; clear HO483; clear BK455; clear BK456; clear HB; have HO_456001 := n0_; have HO_457001 := n1_; have HO474 := n2_; have HO480 := n3_; have HO483 := n4_; have BK455 := n5_; have BK456 := n6_; have HB := n7_; clear n0_ n1_ n2_ n3_ n4_ n5_ n6_ n7_; (try clear hb); (try clear hb2); (try clear hk); (try clear hi)))
             go_ret
             exact ⟨by first | rfl | (simp [errW_none, errW_some] <;> rfl) | (simp [*, errW_none, errW_some] <;> rfl), by repeat (first | (with_reducible first | exact HB.out | apply wA | apply wN | apply wD | refine wS ?_ GE455.out | refine wS ?_ GE456.out) | exact HB.out)⟩
          ·replace c75 := Bool.eq_false_iff.mpr c75
           subst c75
           have H1 : (some false) = some r := by rw [if_neg (show ¬ (false = true) by decide)] at H; exact H
           clear H
           have H := H1
           clear H1
           obtain rfl := Option.some.inj H
           have hnb171 := NB455_456.out
           have hnc171 := NB456_455.out
           have hcz172_0 : wc.cell? ⟨gb455, 0, none⟩ = some (.int .i64 a0_0) := (blk_cell BK455.out 0).trans rfl
           have hcz172_1 : wc.cell? ⟨gb455, 1, none⟩ = some (.slice A0_1 l0_1.length c0_1) := (blk_cell BK455.out 1).trans rfl
           have hfz172_0 := blk_frozen BK455.out 0
           have hfz172_1 := blk_frozen BK455.out 1
           try go_wp2_with (first | ((with_reducible refine gate_callee (f := 55) rfl ?_); refine goesL_ (some 88) rfl rfl Try.func55 (by kernel_rfl) rfl #[.agg #[.int .i64 a0_0, .slice A0_1 l0_1.length c0_1], .agg #[.int .i64 a0_0, .slice A0_1 l0_1.length c0_1]] rfl (by (try simp only [List.map_toArray, List.map_cons, List.map_nil]); first | done | rfl | (simp only [List.length_drop, List.length_take]; rfl)) ?_; (with_reducible refine (unify_Mgu.calls a0_0 (fun k_ => (((P0_1_ k_ ∨ P1_1_ k_) ∨ w.heap.size ≤ k_) ∧ (k_ ≠ gb455 ∧ k_ ≠ gb456))) _ _ l0_1 a0_0 (fun k_ => (((P0_1_ k_ ∨ P1_1_ k_) ∨ w.heap.size ≤ k_) ∧ (k_ ≠ gb455 ∧ k_ ≠ gb456))) _ _ l0_1 t472 t475 t476 _ ?side1 ?side2 A71.out).mono ?_); (case side1 => exact HO_456001.out); (case side2 => exact HO_456001.out); rintro e w173 ⟨v473, rfl, ho0, hb⟩; refine ⟨_, rfl, ?_⟩; have n0_ := Aside0.mk (Kd.V_below (by (with_reducible repeat (first | apply vA | apply vN | apply vD)); exact HO_456001.out) hb); have n1_ := Aside0.mk (Kd.V_below (by (with_reducible repeat (first | apply vA | apply vN | apply vD)); exact HO_457001.out) hb); have n2_ := Aside0.mk (Kd.V_lower (Kd.V_mono (ok' := fun k_ => ((P0_1_ k_ ∨ P1_1_ k_) ∨ w.heap.size ≤ k_) ∧ k_ ≠ gb455 ∧ k_ ≠ gb456) ho0 (fun k_ hk_ => ⟨Or.elim hk_ (fun hs_ => Or.elim hs_ (fun hs_ => hs_.1) (fun hs_ => hs_.1)) (fun hn_ => (.inr (Nat.le_trans (below_size (by repeat (first | (with_reducible first | exact HB.out | apply wA | apply wN | apply wD | refine wS ?_ GE455.out | refine wS ?_ GE456.out) | exact HB.out))) hn_))), Or.elim hk_ (fun hs_ => Or.elim hs_ (fun hs_ => hs_.2.1) (fun hs_ => hs_.2.1)) (fun hn_ => (Kd.freshB (g := gb455) (o := .cells #[.int .i64 a0_0, .slice A0_1 l0_1.length c0_1] 25 (0, 0)) (by (with_reducible repeat (first | refine bN ?_ _ | refine bD ?_ | refine bA ?_ _)); exact BK455.out) k_ hn_)), Or.elim hk_ (fun hs_ => Or.elim hs_ (fun hs_ => hs_.2.2) (fun hs_ => hs_.2.2)) (fun hn_ => (Kd.freshB (g := gb456) (o := .cells #[.int .i64 a1_0, .slice A1_1 l1_1.length c1_1] 25 (0, 0)) (by (with_reducible repeat (first | refine bN ?_ _ | refine bD ?_ | refine bA ?_ _)); exact BK456.out) k_ hn_))⟩)) (below_size (by repeat (first | (with_reducible first | exact HB.out | apply wA | apply wN | apply wD | refine wS ?_ GE455.out | refine wS ?_ GE456.out) | exact HB.out)))); have n3_ := Aside0.mk (blk_below (g := gb455) (o := .cells #[.int .i64 a0_0, .slice A0_1 l0_1.length c0_1] 25 (0, 0)) (by (with_reducible repeat (first | refine bN ?_ _ | refine bD ?_ | refine bA ?_ _)); exact BK455.out) hb); have n4_ := Aside0.mk (blk_below (g := gb456) (o := .cells #[.int .i64 a1_0, .slice A1_1 l1_1.length c1_1] 25 (0, 0)) (by (with_reducible repeat (first | refine bN ?_ _ | refine bD ?_ | refine bA ?_ _)); exact BK456.out) hb); have n5_ := Aside0.mk (below_step (by repeat (first | (with_reducible first | exact HB.out | apply wA | apply wN | apply wD | refine wS ?_ GE455.out | refine wS ?_ GE456.out) | exact HB.out)) hb); clear HO_456001; clear HO_457001; clear BK455; clear BK456; clear HB; have HO_456001 := n0_; have HO_457001 := n1_; have HO474 := n2_; have BK455 := n3_; have BK456 := n4_; have HB := n5_; clear n0_ n1_ n2_ n3_ n4_ n5_; (try clear hb); (try clear hb2); (try clear hk); (try clear hi); (try clear ho0)))
           have n0_ := Aside0.mk (Kd.V_drew HO_456001.out)
           have n1_ := Aside0.mk (Kd.V_drew HO_457001.out)
           have n2_ := Aside0.mk (Kd.V_drew HO474.out)
           have n3_ := Aside0.mk (blk_drew BK455.out)
           have n4_ := Aside0.mk (blk_drew BK456.out)
           have n5_ := Aside0.mk (below_drew1 HB.out)
           clear HO_456001
           clear HO_457001
           clear HO474
           clear BK455
           clear BK456
           clear HB
           have HO_456001 := n0_
           have HO_457001 := n1_
           have HO474 := n2_
           have BK455 := n3_
           have BK456 := n4_
           have HB := n5_
           clear n0_ n1_ n2_ n3_ n4_ n5_
           refine start_ (n := 11) (S := fun w' => w'.cell? ⟨gb455, 0, none⟩ = some (.int .i64 a0_0) ∧ w'.cell? ⟨gb455, 1, none⟩ = some (.slice A0_1 l0_1.length c0_1)) (ds := []) #[F_, F_, F_, F_, F_, F_, F_, F_, F_, F_, F_] (by kernel_rfl) rfl rfl ⟨(blk_cell BK455.out 0).trans rfl, (blk_cell BK455.out 1).trans rfl⟩ (fun hHeld => ?_); refine with_tabW elenchuslaw04_UnifySides.tab10 elenchuslaw04_UnifySides.bits10 (fun HT_ HW_ => ?_)
           generalize w173.drew = w174 at HO_456001 HO_457001 HO474 BK455 BK456 HB hHeld ⊢
           refine pure_ (i := 0) (N := some 93) (v := ?_) (a' := ?_) #[T_, F_, F_, F_, F_, F_, F_, F_, F_, F_, F_] rfl rfl (any_of HT_.out (by kernel_rfl)) (fun _ _ _ h => h) (Or.inl ⟨by rfl, ?_⟩) ?_ ?_
           rotate_left
           ·intro w'
            go_simp
            with_reducible rfl
           rotate_left
           ·simp only [Act.put, sT, s0, sS, i64_w, i32_w]
            rfl
           refine take_ (i := 2) (N := some 95) (v := ?_) (a' := ?_) #[T_, F_, T_, F_, F_, F_, F_, F_, F_, F_, F_] rfl rfl (take_ofW HT_.out HW_.out (by kernel_rfl)) (fun _ _ _ h => h) (Or.inl ⟨by rfl, ?_⟩) hHeld ?_ ?_
           rotate_left
           ·rintro w' ⟨s0, s1⟩
            go_simp
            with_reducible rfl
           rotate_left
           ·simp only [Act.put, sT, s0, sS, i64_w, i32_w]
            rfl
           refine one_ (i := 1) (N := some 94) #[T_, T_, T_, F_, F_, F_, F_, F_, F_, F_, F_] rfl rfl (one_of HT_.out (by kernel_rfl)) (by decide) (fun K hK => ?_)
           refine goes_ Try.func39 (by kernel_rfl) rfl #[.int .i64 a2] (by rfl) rfl rfl (by (try simp only [List.map_toArray, List.map_cons, List.map_nil]); first | done | rfl | (simp only [List.length_drop, List.length_take]; rfl)) ?_
           with_reducible refine (elenchusref01_Var.calls a2 t477 t478 _ A72.out).mono ?_
           rintro e w175 ⟨v479, rfl, ho0, hb⟩
           refine ⟨_, rfl, ?_⟩
           have n0_ := Aside0.mk (Kd.V_elder' (by (with_reducible repeat (first | apply vA | apply vN | apply vD)); exact HO_456001.out) (by first | exact Kd.N_base ho0 | exact Kd.R_base ho0) hb)
           have n1_ := Aside0.mk (Kd.V_elder' (by (with_reducible repeat (first | apply vA | apply vN | apply vD)); exact HO_457001.out) (by first | exact Kd.N_base ho0 | exact Kd.R_base ho0) hb)
           have n2_ := Aside0.mk (Kd.V_elder' (by (with_reducible repeat (first | apply vA | apply vN | apply vD)); exact HO474.out) (by first | exact Kd.N_base ho0 | exact Kd.R_base ho0) hb)
           have n3_ := Aside0.mk (Kd.N_lower (Kd.N_mono (ok' := fun k_ => ((P0_1_ k_ ∨ P1_1_ k_) ∨ w.heap.size ≤ k_) ∧ k_ ≠ gb455 ∧ k_ ≠ gb456) (Kd.R_N (Kd.R_bound ho0)) (fun k_ hk_ => ⟨(.inr (Nat.le_trans (below_size (by repeat (first | (with_reducible first | exact HB.out | apply wA | apply wN | apply wD | refine wS ?_ GE455.out | refine wS ?_ GE456.out) | exact HB.out))) hk_.2.1)), (Kd.freshB (g := gb455) (o := .cells #[.int .i64 a0_0, .slice A0_1 l0_1.length c0_1] 25 (0, 0)) (by (with_reducible repeat (first | refine bN ?_ _ | refine bD ?_ | refine bA ?_ _)); exact BK455.out) k_ hk_.2.1), (Kd.freshB (g := gb456) (o := .cells #[.int .i64 a1_0, .slice A1_1 l1_1.length c1_1] 25 (0, 0)) (by (with_reducible repeat (first | refine bN ?_ _ | refine bD ?_ | refine bA ?_ _)); exact BK456.out) k_ hk_.2.1)⟩)) (below_size (by repeat (first | (with_reducible first | exact HB.out | apply wA | apply wN | apply wD | refine wS ?_ GE455.out | refine wS ?_ GE456.out) | exact HB.out))))
           have n4_ := Aside0.mk (blk_below (g := gb455) (o := .cells #[.int .i64 a0_0, .slice A0_1 l0_1.length c0_1] 25 (0, 0)) (by (with_reducible repeat (first | refine bN ?_ _ | refine bD ?_ | refine bA ?_ _)); exact BK455.out) hb)
           have n5_ := Aside0.mk (blk_below (g := gb456) (o := .cells #[.int .i64 a1_0, .slice A1_1 l1_1.length c1_1] 25 (0, 0)) (by (with_reducible repeat (first | refine bN ?_ _ | refine bD ?_ | refine bA ?_ _)); exact BK456.out) hb)
           have n6_ := Aside0.mk (below_step (by repeat (first | (with_reducible first | exact HB.out | apply wA | apply wN | apply wD | refine wS ?_ GE455.out | refine wS ?_ GE456.out) | exact HB.out)) hb)
           clear HO_456001
           clear HO_457001
           clear HO474
           clear BK455
           clear BK456
           clear HB
           have HO_456001 := n0_
           have HO_457001 := n1_
           have HO474 := n2_
           have HO480 := n3_
           have BK455 := n4_
           have BK456 := n5_
           have HB := n6_
           clear n0_ n1_ n2_ n3_ n4_ n5_ n6_
           (try clear hb)
           (try clear hb2)
           (try clear hk)
           (try clear hi)
           (try clear ho0)
           obtain ⟨Ao176, co176, eo176⟩ := Kd.N_slice HO480.out
           (first | subst eo176 | (injection eo176 with f1_ f2_ f3_; have f4_ := f1_.symm; have f5_ := f3_.symm; clear f1_ f2_ f3_; subst f4_; subst f5_))
           refine hK.out _ _ ⟨(blk_cell BK455.out 0).trans rfl, (blk_cell BK455.out 1).trans rfl⟩ (fun hHeld => ?_)
           clear hK K
           refine norm_ (a' := ?_) ?_ ?_
           rotate_left
           ·show Act.put _ (some 94) _ = _
            simp only [Act.put, sT, s0, sS, i64_w, i32_w]
            rfl
           refine one_ (i := 3) (N := some 96) #[T_, T_, T_, T_, F_, F_, F_, F_, F_, F_, F_] rfl rfl (one_of HT_.out (by kernel_rfl)) (by decide) (fun K hK => ?_)
           refine goes_ Try.func55 (by kernel_rfl) rfl #[.agg #[.int .i64 t477, .slice Ao176 t478.length co176], .agg #[.int .i64 a0_0, .slice A0_1 l0_1.length c0_1]] (by rfl) rfl rfl (by (try simp only [List.map_toArray, List.map_cons, List.map_nil]); first | done | rfl | (simp only [List.length_drop, List.length_take]; rfl)) ?_
           with_reducible refine (unify_Mgu.calls t477 (fun k_ => (((P0_1_ k_ ∨ P1_1_ k_) ∨ w.heap.size ≤ k_) ∧ (k_ ≠ gb455 ∧ k_ ≠ gb456))) _ _ t478 a0_0 (fun k_ => ((((P0_1_ k_ ∨ P1_1_ k_) ∨ w.heap.size ≤ k_) ∧ (k_ ≠ gb455 ∧ k_ ≠ gb456)) ∧ some k_ ≠ (.slice Ao176 t478.length co176 : Value).ownBlock)) _ _ l0_1 t481 t484 t485 _ ?side1 ?side2 A73.out).mono ?_
           (case side1 => exact Kd.N_V (HO480.out))
           (case side2 => exact HO_456001.out)
           rintro e w177 ⟨v482, rfl, ho0, hb⟩
           refine ⟨_, rfl, ?_⟩
           have n0_ := Aside0.mk (Kd.V_below (by (with_reducible repeat (first | apply vA | apply vN | apply vD)); exact HO_456001.out) hb)
           have n1_ := Aside0.mk (Kd.V_below (by (with_reducible repeat (first | apply vA | apply vN | apply vD)); exact HO_457001.out) hb)
           have n2_ := Aside0.mk (Kd.V_below (by (with_reducible repeat (first | apply vA | apply vN | apply vD)); exact HO474.out) hb)
           have n3_ := Aside0.mk (Kd.N_below (by (with_reducible repeat (first | apply nA | apply nN | apply nD)); exact HO480.out) hb)
           have n4_ := Aside0.mk (Kd.V_lower (Kd.V_mono (ok' := fun k_ => ((P0_1_ k_ ∨ P1_1_ k_) ∨ w.heap.size ≤ k_) ∧ k_ ≠ gb455 ∧ k_ ≠ gb456) ho0 (fun k_ hk_ => ⟨Or.elim hk_ (fun hs_ => Or.elim hs_ (fun hs_ => hs_.1) (fun hs_ => hs_.1.1)) (fun hn_ => (.inr (Nat.le_trans (below_size (by repeat (first | (with_reducible first | exact HB.out | apply wA | apply wN | apply wD | refine wS ?_ GE455.out | refine wS ?_ GE456.out) | exact HB.out))) hn_))), Or.elim hk_ (fun hs_ => Or.elim hs_ (fun hs_ => hs_.2.1) (fun hs_ => hs_.1.2.1)) (fun hn_ => (Kd.freshB (g := gb455) (o := .cells #[.int .i64 a0_0, .slice A0_1 l0_1.length c0_1] 25 (0, 0)) (by (with_reducible repeat (first | refine bN ?_ _ | refine bD ?_ | refine bA ?_ _)); exact BK455.out) k_ hn_)), Or.elim hk_ (fun hs_ => Or.elim hs_ (fun hs_ => hs_.2.2) (fun hs_ => hs_.1.2.2)) (fun hn_ => (Kd.freshB (g := gb456) (o := .cells #[.int .i64 a1_0, .slice A1_1 l1_1.length c1_1] 25 (0, 0)) (by (with_reducible repeat (first | refine bN ?_ _ | refine bD ?_ | refine bA ?_ _)); exact BK456.out) k_ hn_))⟩)) (below_size (by repeat (first | (with_reducible first | exact HB.out | apply wA | apply wN | apply wD | refine wS ?_ GE455.out | refine wS ?_ GE456.out) | exact HB.out))))
           have n5_ := Aside0.mk (blk_below (g := gb455) (o := .cells #[.int .i64 a0_0, .slice A0_1 l0_1.length c0_1] 25 (0, 0)) (by (with_reducible repeat (first | refine bN ?_ _ | refine bD ?_ | refine bA ?_ _)); exact BK455.out) hb)
           have n6_ := Aside0.mk (blk_below (g := gb456) (o := .cells #[.int .i64 a1_0, .slice A1_1 l1_1.length c1_1] 25 (0, 0)) (by (with_reducible repeat (first | refine bN ?_ _ | refine bD ?_ | refine bA ?_ _)); exact BK456.out) hb)
           have n7_ := Aside0.mk (below_step (by repeat (first | (with_reducible first | exact HB.out | apply wA | apply wN | apply wD | refine wS ?_ GE455.out | refine wS ?_ GE456.out) | exact HB.out)) hb)
           clear HO_456001
           clear HO_457001
           clear HO474
           clear HO480
           clear BK455
           clear BK456
           clear HB
           have HO_456001 := n0_
           have HO_457001 := n1_
           have HO474 := n2_
           have HO480 := n3_
           have HO483 := n4_
           have BK455 := n5_
           have BK456 := n6_
           have HB := n7_
           clear n0_ n1_ n2_ n3_ n4_ n5_ n6_ n7_
           (try clear hb)
           (try clear hb2)
           (try clear hk)
           (try clear hi)
           (try clear ho0)
           refine hK.out _ _ ⟨(blk_cell BK455.out 0).trans rfl, (blk_cell BK455.out 1).trans rfl⟩ (fun hHeld => ?_)
           clear hK K
           refine norm_ (a' := ?_) ?_ ?_
           rotate_left
           ·show Act.put _ (some 96) _ = _
            simp only [Act.put, sT, s0, sS, i64_w, i32_w]
            rfl
           refine pure_ (i := 4) (N := some 92) (v := ?_) (a' := ?_) #[T_, T_, T_, T_, T_, F_, F_, F_, F_, F_, F_] rfl rfl (any_of HT_.out (by kernel_rfl)) (fun _ _ _ h => h) (Or.inl ⟨by rfl, ?_⟩) ?_ ?_
           rotate_left
           ·intro w'
            go_simp
            with_reducible rfl
           rotate_left
           ·simp only [Act.put, sT, s0, sS, i64_w, i32_w]
            rfl
           refine pure_ (i := 5) (N := some 97) (v := ?_) (a' := ?_) #[T_, T_, T_, T_, T_, T_, F_, F_, F_, F_, F_] rfl rfl (any_of HT_.out (by kernel_rfl)) (fun _ _ _ h => h) (Or.inl ⟨by rfl, ?_⟩) ?_ ?_
           rotate_left
           ·intro w'
            go_simp
            with_reducible rfl
           rotate_left
           ·simp only [Act.put, sT, s0, sS, i64_w, i32_w]
            rfl
           refine pure_ (i := 6) (N := some 98) (v := ?_) (a' := ?_) #[T_, T_, T_, T_, T_, T_, T_, F_, F_, F_, F_] rfl rfl (any_of HT_.out (by kernel_rfl)) (fun _ _ _ h => h) (Or.inl ⟨by rfl, ?_⟩) ?_ ?_
           rotate_left
           ·intro w'
            go_simp
            with_reducible rfl
           rotate_left
           ·simp only [Act.put, sT, s0, sS, i64_w, i32_w]
            rfl
           refine pure_ (i := 7) (N := some 99) (v := ?_) (a' := ?_) #[T_, T_, T_, T_, T_, T_, T_, T_, F_, F_, F_] rfl rfl (any_of HT_.out (by kernel_rfl)) (fun _ _ _ h => h) (Or.inl ⟨by rfl, ?_⟩) ?_ ?_
           rotate_left
           ·intro w'
            go_simp
            with_reducible rfl
           rotate_left
           ·simp only [Act.put, sT, s0, sS, i64_w, i32_w]
            rfl
           refine pure_ (i := 8) (N := some 16) (v := ?_) (a' := ?_) #[T_, T_, T_, T_, T_, T_, T_, T_, T_, F_, F_] rfl rfl (any_of HT_.out (by kernel_rfl)) (fun _ _ _ h => h) (Or.inl ⟨by rfl, ?_⟩) ?_ ?_
           rotate_left
           ·intro w'
            go_simp
            with_reducible rfl
           rotate_left
           ·simp only [Act.put, sT, s0, sS, i64_w, i32_w]
            rfl
           refine pure_ (i := 9) (N := some 17) (v := ?_) (a' := ?_) #[T_, T_, T_, T_, T_, T_, T_, T_, T_, T_, F_] rfl rfl (any_of HT_.out (by kernel_rfl)) (fun _ _ _ h => h) (Or.inl ⟨by rfl, ?_⟩) ?_ ?_
           rotate_left
           ·intro w'
            go_simp
            with_reducible rfl
           rotate_left
           ·simp only [Act.put, sT, s0, sS, i64_w, i32_w]
            rfl
           refine pure_ (i := 10) (N := some 18) (v := ?_) (a' := ?_) #[T_, T_, T_, T_, T_, T_, T_, T_, T_, T_, T_] rfl rfl (any_of HT_.out (by kernel_rfl)) (fun _ _ _ h => h) (Or.inl ⟨by rfl, ?_⟩) ?_ ?_
           rotate_left
           ·intro w'
            go_simp
            with_reducible rfl
           rotate_left
           ·simp only [Act.put, sT, s0, sS, i64_w, i32_w]
            rfl
           refine done_ (done_of HT_.out (by kernel_rfl)) ?_
           have hcz178_0 : w177.cell? ⟨gb455, 0, none⟩ = some (.int .i64 a0_0) := (blk_cell BK455.out 0).trans rfl
           have hcz178_1 : w177.cell? ⟨gb455, 1, none⟩ = some (.slice A0_1 l0_1.length c0_1) := (blk_cell BK455.out 1).trans rfl
           have hfz178_0 := blk_frozen BK455.out 0
           have hfz178_1 := blk_frozen BK455.out 1
           try go_wp2_with (first | ((with_reducible refine gate_callee (f := 57) rfl ?_); refine goesL_ (some 105) rfl rfl Try.func57 (by kernel_rfl) rfl #[] rfl (by (try simp only [List.map_toArray, List.map_cons, List.map_nil]); first | done | rfl | (simp only [List.length_drop, List.length_take]; rfl)) ?_; (with_reducible refine (elenchuslaw04_awake.calls  false _ A74.out).mono ?_); rintro e w179 ⟨rfl, hb⟩; refine ⟨_, rfl, ?_⟩; have n0_ := Aside0.mk (Kd.V_below (by (with_reducible repeat (first | apply vA | apply vN | apply vD)); exact HO_456001.out) hb); have n1_ := Aside0.mk (Kd.V_below (by (with_reducible repeat (first | apply vA | apply vN | apply vD)); exact HO_457001.out) hb); have n2_ := Aside0.mk (Kd.V_below (by (with_reducible repeat (first | apply vA | apply vN | apply vD)); exact HO474.out) hb); have n3_ := Aside0.mk (Kd.N_below (by (with_reducible repeat (first | apply nA | apply nN | apply nD)); exact HO480.out) hb); have n4_ := Aside0.mk (Kd.V_below (by (with_reducible repeat (first | apply vA | apply vN | apply vD)); exact HO483.out) hb); have n5_ := Aside0.mk (blk_below (g := gb455) (o := .cells #[.int .i64 a0_0, .slice A0_1 l0_1.length c0_1] 25 (0, 0)) (by (with_reducible repeat (first | refine bN ?_ _ | refine bD ?_ | refine bA ?_ _)); exact BK455.out) hb); have n6_ := Aside0.mk (blk_below (g := gb456) (o := .cells #[.int .i64 a1_0, .slice A1_1 l1_1.length c1_1] 25 (0, 0)) (by (with_reducible repeat (first | refine bN ?_ _ | refine bD ?_ | refine bA ?_ _)); exact BK456.out) hb); have n7_ := Aside0.mk (below_step (by repeat (first | (with_reducible first | exact HB.out | apply wA | apply wN | apply wD | refine wS ?_ GE455.out | refine wS ?_ GE456.out) | exact HB.out)) hb); clear HO_456001; clear HO_457001; clear HO474; clear HO480; clear HO483; clear BK455; clear BK456; clear HB; have HO_456001 := n0_; have HO_457001 := n1_; have HO474 := n2_; have HO480 := n3_; have HO483 := n4_; have BK455 := n5_; have BK456 := n6_; have HB := n7_; clear n0_ n1_ n2_ n3_ n4_ n5_ n6_ n7_; (try clear hb); (try clear hb2); (try clear hk); (try clear hi)))
           go_ret
           exact ⟨by first | rfl | (simp [errW_none, errW_some] <;> rfl) | (simp [*, errW_none, errW_some] <;> rfl), by repeat (first | (with_reducible first | exact HB.out | apply wA | apply wN | apply wD | refine wS ?_ GE455.out | refine wS ?_ GE456.out) | exact HB.out)⟩
end Go.Proofs.Ythplndalbfcbbaa.PA
