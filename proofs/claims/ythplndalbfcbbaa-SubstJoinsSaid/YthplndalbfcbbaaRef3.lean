/- The reference's layer 3: Few, Right, Check, Of. -/
import Derived.Test.YthplndalbfcbbaaDraw
import Derived.Test.YthplndalbfcbbaaRef1d
import Derived.Test.YthplndalbfcbbaaOwn
set_option linter.unusedSimpArgs false
set_option linter.unusedVariables false
namespace Go.Proofs.Ythplndalbfcbbaa
open Go.RowKit

def cnt3 (n : Int) : List Bd → Int
  | [] => n
  | b :: bs => if n ≤ 500 then cnt3 (n + cntT b.t 500) bs else n
theorem cnt3_drop (l : List Bd) (k : Nat) (h : k < l.length) (n : Int) : cnt3 n (l.drop k) = if n ≤ 500 then cnt3 (n + cntT l[k].t 500) (l.drop (k + 1)) else n := by
  rw [List.drop_eq_getElem_cons h]; simp [cnt3]
def fewBs (bs : List Bd) : Bool := decide (bs.length ≤ 10) && decide (cnt3 0 bs ≤ 500)

set_option maxHeartbeats 1000000 in
theorem few3_calls (bs : List Bd) (A : Nat → Prop) (s : Value) (w : World) (hs : Binds A w s bs) :
    Calls Try.prog 25 #[s] w fun e w' => e = .returned (.bool (fewBs bs)) ∧ Below w.heap.size w w' := by
  obtain ⟨a, c, rfl, hlc, hc⟩ := hs.shape
  have hl : bs.length ≤ 9223372036854775807 := by omega
  go_enter Try.func25, Try.ntmps25
  go_wp2
  by_cases h10 : bs.length ≤ 10
  · have HG := hide (show (decide (cnt3 0 (bs.drop 0) ≤ 500)) = fewBs bs by simp [fewBs, h10])
    go_loopw [3, 4] (fun q i wr => ∃ (k : Nat) (x : Int), k ≤ bs.length ∧ i = .int .i64 k ∧ q = .int .i64 x ∧ 0 ≤ x ∧ x ≤ 1001 ∧ Hid (decide (cnt3 x (bs.drop k) ≤ 500) = fewBs bs) ∧ Below w.heap.size w wr) (fun _ i _ => bs.length - (intOf i).toNat)
    case atStart => exact ⟨0, 0, by omega, rfl, rfl, by omega, by omega, HG, Below.refl _ _⟩
    case round =>
      obtain ⟨k, x, hk, rfl, rfl, hx0, hx1, hx, hB⟩ := hrel
      by_cases hlt : k < bs.length
      · by_cases hle : x ≤ 500
        · obtain ⟨b, off, a', c', rfl, hc1, hc2, hc3, hs'⟩ := hs.getW hB k hlt
          have hr := cntT_range bs[k].t 500 (by omega)
          have hx2 := hx.out
          rw [cnt3_drop _ _ hlt, if_pos hle] at hx2
          have HX2 := hide hx2
          clear hx2
          go_wp2_with fail
          refine (count_calls _ bs[k].t A _ _ _ 500 (Nat.le_refl _) (by omega) (by omega) hs').mono ?_
          rintro e w1 ⟨rfl, hB1⟩
          obtain ⟨hr1, hr2⟩ := hr
          have hB2 := more_below hB hB1
          clear hB1 hB
          go_wp2
          go_roundw
          case rel => exact ⟨k + 1, _, by omega, by go_num, rfl, by omega, by omega, HX2, hB2⟩
          case measure => simp [intOf]; omega
        · have hx2 := hx.out
          rw [cnt3_drop _ _ hlt, if_neg hle] at hx2
          have HX2 := hide hx2
          clear hx2
          go_wp2
          go_ret
          exact ⟨by rw [← HX2.out]; simp [hle], hB⟩
      · have hx2 := hx.out
        rw [List.drop_of_length_le (by omega)] at hx2
        simp only [cnt3] at hx2
        have HX2 := hide hx2
        clear hx2
        go_wp2
        go_ret
        exact ⟨by rw [← HX2.out]; rfl, hB⟩
  · have HG := hide (show false = fewBs bs by simp [fewBs, h10])
    go_loopw [3, 4] (fun q i wr => i = .int .i64 0 ∧ q = .int .i64 0 ∧ wr = w) (fun _ i _ => 0)
    case atStart => exact ⟨rfl, rfl, rfl⟩
    case round =>
      obtain ⟨rfl, rfl, rfl⟩ := hrel
      have h0 : 0 < bs.length := by omega
      go_wp2
      go_ret
      exact ⟨by rw [← HG.out]; rfl, Below.refl _ _⟩

/-- Binds from one variable on: each greater than the last, each term right, none of itself. -/
def okBs : Int → List Bd → Bool
  | _, [] => true
  | x, b :: bs => decide (x < b.v) && decide (b.v ≤ 255) && rightB b.t && (b.t.h != -1 - b.v) && okBs b.v bs
def lastAt (bs : List Bd) : Nat → Int
  | 0 => -1
  | k + 1 => match bs[k]? with | some b => b.v | none => -1
theorem okBs_drop (l : List Bd) (k : Nat) (h : k < l.length) (x : Int) : okBs x (l.drop k) = (decide (x < l[k].v) && decide (l[k].v ≤ 255) && rightB l[k].t && (l[k].t.h != -1 - l[k].v) && okBs l[k].v (l.drop (k + 1))) := by
  rw [List.drop_eq_getElem_cons h]; simp [okBs]
theorem lastAt_succ (bs : List Bd) (k : Nat) (h : k < bs.length) : lastAt bs (k + 1) = bs[k].v := by simp [lastAt, h]
def rightBs (bs : List Bd) : Bool := okBs (-1) bs

set_option maxHeartbeats 4000000 in
set_option maxRecDepth 100000 in
theorem right3_calls (bs : List Bd) (A : Nat → Prop) (s : Value) (w : World) (hsz : ∀ b, b ∈ bs → b.t.size ≤ 1000000000) (hs : Binds A w s bs) :
    Calls Try.prog 86 #[s] w fun e w' => e = .returned (.bool (rightBs bs)) ∧ Below w.heap.size w w' := by
  obtain ⟨a, c, rfl, hlc, hc⟩ := hs.shape
  have hl : bs.length ≤ 9223372036854775807 := by omega
  have HG := hide (show okBs (lastAt bs 0) (bs.drop 0) = rightBs bs by simp [rightBs, lastAt])
  go_enter Try.func86, Try.ntmps86
  go_wp2
  go_loopw [3] (fun i wr => ∃ (k : Nat), k ≤ bs.length ∧ i = .int .i64 k ∧ Hid (-1 ≤ lastAt bs k ∧ okBs (lastAt bs k) (bs.drop k) = rightBs bs) ∧ Below w.heap.size w wr) (fun i _ => bs.length - (intOf i).toNat)
  case atStart => exact ⟨0, by omega, rfl, hide ⟨by simp [lastAt], HG.out⟩, Below.refl _ _⟩
  case round =>
    obtain ⟨k, hk, rfl, hx, hB⟩ := hrel
    by_cases hlt : k < bs.length
    · obtain ⟨b, off, a', c', rfl, hbs, hbA, g0, g1, g2, g3⟩ := hs.get k hlt
      have hst : bs[k].t.size ≤ 1000000000 := hsz _ (List.getElem_mem _)
      obtain ⟨hx1, hx2⟩ := hx.out
      rw [okBs_drop _ _ hlt] at hx2
      have hstep := hide hx2
      clear hx2 hx
      have Later : ∀ W, Below w.heap.size w W → Below w.heap.size w W ∧ W.cell? ⟨b, off + k * 3, none⟩ = some (.int .i64 bs[k].v) ∧ W.cell? ⟨b, off + k * 3 + 1, none⟩ = some (.int .i64 bs[k].t.h) ∧ W.cell? ⟨b, off + k * 3 + 2, none⟩ = some (.slice a' bs[k].t.args.length c') := fun W hW =>
        ⟨hW, (hW.cell (p := ⟨b, off + k * 3, none⟩) hbs).trans g0, (hW.cell (p := ⟨b, off + k * 3 + 1, none⟩) hbs).trans g1, (hW.cell (p := ⟨b, off + k * 3 + 2, none⟩) hbs).trans g2⟩
      by_cases kA : bs[k].v < 0
      · have HF := hide (show false = rightBs bs by rw [← hstep.out]; simp; intros; omega)
        clear hstep hx1
        go_wp2
        refine drawn_text (fun W => Below w.heap.size w W ∧ W.cell? ⟨b, off + k * 3, none⟩ = some (.int .i64 bs[k].v) ∧ W.cell? ⟨b, off + k * 3 + 1, none⟩ = some (.int .i64 bs[k].t.h) ∧ W.cell? ⟨b, off + k * 3 + 2, none⟩ = some (.slice a' bs[k].t.args.length c')) [false, false, false, false, false, false, false, false, false, false, false, false, false, false, false, false, false, false, false, false, false, false, false, false, false, false, false, false, false, false, false, false, false, false, false, false, false, false, true, false, false, false, false, false, false, false, false, false, false, false, false, false, false, false, false, false] [some 10, some 11, some 12, some 13, some 14, some 15, some 16, some 17, some 18, some 19, some 20, some 21, some 22, some 23, some 24, some 25, some 26, some 27, some 28, some 29, some 30, some 31, some 32, some 33, some 34, some 35, some 36, some 37, some 38, some 39, some 40, some 41, some 42, some 43, some 44, some 45, some 46, some 47, some 48, some 49, some 50, some 51, some 52, some 53, some 54, some 55, some 56, some 57, some 58, some 59, some 60, some 61, some 62, some 63, some 64, some 65] (by kernel_rfl) rfl (by kernel_rfl) (by kernel_rfl) (by kernel_rfl) (fun _ _ _ _ _ h => h) (Later _ hB.drew) ?_
        repeat (first
          | (refine txt_skip rfl ?_; simp only [Act.put, List.setIfInBounds_toArray, List.set_cons_zero, List.set_cons_succ])
          | (refine txt_pass rfl (Later _ hB.drew) ?_; simp only [Act.put, List.setIfInBounds_toArray, List.set_cons_zero, List.set_cons_succ])
          | (refine txt_take (v := ?_) rfl ?_ ?_; rotate_left; (intro w hS; obtain ⟨-, hS⟩ := hS; go_simp; try with_reducible rfl); simp only [Act.put, List.setIfInBounds_toArray, List.set_cons_zero, List.set_cons_succ]))
        refine txt_done ?_
        go_wp2
        go_ret
        exact ⟨by rw [← HF.out]; rfl, hB.drew⟩
      by_cases kB : 255 < bs[k].v
      · have HF := hide (show false = rightBs bs by rw [← hstep.out]; simp; intros; omega)
        clear hstep hx1
        have DA := hide (show decide (bs[k].v < 0) = false by simpa using kA)
        go_wp2
        refine drawn_text (fun W => Below w.heap.size w W ∧ W.cell? ⟨b, off + k * 3, none⟩ = some (.int .i64 bs[k].v) ∧ W.cell? ⟨b, off + k * 3 + 1, none⟩ = some (.int .i64 bs[k].t.h) ∧ W.cell? ⟨b, off + k * 3 + 2, none⟩ = some (.slice a' bs[k].t.args.length c')) [false, false, false, false, false, false, false, false, false, false, false, false, false, false, false, false, false, false, false, false, false, false, false, false, false, false, false, false, false, false, false, false, false, false, false, false, false, false, true, false, false, false, false, false, false, false, false, false, false, false, false, false, false, false, false, false] [some 10, some 11, some 12, some 13, some 14, some 15, some 16, some 17, some 18, some 19, some 20, some 21, some 22, some 23, some 24, some 25, some 26, some 27, some 28, some 29, some 30, some 31, some 32, some 33, some 34, some 35, some 36, some 37, some 38, some 39, some 40, some 41, some 42, some 43, some 44, some 45, some 46, some 47, some 48, some 49, some 50, some 51, some 52, some 53, some 54, some 55, some 56, some 57, some 58, some 59, some 60, some 61, some 62, some 63, some 64, some 65] (by kernel_rfl) rfl (by kernel_rfl) (by kernel_rfl) (by kernel_rfl) (fun _ _ _ _ _ h => h) (Later _ hB.drew) ?_
        repeat (first
          | (refine txt_skip rfl ?_; simp only [Act.put, List.setIfInBounds_toArray, List.set_cons_zero, List.set_cons_succ, DA.out])
          | (refine txt_pass rfl (Later _ hB.drew) ?_; simp only [Act.put, List.setIfInBounds_toArray, List.set_cons_zero, List.set_cons_succ, DA.out])
          | (refine txt_take (v := ?_) rfl ?_ ?_; rotate_left; (intro w hS; obtain ⟨-, hS⟩ := hS; go_simp; try with_reducible rfl); simp only [Act.put, List.setIfInBounds_toArray, List.set_cons_zero, List.set_cons_succ, DA.out]))
        refine txt_done ?_
        go_wp2
        go_ret
        exact ⟨by rw [← HF.out]; rfl, hB.drew⟩
      have DA := hide (show decide (bs[k].v < 0) = false by simpa using kA)
      have DB := hide (show decide (255 < bs[k].v) = false by simpa using kB)
      have WR := hide (show IntKind.i64.wrap (-1 - bs[k].v) = -1 - bs[k].v from IntWalk.i64_in _ (by omega))
      by_cases k0 : k = 0
      · have DK := hide (show decide (0 < k) = false by simp [k0])
        have KO := hide (show lastAt bs k < bs[k].v ∧ bs[k].v ≤ 255 from (by have h9 : lastAt bs k = -1 := (by simp [k0, lastAt]); omega))
        clear k0
        cases kR : rightB bs[k].t
        · have HF := hide (show false = rightBs bs by rw [← hstep.out]; simp [kR])
          have KR := hide kR
          clear hstep hx1 kR
          go_wp2
          refine drawn_text (fun W => Below w.heap.size w W ∧ W.cell? ⟨b, off + k * 3, none⟩ = some (.int .i64 bs[k].v) ∧ W.cell? ⟨b, off + k * 3 + 1, none⟩ = some (.int .i64 bs[k].t.h) ∧ W.cell? ⟨b, off + k * 3 + 2, none⟩ = some (.slice a' bs[k].t.args.length c')) [false, false, false, false, false, false, false, false, false, false, false, false, false, false, false, false, false, false, false, false, false, false, false, false, false, false, false, false, false, false, false, false, false, false, false, false, false, false, true, false, false, false, false, false, false, false, false, false, false, false, false, false, false, false, false, false] [some 10, some 11, some 12, some 13, some 14, some 15, some 16, some 17, some 18, some 19, some 20, some 21, some 22, some 23, some 24, some 25, some 26, some 27, some 28, some 29, some 30, some 31, some 32, some 33, some 34, some 35, some 36, some 37, some 38, some 39, some 40, some 41, some 42, some 43, some 44, some 45, some 46, some 47, some 48, some 49, some 50, some 51, some 52, some 53, some 54, some 55, some 56, some 57, some 58, some 59, some 60, some 61, some 62, some 63, some 64, some 65] (by kernel_rfl) rfl (by kernel_rfl) (by kernel_rfl) (by kernel_rfl) (fun _ _ _ _ _ h => h) (Later _ hB.drew) ?_
          repeat (first
            | (refine txt_skip rfl ?_; simp only [Act.put, List.setIfInBounds_toArray, List.set_cons_zero, List.set_cons_succ, DA.out, DB.out, WR.out, DK.out, KR.out])
            | (refine txt_pass rfl (Later _ hB.drew) ?_; simp only [Act.put, List.setIfInBounds_toArray, List.set_cons_zero, List.set_cons_succ, DA.out, DB.out, WR.out, DK.out, KR.out])
            | (refine txt_take (v := ?_) rfl ?_ ?_; rotate_left; (intro w hS; obtain ⟨-, hS⟩ := hS; go_simp; try with_reducible rfl); simp only [Act.put, List.setIfInBounds_toArray, List.set_cons_zero, List.set_cons_succ, DA.out, DB.out, WR.out, DK.out, KR.out]))
          refine txt_do rfl ?_
          intro K hK
          go_simp
          refine (right_calls bs[k].t A _ _ _ hst (IsTm.below (⟨rfl, g3⟩ : IsTm A w _ _ _) hB.drew)).mono ?_
          rintro e wn ⟨rfl, hbn⟩
          have hBn := more_below hB.drew hbn
          clear hbn
          refine hK.out _ _ (Later _ hBn) ?_
          clear hK K
          simp only [Act.put, List.setIfInBounds_toArray, List.set_cons_zero, List.set_cons_succ, DA.out, DB.out, WR.out, DK.out, KR.out]
          repeat (first
            | (refine txt_skip rfl ?_; simp only [Act.put, List.setIfInBounds_toArray, List.set_cons_zero, List.set_cons_succ, DA.out, DB.out, WR.out, DK.out, KR.out])
            | (refine txt_pass rfl (Later _ hB.drew) ?_; simp only [Act.put, List.setIfInBounds_toArray, List.set_cons_zero, List.set_cons_succ, DA.out, DB.out, WR.out, DK.out, KR.out])
            | (refine txt_take (v := ?_) rfl ?_ ?_; rotate_left; (intro w hS; obtain ⟨-, hS⟩ := hS; go_simp; try with_reducible rfl); simp only [Act.put, List.setIfInBounds_toArray, List.set_cons_zero, List.set_cons_succ, DA.out, DB.out, WR.out, DK.out, KR.out]))
          refine txt_done ?_
          go_wp2
          go_ret
          exact ⟨by rw [← HF.out]; rfl, by assumption⟩
        · have KR := hide kR
          clear kR
          go_wp2
          refine drawn_text (fun W => Below w.heap.size w W ∧ W.cell? ⟨b, off + k * 3, none⟩ = some (.int .i64 bs[k].v) ∧ W.cell? ⟨b, off + k * 3 + 1, none⟩ = some (.int .i64 bs[k].t.h) ∧ W.cell? ⟨b, off + k * 3 + 2, none⟩ = some (.slice a' bs[k].t.args.length c')) [false, false, false, false, false, false, false, false, false, false, false, false, false, false, false, false, false, false, false, false, false, false, false, false, false, false, false, false, false, false, false, false, false, false, false, false, false, false, true, false, false, false, false, false, false, false, false, false, false, false, false, false, false, false, false, false] [some 10, some 11, some 12, some 13, some 14, some 15, some 16, some 17, some 18, some 19, some 20, some 21, some 22, some 23, some 24, some 25, some 26, some 27, some 28, some 29, some 30, some 31, some 32, some 33, some 34, some 35, some 36, some 37, some 38, some 39, some 40, some 41, some 42, some 43, some 44, some 45, some 46, some 47, some 48, some 49, some 50, some 51, some 52, some 53, some 54, some 55, some 56, some 57, some 58, some 59, some 60, some 61, some 62, some 63, some 64, some 65] (by kernel_rfl) rfl (by kernel_rfl) (by kernel_rfl) (by kernel_rfl) (fun _ _ _ _ _ h => h) (Later _ hB.drew) ?_
          repeat (first
            | (refine txt_skip rfl ?_; simp only [Act.put, List.setIfInBounds_toArray, List.set_cons_zero, List.set_cons_succ, DA.out, DB.out, WR.out, DK.out, KR.out])
            | (refine txt_pass rfl (Later _ hB.drew) ?_; simp only [Act.put, List.setIfInBounds_toArray, List.set_cons_zero, List.set_cons_succ, DA.out, DB.out, WR.out, DK.out, KR.out])
            | (refine txt_take (v := ?_) rfl ?_ ?_; rotate_left; (intro w hS; obtain ⟨-, hS⟩ := hS; go_simp; try with_reducible rfl); simp only [Act.put, List.setIfInBounds_toArray, List.set_cons_zero, List.set_cons_succ, DA.out, DB.out, WR.out, DK.out, KR.out]))
          refine txt_do rfl ?_
          intro K hK
          go_simp
          refine (right_calls bs[k].t A _ _ _ hst (IsTm.below (⟨rfl, g3⟩ : IsTm A w _ _ _) hB.drew)).mono ?_
          rintro e wn ⟨rfl, hbn⟩
          have hBn := more_below hB.drew hbn
          clear hbn
          refine hK.out _ _ (Later _ hBn) ?_
          clear hK K
          simp only [Act.put, List.setIfInBounds_toArray, List.set_cons_zero, List.set_cons_succ, DA.out, DB.out, WR.out, DK.out, KR.out]
          repeat (first
            | (refine txt_skip rfl ?_; simp only [Act.put, List.setIfInBounds_toArray, List.set_cons_zero, List.set_cons_succ, DA.out, DB.out, WR.out, DK.out, KR.out])
            | (refine txt_pass rfl (Later _ hB.drew) ?_; simp only [Act.put, List.setIfInBounds_toArray, List.set_cons_zero, List.set_cons_succ, DA.out, DB.out, WR.out, DK.out, KR.out])
            | (refine txt_take (v := ?_) rfl ?_ ?_; rotate_left; (intro w hS; obtain ⟨-, hS⟩ := hS; go_simp; try with_reducible rfl); simp only [Act.put, List.setIfInBounds_toArray, List.set_cons_zero, List.set_cons_succ, DA.out, DB.out, WR.out, DK.out, KR.out]))
          refine txt_done ?_
          by_cases kH : bs[k].t.h = -1 - bs[k].v
          · have HF := hide (show false = rightBs bs by rw [← hstep.out]; simp [kH])
            have DH : (bs[k].t.h == -1 - bs[k].v) = true := by simpa using kH
            clear hstep hx1 kH
            go_wp2
            go_ret
            exact ⟨by rw [← HF.out]; rfl, by assumption⟩
          · have HF := hide (show okBs bs[k].v (bs.drop (k + 1)) = rightBs bs by rw [← hstep.out]; simp [KR.out, kH, KO.out.1, KO.out.2])
            have HL := hide (show -1 ≤ bs[k].v by omega)
            have DH : (bs[k].t.h == -1 - bs[k].v) = false := by simpa using kH
            clear hstep kH
            go_wp2
            go_roundw
            case rel => exact ⟨k + 1, by omega, by go_num, hide ⟨by rw [lastAt_succ _ _ hlt]; exact HL.out, by rw [lastAt_succ _ _ hlt]; exact HF.out⟩, by assumption⟩
            case measure => simp [intOf]; omega
      · obtain ⟨j, hj⟩ : ∃ j, k = j + 1 := ⟨k - 1, by omega⟩
        have DK := hide (show decide (0 < k) = true by simp; omega)
        have WJ := hide (show IntKind.i64.wrap ((k : Int) - 1) = (j : Int) by rw [IntWalk.i64_in _ (by omega)]; omega)
        have hjl : j < bs.length := by omega
        have hla : lastAt bs k = bs[j].v := by rw [hj, lastAt_succ _ _ hjl]
        rw [hla] at hstep hx1
        clear hla hj k0
        obtain ⟨b9, off9, a9, c9, e9, hbs9, -, j0, -⟩ := hs.get j hjl
        obtain ⟨rfl, rfl⟩ : b = b9 ∧ off = off9 := by cases e9; exact ⟨rfl, rfl⟩
        clear e9
        replace Later : ∀ W, Below w.heap.size w W → Below w.heap.size w W ∧ W.cell? ⟨b, off + k * 3, none⟩ = some (.int .i64 bs[k].v) ∧ W.cell? ⟨b, off + k * 3 + 1, none⟩ = some (.int .i64 bs[k].t.h) ∧ W.cell? ⟨b, off + k * 3 + 2, none⟩ = some (.slice a' bs[k].t.args.length c') ∧ W.cell? ⟨b, off + j * 3, none⟩ = some (.int .i64 bs[j].v) := fun W hW =>
          ⟨hW, (hW.cell (p := ⟨b, off + k * 3, none⟩) hbs).trans g0, (hW.cell (p := ⟨b, off + k * 3 + 1, none⟩) hbs).trans g1, (hW.cell (p := ⟨b, off + k * 3 + 2, none⟩) hbs).trans g2, (hW.cell (p := ⟨b, off + j * 3, none⟩) hbs).trans j0⟩
        by_cases kC : bs[k].v ≤ bs[j].v
        · have HF := hide (show false = rightBs bs by rw [← hstep.out]; simp; intros; omega)
          have DC := hide (show decide (bs[k].v ≤ bs[j].v) = true by simpa using kC)
          clear hstep hx1 kC
          go_wp2
          refine drawn_text (fun W => Below w.heap.size w W ∧ W.cell? ⟨b, off + k * 3, none⟩ = some (.int .i64 bs[k].v) ∧ W.cell? ⟨b, off + k * 3 + 1, none⟩ = some (.int .i64 bs[k].t.h) ∧ W.cell? ⟨b, off + k * 3 + 2, none⟩ = some (.slice a' bs[k].t.args.length c') ∧ W.cell? ⟨b, off + j * 3, none⟩ = some (.int .i64 bs[j].v)) [false, false, false, false, false, false, false, false, false, false, false, false, false, false, false, false, false, false, false, false, false, false, false, false, false, false, false, false, false, false, false, false, false, false, false, false, false, false, true, false, false, false, false, false, false, false, false, false, false, false, false, false, false, false, false, false] [some 10, some 11, some 12, some 13, some 14, some 15, some 16, some 17, some 18, some 19, some 20, some 21, some 22, some 23, some 24, some 25, some 26, some 27, some 28, some 29, some 30, some 31, some 32, some 33, some 34, some 35, some 36, some 37, some 38, some 39, some 40, some 41, some 42, some 43, some 44, some 45, some 46, some 47, some 48, some 49, some 50, some 51, some 52, some 53, some 54, some 55, some 56, some 57, some 58, some 59, some 60, some 61, some 62, some 63, some 64, some 65] (by kernel_rfl) rfl (by kernel_rfl) (by kernel_rfl) (by kernel_rfl) (fun _ _ _ _ _ h => h) (Later _ hB.drew) ?_
          repeat (first
            | (refine txt_skip rfl ?_; simp only [Act.put, List.setIfInBounds_toArray, List.set_cons_zero, List.set_cons_succ, DA.out, DB.out, WR.out, DK.out, DC.out, WJ.out])
            | (refine txt_pass rfl (Later _ hB.drew) ?_; simp only [Act.put, List.setIfInBounds_toArray, List.set_cons_zero, List.set_cons_succ, DA.out, DB.out, WR.out, DK.out, DC.out, WJ.out])
            | (refine txt_take (v := ?_) rfl ?_ ?_; rotate_left; (intro w hS; obtain ⟨-, hS⟩ := hS; go_simp; try with_reducible rfl); simp only [Act.put, List.setIfInBounds_toArray, List.set_cons_zero, List.set_cons_succ, DA.out, DB.out, WR.out, DK.out, DC.out, WJ.out]))
          refine txt_done ?_
          go_wp2
          go_ret
          exact ⟨by rw [← HF.out]; rfl, hB.drew⟩
        · have KO := hide (show bs[j].v < bs[k].v ∧ bs[k].v ≤ 255 by omega)
          have DC := hide (show decide (bs[k].v ≤ bs[j].v) = false by simpa using kC)
          clear kC
          cases kR : rightB bs[k].t
          · have HF := hide (show false = rightBs bs by rw [← hstep.out]; simp [kR])
            have KR := hide kR
            clear hstep hx1 kR
            go_wp2
            refine drawn_text (fun W => Below w.heap.size w W ∧ W.cell? ⟨b, off + k * 3, none⟩ = some (.int .i64 bs[k].v) ∧ W.cell? ⟨b, off + k * 3 + 1, none⟩ = some (.int .i64 bs[k].t.h) ∧ W.cell? ⟨b, off + k * 3 + 2, none⟩ = some (.slice a' bs[k].t.args.length c') ∧ W.cell? ⟨b, off + j * 3, none⟩ = some (.int .i64 bs[j].v)) [false, false, false, false, false, false, false, false, false, false, false, false, false, false, false, false, false, false, false, false, false, false, false, false, false, false, false, false, false, false, false, false, false, false, false, false, false, false, true, false, false, false, false, false, false, false, false, false, false, false, false, false, false, false, false, false] [some 10, some 11, some 12, some 13, some 14, some 15, some 16, some 17, some 18, some 19, some 20, some 21, some 22, some 23, some 24, some 25, some 26, some 27, some 28, some 29, some 30, some 31, some 32, some 33, some 34, some 35, some 36, some 37, some 38, some 39, some 40, some 41, some 42, some 43, some 44, some 45, some 46, some 47, some 48, some 49, some 50, some 51, some 52, some 53, some 54, some 55, some 56, some 57, some 58, some 59, some 60, some 61, some 62, some 63, some 64, some 65] (by kernel_rfl) rfl (by kernel_rfl) (by kernel_rfl) (by kernel_rfl) (fun _ _ _ _ _ h => h) (Later _ hB.drew) ?_
            repeat (first
              | (refine txt_skip rfl ?_; simp only [Act.put, List.setIfInBounds_toArray, List.set_cons_zero, List.set_cons_succ, DA.out, DB.out, WR.out, DK.out, DC.out, WJ.out, KR.out])
              | (refine txt_pass rfl (Later _ hB.drew) ?_; simp only [Act.put, List.setIfInBounds_toArray, List.set_cons_zero, List.set_cons_succ, DA.out, DB.out, WR.out, DK.out, DC.out, WJ.out, KR.out])
              | (refine txt_take (v := ?_) rfl ?_ ?_; rotate_left; (intro w hS; obtain ⟨-, hS⟩ := hS; go_simp; try with_reducible rfl); simp only [Act.put, List.setIfInBounds_toArray, List.set_cons_zero, List.set_cons_succ, DA.out, DB.out, WR.out, DK.out, DC.out, WJ.out, KR.out]))
            refine txt_do rfl ?_
            intro K hK
            go_simp
            refine (right_calls bs[k].t A _ _ _ hst (IsTm.below (⟨rfl, g3⟩ : IsTm A w _ _ _) hB.drew)).mono ?_
            rintro e wn ⟨rfl, hbn⟩
            have hBn := more_below hB.drew hbn
            clear hbn
            refine hK.out _ _ (Later _ hBn) ?_
            clear hK K
            simp only [Act.put, List.setIfInBounds_toArray, List.set_cons_zero, List.set_cons_succ, DA.out, DB.out, WR.out, DK.out, DC.out, WJ.out, KR.out]
            repeat (first
              | (refine txt_skip rfl ?_; simp only [Act.put, List.setIfInBounds_toArray, List.set_cons_zero, List.set_cons_succ, DA.out, DB.out, WR.out, DK.out, DC.out, WJ.out, KR.out])
              | (refine txt_pass rfl (Later _ hB.drew) ?_; simp only [Act.put, List.setIfInBounds_toArray, List.set_cons_zero, List.set_cons_succ, DA.out, DB.out, WR.out, DK.out, DC.out, WJ.out, KR.out])
              | (refine txt_take (v := ?_) rfl ?_ ?_; rotate_left; (intro w hS; obtain ⟨-, hS⟩ := hS; go_simp; try with_reducible rfl); simp only [Act.put, List.setIfInBounds_toArray, List.set_cons_zero, List.set_cons_succ, DA.out, DB.out, WR.out, DK.out, DC.out, WJ.out, KR.out]))
            refine txt_done ?_
            go_wp2
            go_ret
            exact ⟨by rw [← HF.out]; rfl, by assumption⟩
          · have KR := hide kR
            clear kR
            go_wp2
            refine drawn_text (fun W => Below w.heap.size w W ∧ W.cell? ⟨b, off + k * 3, none⟩ = some (.int .i64 bs[k].v) ∧ W.cell? ⟨b, off + k * 3 + 1, none⟩ = some (.int .i64 bs[k].t.h) ∧ W.cell? ⟨b, off + k * 3 + 2, none⟩ = some (.slice a' bs[k].t.args.length c') ∧ W.cell? ⟨b, off + j * 3, none⟩ = some (.int .i64 bs[j].v)) [false, false, false, false, false, false, false, false, false, false, false, false, false, false, false, false, false, false, false, false, false, false, false, false, false, false, false, false, false, false, false, false, false, false, false, false, false, false, true, false, false, false, false, false, false, false, false, false, false, false, false, false, false, false, false, false] [some 10, some 11, some 12, some 13, some 14, some 15, some 16, some 17, some 18, some 19, some 20, some 21, some 22, some 23, some 24, some 25, some 26, some 27, some 28, some 29, some 30, some 31, some 32, some 33, some 34, some 35, some 36, some 37, some 38, some 39, some 40, some 41, some 42, some 43, some 44, some 45, some 46, some 47, some 48, some 49, some 50, some 51, some 52, some 53, some 54, some 55, some 56, some 57, some 58, some 59, some 60, some 61, some 62, some 63, some 64, some 65] (by kernel_rfl) rfl (by kernel_rfl) (by kernel_rfl) (by kernel_rfl) (fun _ _ _ _ _ h => h) (Later _ hB.drew) ?_
            repeat (first
              | (refine txt_skip rfl ?_; simp only [Act.put, List.setIfInBounds_toArray, List.set_cons_zero, List.set_cons_succ, DA.out, DB.out, WR.out, DK.out, DC.out, WJ.out, KR.out])
              | (refine txt_pass rfl (Later _ hB.drew) ?_; simp only [Act.put, List.setIfInBounds_toArray, List.set_cons_zero, List.set_cons_succ, DA.out, DB.out, WR.out, DK.out, DC.out, WJ.out, KR.out])
              | (refine txt_take (v := ?_) rfl ?_ ?_; rotate_left; (intro w hS; obtain ⟨-, hS⟩ := hS; go_simp; try with_reducible rfl); simp only [Act.put, List.setIfInBounds_toArray, List.set_cons_zero, List.set_cons_succ, DA.out, DB.out, WR.out, DK.out, DC.out, WJ.out, KR.out]))
            refine txt_do rfl ?_
            intro K hK
            go_simp
            refine (right_calls bs[k].t A _ _ _ hst (IsTm.below (⟨rfl, g3⟩ : IsTm A w _ _ _) hB.drew)).mono ?_
            rintro e wn ⟨rfl, hbn⟩
            have hBn := more_below hB.drew hbn
            clear hbn
            refine hK.out _ _ (Later _ hBn) ?_
            clear hK K
            simp only [Act.put, List.setIfInBounds_toArray, List.set_cons_zero, List.set_cons_succ, DA.out, DB.out, WR.out, DK.out, DC.out, WJ.out, KR.out]
            repeat (first
              | (refine txt_skip rfl ?_; simp only [Act.put, List.setIfInBounds_toArray, List.set_cons_zero, List.set_cons_succ, DA.out, DB.out, WR.out, DK.out, DC.out, WJ.out, KR.out])
              | (refine txt_pass rfl (Later _ hB.drew) ?_; simp only [Act.put, List.setIfInBounds_toArray, List.set_cons_zero, List.set_cons_succ, DA.out, DB.out, WR.out, DK.out, DC.out, WJ.out, KR.out])
              | (refine txt_take (v := ?_) rfl ?_ ?_; rotate_left; (intro w hS; obtain ⟨-, hS⟩ := hS; go_simp; try with_reducible rfl); simp only [Act.put, List.setIfInBounds_toArray, List.set_cons_zero, List.set_cons_succ, DA.out, DB.out, WR.out, DK.out, DC.out, WJ.out, KR.out]))
            refine txt_done ?_
            by_cases kH : bs[k].t.h = -1 - bs[k].v
            · have HF := hide (show false = rightBs bs by rw [← hstep.out]; simp [kH])
              have DH : (bs[k].t.h == -1 - bs[k].v) = true := by simpa using kH
              clear hstep hx1 kH
              go_wp2
              go_ret
              exact ⟨by rw [← HF.out]; rfl, by assumption⟩
            · have HF := hide (show okBs bs[k].v (bs.drop (k + 1)) = rightBs bs by rw [← hstep.out]; simp [KR.out, kH, KO.out.1, KO.out.2])
              have HL := hide (show -1 ≤ bs[k].v by omega)
              have DH : (bs[k].t.h == -1 - bs[k].v) = false := by simpa using kH
              clear hstep kH
              go_wp2
              go_roundw
              case rel => exact ⟨k + 1, by omega, by go_num, hide ⟨by rw [lastAt_succ _ _ hlt]; exact HL.out, by rw [lastAt_succ _ _ hlt]; exact HF.out⟩, by assumption⟩
              case measure => simp [intOf]; omega
    · have HX2 := hide (show true = rightBs bs by have := hx.out.2; rw [List.drop_of_length_le (by omega)] at this; simpa [okBs] using this)
      clear hx
      go_wp2
      go_ret
      exact ⟨by rw [← HX2.out]; rfl, hB⟩
end Go.Proofs.Ythplndalbfcbbaa
