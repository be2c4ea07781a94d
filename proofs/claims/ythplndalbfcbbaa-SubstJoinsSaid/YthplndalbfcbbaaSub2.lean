/- subst: Check, Of. -/
import Derived.Test.YthplndalbfcbbaaOpen
import Derived.Test.YthplndalbfcbbaaRebuild
set_option linter.unusedSimpArgs false
set_option linter.unusedVariables false
namespace Go.Proofs.Ythplndalbfcbbaa
open Go.RowKit

theorem subof_calls (bs : List Bd) (v : Int) (A : Nat → Prop) (s : Value) (w : World) (hv0 : 0 ≤ v) (hv1 : v ≤ 100000000) (hA : ∀ b, A b → b < w.heap.size) (hrange : ∀ b, b ∈ bs → -9223372036854775808 ≤ b.v ∧ b.v ≤ 9223372036854775807) (hs : Binds A w s bs) :
    Calls Try.prog 35 #[s, .int .i64 v] w fun e w' => Gives A w (ofBs v bs) e w' := by
  obtain ⟨a, c, rfl, hlc, hc⟩ := hs.shape
  have HE := hide (show ofT bs (.node (-1 - v) []) = ofBs v bs by
    unfold ofT
    simp only [Tm.h]
    rw [show -1 - (-1 - v) = v by omega, firstB_of])
  go_enter Try.func35, Try.ntmps35
  have hal : Below w.heap.size w (w.alloc (.cells #[.int .i64 0, .slice none 0 0] 25)) := (Below.refl _ _).alloc (Nat.le_refl _) _
  have hb0 : (w.alloc (.cells #[.int .i64 0, .slice none 0 0] 25)).heap[w.heap.size]? = some (.cells #[.int .i64 0, .slice none 0 0] 25 (0, 0)) := World.alloc_heap_new _ _
  go_wp2_with fail
  refine (open_calls bs (fun b => A b ∨ b = w.heap.size) _ _ hrange ((hs.bar (fun b hb h => by rcases h with h | h; exact h; omega)).below hal)).mono ?_
  rintro e w1 ⟨rfl, hm, h1⟩
  have hB1 := more_below hal h1
  have hb1 := (h1.block _ (by simp)).trans hb0
  clear h1 hal hb0
  go_wp2_with fail
  have hct := tabof_calls bs (.node (-1 - v) []) w.heap.size.succ (fun b => A b ∨ b = w.heap.size) (-1 - v) (.slice none 0 0) w1 (by simp only [Tm.h]; omega) (by simp only [Tm.h]; omega) (by simpa using hm) ⟨rfl, Terms.nil _ _⟩
  rw [HE.out] at hct
  have hsz1 : (w.alloc (.cells #[.int .i64 0, .slice none 0 0] 25)).heap.size = w.heap.size.succ := by simp
  refine hct.mono ?_
  rintro e w2 ⟨s2, he, hT, h2⟩
  subst he
  obtain ⟨a2, c2, rfl, -, -⟩ := hT.shape
  have hB2 := more_below hB1 h2
  have hb2 := (h2.block _ (Array.getElem?_eq_some_iff.1 hb1).1).trans hb1
  obtain ⟨-, y0, y1, y2, y3⟩ := box2 hb2
  have hBe := set2_below (b := w.heap.size) hB2 (Nat.le_refl _) (.int .i64 (ofBs v bs).h) (.slice a2 (ofBs v bs).args.length c2)
  obtain ⟨-, q0, q1, -, -⟩ := box2 (box2_set hb2 (.int .i64 (ofBs v bs).h) (.slice a2 (ofBs v bs).args.length c2))
  have hTe := hT.keep (S := fun b => b ≠ w.heap.size) (((Keep.refl _ w2).setCell (p := ⟨w.heap.size, 0, none⟩) (by simp) (.int .i64 (ofBs v bs).h)).setCell (p := ⟨w.heap.size, 1, none⟩) (by simp) (.slice a2 (ofBs v bs).args.length c2)) (fun b _ hb' e => hb' (.inr e))
  clear h2 hb1 hm
  go_wp2
  exact bodyPost_ret (v := .agg #[.int .i64 (ofBs v bs).h, .slice a2 (ofBs v bs).args.length c2]) (by simp [results, Try.results35, go_sem, q0, q1]) rfl ⟨_, rfl, hTe.bar (fun _ _ h => .inl h), hBe⟩

theorem box3 {w : World} {b : Nat} {x y z : Value} {t : TypeId} (h : w.heap[b]? = some (.cells #[x, y, z] t (0, 0))) :
    b < w.heap.size ∧ w.cell? ⟨b, 0, none⟩ = some x ∧ w.cell? ⟨b, 1, none⟩ = some y ∧ w.cell? ⟨b, 2, none⟩ = some z :=
  ⟨(Array.getElem?_eq_some_iff.1 h).1, by simp [World.cell?, h], by simp [World.cell?, h], by simp [World.cell?, h]⟩

set_option maxHeartbeats 2000000 in
theorem subcheck_calls (bs : List Bd) (A : Nat → Prop) (s : Value) (w : World) (hsz : ∀ b, b ∈ bs → b.t.size ≤ 1000000000) (hs : Binds A w s bs) :
    Calls Try.prog 32 #[s] w fun e w' => e = .returned (.int .i64 (check3 bs)) ∧ Below w.heap.size w w' := by
  obtain ⟨a, c, rfl, hlc, hc⟩ := hs.shape
  have hl : bs.length ≤ 9223372036854775807 := by omega
  have HG := hide (show okBs (-1) (bs.drop 0) = rightBs bs by simp [rightBs])
  go_enter Try.func32, Try.ntmps32
  go_wp2
  go_loopw [3, 8] (fun q i wr => ∃ (k : Nat) (x : Int), k ≤ bs.length ∧ i = .int .i64 k ∧ q = .int .i64 x ∧ -1 ≤ x ∧ Hid (okBs x (bs.drop k) = rightBs bs) ∧ Below w.heap.size w wr) (fun _ i _ => bs.length - (intOf i).toNat)
  case atStart => exact ⟨0, -1, by omega, rfl, rfl, by omega, HG, Below.refl _ _⟩
  case round =>
    obtain ⟨k, x, hk, rfl, rfl, hx1, hx, hB⟩ := hrel
    by_cases hlt : k < bs.length
    · obtain ⟨b, off, a', c', rfl, hbs, hbA, g0, g1, g2, g3⟩ := hs.get k hlt
      have hst : bs[k].t.size ≤ 1000000000 := hsz _ (List.getElem_mem _)
      have l0 := (hB.cell (p := ⟨b, off + k * 3, none⟩) hbs).trans g0
      have l1 := (hB.cell (p := ⟨b, off + k * 3 + 1, none⟩) hbs).trans g1
      have l2 := (hB.cell (p := ⟨b, off + k * 3 + 2, none⟩) hbs).trans g2
      have hx2 := hx.out
      rw [okBs_drop _ _ hlt] at hx2
      have hstep := hide hx2
      clear hx2 hx g0 g1 g2
      have hBa := hB.alloc hB.size (.cells #[.int .i64 bs[k].v, .int .i64 bs[k].t.h, .slice a' bs[k].t.args.length c'] 60)
      by_cases kA : bs[k].v ≤ x
      · have HF := hide (show check3 bs = 1 by unfold check3; rw [← hstep.out]; simp; intros; omega)
        clear hstep
        go_wp2
        go_ret
        exact ⟨ret_int HF.out.symm, hBa⟩
      by_cases kB : 255 < bs[k].v
      · have HF := hide (show check3 bs = 1 by unfold check3; rw [← hstep.out]; simp; intros; omega)
        clear hstep
        go_wp2
        go_ret
        exact ⟨ret_int HF.out.symm, hBa⟩
      have hw : IntKind.i64.wrap (-1 - bs[k].v) = -1 - bs[k].v := IntWalk.i64_in _ (by omega)
      have hnew := World.alloc_heap_new wr (.cells #[.int .i64 bs[k].v, .int .i64 bs[k].t.h, .slice a' bs[k].t.args.length c'] 60)
      go_wp2_with fail
      refine (check_calls bs[k].t A _ _ _ (IsTm.below (⟨rfl, g3⟩ : IsTm A w _ _ _) hBa) hst).mono ?_
      rintro e w1 ⟨rfl, h1⟩
      have hB1 := more_below hBa h1
      obtain ⟨-, m0, m1, m2⟩ := box3 ((h1.block _ (by simp)).trans hnew)
      clear h1 hnew l0 l1 l2
      by_cases kC : chk bs[k].t = 0
      · have HC := hide (show (chk bs[k].t != 0) = false by simp [kC])
        have KR := hide (show rightB bs[k].t = true by simp [rightB, kC])
        have HC2 := HC.out
        clear kC
        by_cases kH : bs[k].t.h = -1 - bs[k].v
        · have HF := hide (show check3 bs = 1 by unfold check3; rw [← hstep.out]; simp [kH])
          have DH : (bs[k].t.h == -1 - bs[k].v) = true := by simpa using kH
          clear hstep kH
          go_wp2
          go_ret
          exact ⟨ret_int HF.out.symm, hB1⟩
        · have HF := hide (show okBs bs[k].v (bs.drop (k + 1)) = rightBs bs by rw [← hstep.out]; simp [KR.out, kH]; intros; omega)
          have DH : (bs[k].t.h == -1 - bs[k].v) = false := by simpa using kH
          clear hstep kH
          go_wp2
          go_roundw
          case rel => exact ⟨k + 1, _, by omega, by go_num, rfl, by omega, HF, hB1⟩
          case measure => simp [intOf]; omega
      · have HC := hide (show (chk bs[k].t != 0) = true by simp [kC])
        have HF := hide (show check3 bs = 1 by unfold check3; rw [← hstep.out]; simp [rightB, kC])
        have HC2 := HC.out
        clear kC hstep
        go_wp2
        go_ret
        exact ⟨ret_int HF.out.symm, hB1⟩
    · have HF := hide (show check3 bs = 0 by have := hx.out; rw [List.drop_of_length_le (by omega)] at this; simp only [okBs] at this; simp [check3, ← this])
      clear hx
      go_wp2
      go_ret
      exact ⟨ret_int HF.out.symm, hB⟩
end Go.Proofs.Ythplndalbfcbbaa
