/- elenchusref03.Then; SubstJoins, walked. -/
import Derived.Test.YthplndalbfcbbaaBoth3
import Derived.Test.YthplndalbfcbbaaSame3
set_option linter.unusedSimpArgs false
set_option linter.unusedVariables false
namespace Go.Proofs.Ythplndalbfcbbaa
open Go.RowKit

theorem firstE_append : ∀ a b : List Bd, firstE (a ++ b) = if firstE a = 0 then firstE b else firstE a
  | [], b => by simp [firstE]
  | v :: a, b => by
    simp only [List.cons_append, firstE, firstE_append a b]
    split <;> simp_all
theorem firstE_snoc {L : List Bd} {k : Nat} (h : k < L.length) (h0 : firstE (L.take k) = 0) : firstE (L.take (k + 1)) = chk L[k].t := by
  rw [List.take_succ_eq_append_getElem h, firstE_append, if_pos h0]
  simp only [firstE]
  split <;> simp_all
theorem firstE_stop {L : List Bd} {k : Nat} (h : k < L.length) (h0 : firstE (L.take k) = 0) (hc : chk L[k].t ≠ 0) : firstE L = chk L[k].t := by
  have h1 := firstE_snoc h h0
  have h3 := firstE_append (L.take (k + 1)) (L.drop (k + 1))
  rw [List.take_append_drop, h1, if_neg hc] at h3
  exact h3
theorem bothL_size {ss us : List Bd} {m : Nat} (hm : 1 ≤ m) (hm2 : m * m ≤ 1000000000) (hb1 : ∀ b, b ∈ ss → b.t.size ≤ m) (hb2 : ∀ b, b ∈ us → b.t.size ≤ m) : ∀ b, b ∈ bothL ss us (upto 256) → b.t.size ≤ 1000000000 := by
  intro b hb
  simp only [bothL, List.mem_map] at hb
  obtain ⟨v, -, rfl⟩ := hb
  exact Nat.le_trans (putT_size us hm hb2 _) (Nat.le_trans (Nat.mul_le_mul_right m (ofBs_size v hm ss hb1)) hm2)

set_option maxHeartbeats 8000000 in
set_option maxRecDepth 100000 in
theorem then3_calls (ss us : List Bd) (m : Nat) (sb ub : Value) (w : World) (hm : 1 ≤ m) (hm2 : m * m ≤ 1000000000) (hm9 : m ≤ 1000000000) (hb1 : ∀ b, b ∈ ss → b.t.size ≤ m) (hb2 : ∀ b, b ∈ us → b.t.size ≤ m) (hsb : Binds (fun _ => False) w sb ss) (hub : Binds (fun _ => False) w ub us) :
    Calls Try.prog 48 #[sb, ub] w fun e w' => ∃ v, e = .returned (.tuple #[v, .int .i64 (thenT ss us).2]) ∧ Binds (fun _ => False) w' v (thenT ss us).1 ∧ Below w.heap.size w w' := by
  obtain ⟨a1, d1, rfl, hc1, hc1'⟩ := hsb.shape
  obtain ⟨a2, d2, rfl, hc2, hc2'⟩ := hub.shape
  go_enter Try.func48, Try.ntmps48
  have HB1 := hide (fun b hb => Nat.le_trans (hb1 b hb) hm9)
  have HB2 := hide (fun b hb => Nat.le_trans (hb2 b hb) hm9)
  have HC1 := hide hb1
  have HC2 := hide hb2
  clear hb1 hb2
  have NILB := hide (fun W => (by simp only [Binds, RepD, List.map_nil]; exact ⟨none, 0, 0, rfl, rfl, by omega, by omega, by simp⟩ : Binds (fun _ => False) W (.slice none 0 0) []))
  go_wp2_with fail
  refine (right3_calls ss (fun _ => False) _ _ HB1.out hsb).mono ?_
  rintro e w1 ⟨rfl, B1⟩
  cases hrs : rightBs ss
  · have HT := hide (show thenT ss us = ([], 1) by rw [thenT, if_neg]; simp [hrs])
    have HRS := hide hrs
    clear hrs
    go_wp2
    exact bodyPost_ret (v := .tuple #[.slice none 0 0, .int .i64 1]) (by simp [results, Try.results48, go_sem]) rfl ⟨_, by rw [HT.out], by rw [HT.out]; exact NILB.out _, B1⟩
  have HRS := hide hrs
  clear hrs
  go_wp2_with fail
  refine (right3_calls us (fun _ => False) _ _ HB2.out (hub.below B1)).mono ?_
  rintro e w2 ⟨rfl, h2⟩
  have B2 := more_below B1 h2
  clear h2 B1
  cases hru : rightBs us
  · have HT := hide (show thenT ss us = ([], 1) by rw [thenT, if_neg]; simp [hru])
    have HRU := hide hru
    clear hru
    go_wp2
    exact bodyPost_ret (v := .tuple #[.slice none 0 0, .int .i64 1]) (by simp [results, Try.results48, go_sem]) rfl ⟨_, by rw [HT.out], by rw [HT.out]; exact NILB.out _, B2⟩
  have HRU := hide hru
  have HT := hide (show thenT ss us = thenP ss us (upto 256) by rw [thenT, if_pos ⟨HRS.out, hru⟩])
  have HE := hide (thenE_bothL HRS.out hru)
  have HZ := hide (bothL_size hm hm2 HC1.out HC2.out)
  clear hru
  go_wp2_with fail
  refine (both3_calls ss us m _ _ _ HRS.out HRU.out hm hm2 HC1.out HC2.out (hsb.below B2) (hub.below B2)).mono ?_
  rintro e w3 ⟨vb, rfl, hL, h3⟩
  have B3 := more_below B2 h3
  clear h3 B2
  generalize hll : bothL ss us (upto 256) = L at *
  have HLL := hide hll
  clear hll
  obtain ⟨al, cl, rfl, hlc, hlc'⟩ := hL.shape
  have hl9 : L.length ≤ 9223372036854775807 := by omega
  go_wp2
  go_loopw [7] (fun i wr => ∃ k : Nat, k ≤ L.length ∧ i = .int .i64 k ∧ Below w3.heap.size w3 wr ∧ Hid (firstE (L.take k) = 0)) (fun i _ => L.length - (intOf i).toNat)
  case atStart => exact ⟨0, by omega, rfl, Below.refl _ _, hide rfl⟩
  case round =>
    obtain ⟨k, hk, rfl, hB, hE⟩ := hrel
    by_cases hlt : k < L.length
    · obtain ⟨b, off, a', c', rfl, g0, g1, g2, gt⟩ := hL.getW hB k hlt
      have hz := HZ.out L[k] (List.getElem_mem hlt)
      have HSTOP := hide (firstE_stop hlt hE.out)
      have HSN := hide (firstE_snoc hlt hE.out)
      go_wp2_with fail
      refine (rcheck_calls L[k].t (fun _ => False) _ _ _ hz gt).mono ?_
      rintro e w4 ⟨rfl, h4⟩
      have hB4 := hB.trans (h4.mono hB.size)
      generalize chk L[k].t = x at *
      clear h4 hB g0 g1 g2 gt
      by_cases hx : x = 0
      · have HE2 := hide (show firstE (L.take (k + 1)) = 0 by rw [HSN.out, hx])
        subst hx
        clear HSN HSTOP
        go_wp2
        go_roundw
        case rel => exact ⟨k + 1, by omega, by go_num, hB4, HE2⟩
        case measure => simp [intOf]; omega
      · have HRES := hide (show thenT ss us = ([], x) by rw [HT.out, thenP, ← HE.out, HSTOP.out hx, if_neg hx])
        have hne : (x != 0) = true := by simpa using hx
        have hBe := more_below B3 hB4
        clear hx HSN HSTOP
        go_wp2
        exact bodyPost_ret (v := .tuple #[.slice none 0 0, .int .i64 x]) (by simp [results, Try.results48, go_sem]) rfl ⟨_, by rw [HRES.out], by rw [HRES.out]; exact NILB.out _, hBe⟩
    · obtain rfl : k = L.length := by omega
      have hE' := hE.out
      rw [List.take_length] at hE'
      have HRES := hide (show thenT ss us = (L, 0) by rw [HT.out, thenP, ← HE.out, if_pos hE', HLL.out])
      have hBe := more_below B3 hB
      have hL' := hL.below hB
      clear hE hE' hlt hk
      go_wp2
      exact bodyPost_ret (v := .tuple #[.slice al L.length cl, .int .i64 0]) (by simp [results, Try.results48, go_sem]) rfl ⟨_, by rw [HRES.out], by rw [HRES.out]; exact hL', hBe⟩

set_option maxHeartbeats 8000000 in
set_option maxRecDepth 100000 in
theorem joins_calls (ss us : List Bd) (sb ub : Value) (w : World) (hr1 : ∀ b, b ∈ ss → -9223372036854775808 ≤ b.v ∧ b.v ≤ 9223372036854775807) (hr2 : ∀ b, b ∈ us → -9223372036854775808 ≤ b.v ∧ b.v ≤ 9223372036854775807)
    (hsb : Binds (fun _ => False) w sb ss) (hub : Binds (fun _ => False) w ub us) :
    Calls Try.prog 7 #[sb, ub] w fun e w' => e = .returned (.bool true) ∧ Below w.heap.size w w' := by
  obtain ⟨a1, d1, rfl, hd1, hd1'⟩ := hsb.shape
  obtain ⟨a2, d2, rfl, hd2, hd2'⟩ := hub.shape
  have HR1 := hide hr1
  have HR2 := hide hr2
  clear hr1 hr2
  go_enter Try.func7, Try.ntmps7
  go_wp2_with fail
  refine (few3_calls ss (fun _ => False) _ _ hsb).mono ?_
  rintro e w1 ⟨rfl, B1⟩
  cases hf1 : fewBs ss
  · have HF := hide hf1
    clear hf1
    go_wp2
    go_ret
    exact ⟨rfl, B1⟩
  have HM1 := hide (few_sizes hf1)
  have HL1 := hide (few_length hf1)
  clear hf1
  go_wp2_with fail
  refine (few3_calls us (fun _ => False) _ _ (hub.below B1)).mono ?_
  rintro e w2 ⟨rfl, h2⟩
  have B2 := more_below B1 h2
  clear h2 B1
  cases hf2 : fewBs us
  · have HF := hide hf2
    clear hf2
    go_wp2
    go_ret
    exact ⟨rfl, B2⟩
  have HM2 := hide (few_sizes hf2)
  have HL2 := hide (few_length hf2)
  clear hf2
  have HTS := hide (then_small ss us)
  go_wp2_with fail
  have hc1 := subthen_calls ss us 500 (.slice a1 ss.length d1) (.slice a2 us.length d2) w2 HR1.out HR2.out (by omega) (by omega) (by omega) HM1.out HM2.out (by have := HL1.out; omega) (by have := HL2.out; omega) (hsb.below B2) (hub.below B2)
  refine hc1.mono ?_
  rintro e w3 ⟨v1, rfl, hx, h3⟩
  have B3 := more_below B2 h3
  clear hc1 h3 B2
  have hc2 := then3_calls ss us 500 (.slice a1 ss.length d1) (.slice a2 us.length d2) w3 (by omega) (by omega) (by omega) HM1.out HM2.out (hsb.below B3) (hub.below B3)
  generalize hRx : thenT ss us = Rx at *
  obtain ⟨xx, xe⟩ := Rx
  have HSX := hide (fun b hb => Nat.le_trans ((HTS.out b hb).1) (by omega : 400 ≤ 1000000000))
  clear HTS hRx
  obtain ⟨a6, d6, rfl, -, -⟩ := hx.shape
  go_wp2_with fail
  refine hc2.mono ?_
  rintro e w4 ⟨v2, rfl, hy, h4⟩
  obtain ⟨a7, d7, rfl, -, -⟩ := hy.shape
  have B4 := more_below B3 h4
  have hx4 := hx.below h4
  clear hc2 h4 B3 hx
  go_wp2_with fail
  refine (awake_calls _).mono ?_
  rintro e x1 ⟨rfl, h1⟩
  have B5 := more_below B4 h1
  have hx5 := hx4.below h1
  have hy5 := hy.below h1
  clear h1 B4 hx4 hy
  go_wp2_with fail
  refine (same3_calls xx (fun _ => False) (fun _ => False) _ _ _ HSX.out hx5 hy5).mono ?_
  rintro e x2 ⟨rfl, h2⟩
  have B6 := more_below B5 h2
  go_wp2
  go_ret
  exact ⟨rfl, B6⟩
end Go.Proofs.Ythplndalbfcbbaa
