/- SubstTogether, walked. -/
import Derived.Test.YthplndalbfcbbaaThen
import Derived.Test.YthplndalbfcbbaaSame3
set_option linter.unusedSimpArgs false
set_option linter.unusedVariables false
namespace Go.Proofs.Ythplndalbfcbbaa
open Go.RowKit

set_option maxHeartbeats 8000000 in
set_option maxRecDepth 100000 in
theorem together_calls (ss us vs : List Bd) (sb ub vb : Value) (w : World) (hr1 : ∀ b, b ∈ ss → -9223372036854775808 ≤ b.v ∧ b.v ≤ 9223372036854775807) (hr2 : ∀ b, b ∈ us → -9223372036854775808 ≤ b.v ∧ b.v ≤ 9223372036854775807)
    (hr3 : ∀ b, b ∈ vs → -9223372036854775808 ≤ b.v ∧ b.v ≤ 9223372036854775807) (hsb : Binds (fun _ => False) w sb ss) (hub : Binds (fun _ => False) w ub us) (hvb : Binds (fun _ => False) w vb vs) :
    Calls Try.prog 9 #[sb, ub, vb] w fun e w' => e = .returned (.bool true) ∧ Below w.heap.size w w' := by
  obtain ⟨a1, d1, rfl, hd1, hd1'⟩ := hsb.shape
  obtain ⟨a2, d2, rfl, hd2, hd2'⟩ := hub.shape
  obtain ⟨a3, d3, rfl, hd3, hd3'⟩ := hvb.shape
  have HR1 := hide hr1
  have HR2 := hide hr2
  have HR3 := hide hr3
  clear hr1 hr2 hr3
  go_enter Try.func9, Try.ntmps9
  go_wp2_with fail
  refine (few3_calls ss (fun _ => False) _ _ hsb).mono ?_
  rintro e w1 ⟨rfl, B1⟩
  cases hf1 : fewBs ss
  · have HF := hide hf1
    clear hf1
    go_wp2
    go_ret
    exact ⟨rfl, B1⟩
  have HM1 := hide (few_sizes hf1)
  have HL1 := hide (few_length hf1)
  clear hf1
  go_wp2_with fail
  refine (few3_calls us (fun _ => False) _ _ (hub.below B1)).mono ?_
  rintro e w2 ⟨rfl, h2⟩
  have B2 := more_below B1 h2
  clear h2 B1
  cases hf2 : fewBs us
  · have HF := hide hf2
    clear hf2
    go_wp2
    go_ret
    exact ⟨rfl, B2⟩
  have HM2 := hide (few_sizes hf2)
  have HL2 := hide (few_length hf2)
  clear hf2
  go_wp2_with fail
  refine (few3_calls vs (fun _ => False) _ _ (hvb.below B2)).mono ?_
  rintro e w3 ⟨rfl, h3⟩
  have B3 := more_below B2 h3
  clear h3 B2
  cases hf3 : fewBs vs
  · have HF := hide hf3
    clear hf3
    go_wp2
    go_ret
    exact ⟨rfl, B3⟩
  have HM3 := hide (few_sizes hf3)
  have HL3 := hide (few_length hf3)
  clear hf3
  have HTH := hide (then_three (s := ss) (u := us) (v := vs))
  have HTS1 := hide (then_small ss us)
  have HTL1 := hide (then_length ss us)
  have HTS2 := hide (then_small us vs)
  have HTL2 := hide (then_length us vs)
  go_wp2_with fail
  have hc1 := subthen_calls ss us 500 (.slice a1 ss.length d1) (.slice a2 us.length d2) w3 HR1.out HR2.out (by omega) (by omega) (by omega) HM1.out HM2.out (by have := HL1.out; omega) (by have := HL2.out; omega) (hsb.below B3) (hub.below B3)
  generalize hRt : thenT ss us = Rt at *
  obtain ⟨bb, ee⟩ := Rt
  refine hc1.mono ?_
  rintro e w4 ⟨vb1, rfl, hbb, h4⟩
  obtain ⟨a4, d4, rfl, -, -⟩ := hbb.shape
  have B4 := more_below B3 h4
  clear hc1 h4 B3
  go_wp2_with fail
  have hc2 := subthen_calls us vs 500 (.slice a2 us.length d2) (.slice a3 vs.length d3) w4 HR2.out HR3.out (by omega) (by omega) (by omega) HM2.out HM3.out (by have := HL2.out; omega) (by have := HL3.out; omega) (hub.below B4) (hvb.below B4)
  generalize hRu : thenT us vs = Ru at *
  obtain ⟨cc, fe⟩ := Ru
  refine hc2.mono ?_
  rintro e w5 ⟨vb2, rfl, hcc, h5⟩
  obtain ⟨a5, d5, rfl, -, -⟩ := hcc.shape
  have B5 := more_below B4 h5
  have hbb5 := hbb.below h5
  clear hc2 h5 B4 hbb
  by_cases hee : ee = 0
  rotate_left
  · have hne : (ee != 0) = true := by simpa using hee
    clear hee HTH HTS1 HTS2 HTL1 HTL2 hRt hRu
    go_wp2_with fail
    refine (awake_calls _).mono ?_
    rintro e x1 ⟨rfl, h1⟩
    go_wp2
    go_ret
    exact ⟨rfl, more_below B5 h1⟩
  subst hee
  by_cases hfe : fe = 0
  rotate_left
  · have hne : (fe != 0) = true := by simpa using hfe
    clear hfe HTH HTS1 HTS2 HTL1 HTL2 hRt hRu
    go_wp2_with fail
    refine (awake_calls _).mono ?_
    rintro e x1 ⟨rfl, h1⟩
    go_wp2
    go_ret
    exact ⟨rfl, more_below B5 h1⟩
  subst hfe
  have HE := hide (show thenT bb vs = thenT ss cc from HTH.out rfl rfl)
  have HSB := hide (show ∀ b, b ∈ bb → b.t.size ≤ 400 ∧ 0 ≤ b.v ∧ b.v ≤ 255 from HTS1.out)
  have HSC := hide (show ∀ b, b ∈ cc → b.t.size ≤ 400 ∧ 0 ≤ b.v ∧ b.v ≤ 255 from HTS2.out)
  have HLB := hide (show bb.length ≤ 256 from HTL1.out)
  have HLC := hide (show cc.length ≤ 256 from HTL2.out)
  clear HTH HTS1 HTS2 HTL1 HTL2 hRt hRu
  have HTS3 := hide (then_small bb vs)
  go_wp2_with fail
  have hc3 := subthen_calls bb vs 500 (.slice a4 bb.length d4) (.slice a3 vs.length d3) w5 (fun b hb => by have := HSB.out b hb; omega) HR3.out (by omega) (by omega) (by omega) (fun b hb => by have := (HSB.out b hb).1; omega) HM3.out (by have := HLB.out; omega) (by have := HL3.out; omega) hbb5 (hvb.below B5)
  refine hc3.mono ?_
  rintro e w6 ⟨vb3, rfl, hxx, h6⟩
  have B6 := more_below B5 h6
  have hcc6 := hcc.below h6
  clear hc3 h6 B5 hbb5 hcc
  obtain ⟨a6, d6, rfl, -, -⟩ := hxx.shape
  have hc4 := subthen_calls ss cc 500 (.slice a1 ss.length d1) (.slice a5 cc.length d5) w6 HR1.out (fun b hb => by have := HSC.out b hb; omega) (by omega) (by omega) (by omega) HM1.out (fun b hb => by have := (HSC.out b hb).1; omega) (by have := HL1.out; omega) (by have := HLC.out; omega) (hsb.below B6) hcc6
  rw [← HE.out] at hc4
  generalize hRx : thenT bb vs = Rx at *
  obtain ⟨xx, xe⟩ := Rx
  have HSX := hide (fun b hb => Nat.le_trans ((HTS3.out b hb).1) (by omega : 400 ≤ 1000000000))
  clear HTS3 HE hRx
  go_wp2_with fail
  refine hc4.mono ?_
  rintro e w7 ⟨vb4, rfl, hyy, h7⟩
  obtain ⟨a7, d7, rfl, -, -⟩ := hyy.shape
  have B7 := more_below B6 h7
  have hxx7 := hxx.below h7
  clear hc4 h7 B6 hxx hcc6
  go_wp2_with fail
  refine (awake_calls _).mono ?_
  rintro e x1 ⟨rfl, h1⟩
  have B8 := more_below B7 h1
  have hxx8 := hxx7.below h1
  have hyy8 := hyy.below h1
  clear h1 B7 hxx7 hyy
  go_wp2_with fail
  refine (same3_calls xx (fun _ => False) (fun _ => False) _ _ _ HSX.out hxx8 hyy8).mono ?_
  rintro e x2 ⟨rfl, h2⟩
  have B9 := more_below B8 h2
  go_wp2
  go_ret
  exact ⟨rfl, B9⟩
end Go.Proofs.Ythplndalbfcbbaa
