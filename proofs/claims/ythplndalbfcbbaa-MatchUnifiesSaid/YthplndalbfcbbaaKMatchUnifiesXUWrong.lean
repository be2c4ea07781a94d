/- What the proof of the law rests on: contracts of the functions, plain laws, and words. -/
import Derived.Test.YthplndalbfcbbaaKMatchUnifiesG6
set_option linter.unusedSimpArgs false
set_option linter.unusedVariables false
namespace Go.Proofs.Ythplndalbfcbbaa
open Go.RowKit
theorem uwrong1_calls (t : Tm) (A : Nat → Prop) (h : Int) (s : Value) (w : World) (hs : IsTm A w h s t) (hsz : t.size ≤ 1000000000) :
    Calls Try.prog 113 #[.agg #[.int .i64 h, s]] w fun e w' => e = .returned (.bool (chk t != 0)) ∧ Below w.heap.size w w' := by
  obtain ⟨rfl, a, c, rfl, hc1, hc2⟩ := hs.shape
  go_enter Try.func113, Try.ntmps113
  have B0 : Below w.heap.size w (w.alloc (.cells #[.int .i64 t.h, .slice a t.args.length c] 25)) := (Below.refl _ _).alloc (Nat.le_refl _) _
  go_wp2_with fail
  refine (check_calls t A _ _ _ (hs.below B0) hsz).mono ?_
  rintro e w1 ⟨rfl, h1⟩
  have B1 := more_below B0 h1
  generalize hx : chk t = x at *
  have HX := hide hx
  clear hx
  go_wp2
  go_ret
  rw [HX.out]
  exact ⟨rfl, B1⟩
set_option maxHeartbeats 2000000 in
set_option maxRecDepth 100000 in
theorem uindexf_calls (ts : List Tm) (A : Nat → Prop) (s : Value) (w : World) (hs : Terms A w s ts) (hsz : ∀ t, t ∈ ts → t.size ≤ 1000000000) :
    Calls Try.prog 151 #[s, .func (.func 113) #[] #[]] w fun e w' => e = .returned (.int .i64 (badI ts 0)) ∧ Below w.heap.size w w' := by
  obtain ⟨a, c, rfl, hlc, hc⟩ := hs.shape
  have hl : ts.length ≤ 9223372036854775807 := by omega
  have HSZ := hide hsz
  clear hsz
  have HG := hide (show badI (ts.drop 0) ((0 : Nat) : Int) = badI ts 0 by simp)
  go_enter Try.func151, Try.ntmps151
  go_wp2
  go_loopw [8] (fun i wr => ∃ (k : Nat), k ≤ ts.length ∧ i = .int .i64 k ∧ Hid (badI (ts.drop k) k = badI ts 0) ∧ Below w.heap.size w wr) (fun i _ => ts.length - (intOf i).toNat)
  case atStart => exact ⟨0, by omega, rfl, HG, Below.refl _ _⟩
  case round =>
    obtain ⟨k, hk, rfl, hx, hB⟩ := hrel
    by_cases hlt : k < ts.length
    · obtain ⟨b, off, a', c', rfl, g0, g1, gt⟩ := hs.getW hB k hlt
      have hz := HSZ.out ts[k] (List.getElem_mem hlt)
      have HX2 := hide (hx.out.symm.trans (badI_drop _ _ hlt))
      clear hx
      go_wp2_with fail
      refine (uwrong1_calls ts[k] A _ _ _ gt hz).mono ?_
      rintro e w4 ⟨rfl, h4⟩
      have hB4 := more_below hB h4
      generalize chk ts[k] = x at *
      clear h4 hB g0 g1 gt
      by_cases hx : x = 0
      · have HX := hide (show badI (ts.drop (k + 1)) ((k + 1 : Nat) : Int) = badI ts 0 by rw [HX2.out, if_pos hx])
        subst hx
        clear HX2
        go_wp2
        go_roundw
        case rel => exact ⟨k + 1, by omega, by go_num, HX, hB4⟩
        case measure => simp [intOf]; omega
      · have HX := hide (show (k : Int) = badI ts 0 by rw [HX2.out, if_neg hx])
        have hne : (x != 0) = true := by simpa using hx
        clear hx HX2
        go_wp2
        go_ret
        rw [← HX.out]
        exact ⟨rfl, hB4⟩
    · have HX := hide (show -1 = badI ts 0 by have := hx.out; rw [List.drop_of_length_le (by omega)] at this; simpa [badI] using this)
      clear hx
      go_wp2
      go_ret
      rw [← HX.out]
      exact ⟨rfl, hB⟩
theorem ucontains_calls (ts : List Tm) (A : Nat → Prop) (s : Value) (w : World) (hs : Terms A w s ts) (hsz : ∀ t, t ∈ ts → t.size ≤ 1000000000) :
    Calls Try.prog 114 #[s, .func (.func 113) #[] #[]] w fun e w' => e = .returned (.bool (!ts.all rightB)) ∧ Below w.heap.size w w' := by
  obtain ⟨a, c, rfl, hlc, hc⟩ := hs.shape
  have HSZ := hide hsz
  have H9 := hide (badI_all ts 0 (by omega))
  clear hsz
  go_enter Try.func114, Try.ntmps114
  go_wp2_with fail
  refine (uindexf_calls ts A _ _ hs HSZ.out).mono ?_
  rintro e w1 ⟨rfl, h1⟩
  generalize badI ts 0 = x at *
  by_cases h0 : 0 ≤ x
  · have HY := hide (show true = !ts.all rightB by rw [← H9.out]; simp [h0])
    clear H9
    go_wp2
    go_ret
    rw [← HY.out]
    exact ⟨rfl, h1⟩
  · have HY := hide (show false = !ts.all rightB by rw [← H9.out]; simp [h0])
    clear H9
    go_wp2
    go_ret
    rw [← HY.out]
    exact ⟨by simp [h0], h1⟩
end Go.Proofs.Ythplndalbfcbbaa
