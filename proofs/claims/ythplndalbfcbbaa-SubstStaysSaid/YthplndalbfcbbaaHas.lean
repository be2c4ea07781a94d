/- slices.Contains at numbers. -/
import Derived.Test.YthplndalbfcbbaaIn
set_option linter.unusedSimpArgs false
set_option linter.unusedVariables false
namespace Go.Proofs.Ythplndalbfcbbaa
open Go.RowKit

/-- The place of a number, or -1. -/
def idxI (n : Int) : List Int → Int → Int
  | [], _ => -1
  | x :: l, k => if n = x then k else idxI n l (k + 1)
theorem idxI_has (n : Int) : ∀ (l : List Int) (k : Int), 0 ≤ k → (decide (0 ≤ idxI n l k) = hasB n l ∧ -1 ≤ idxI n l k)
  | [], k, _ => by simp [idxI, hasB]
  | x :: l, k, h => by
    have ih := idxI_has n l (k + 1) (by omega)
    simp only [idxI, hasB, List.any_cons]
    split
    · rename_i hx; subst hx; simp; omega
    · rename_i hx
      have : (x == n) = false := by simp; omega
      rw [this, Bool.false_or]
      exact ih
theorem idxI_drop (n : Int) (l : List Int) (k : Nat) (h : k < l.length) : idxI n (l.drop k) k = if n = l[k] then (k : Int) else idxI n (l.drop (k + 1)) ((k + 1 : Nat) : Int) := by
  rw [List.drop_eq_getElem_cons h, idxI]; rfl
set_option maxHeartbeats 1000000 in
theorem index_calls (n : Int) (l : List Int) (A : Nat → Prop) (s : Value) (w : World) (hs : Ints A w s l) :
    Calls Try.prog 140 #[s, .int .i64 n] w fun e w' => e = .returned (.int .i64 (idxI n l 0)) ∧ Below w.heap.size w w' := by
  obtain ⟨a, c, rfl, hlc, hc⟩ := hs.shape
  have hl : l.length ≤ 9223372036854775807 := by omega
  have HG := hide (show idxI n (l.drop 0) ((0 : Nat) : Int) = idxI n l 0 by simp)
  go_enter Try.func140, Try.ntmps140
  go_wp2
  go_loopw [8] (fun i wr => ∃ (k : Nat), k ≤ l.length ∧ i = .int .i64 k ∧ Hid (idxI n (l.drop k) k = idxI n l 0) ∧ Below w.heap.size w wr) (fun i _ => l.length - (intOf i).toNat)
  case atStart => exact ⟨0, by omega, rfl, HG, Below.refl _ _⟩
  case round =>
    obtain ⟨k, hk, rfl, hx, hB⟩ := hrel
    by_cases hlt : k < l.length
    · obtain ⟨b, off, rfl, hbs, hbA, g0⟩ := hs.get k hlt
      have hc1 := (hB.cell (p := ⟨b, off + k, none⟩) hbs).trans g0
      clear g0
      have hx2 := hx.out
      rw [idxI_drop _ _ _ hlt] at hx2
      by_cases hv : n = l[k]
      · have HX := hide (show (k : Int) = idxI n l 0 by rw [← hx2, if_pos hv])
        have hv' : (n == l[k]) = true := by simpa using hv
        clear hx hx2 hv
        go_wp2
        go_ret
        rw [← HX.out]
        exact ⟨rfl, hB⟩
      · have HX := hide (show idxI n (l.drop (k + 1)) ((k + 1 : Nat) : Int) = idxI n l 0 by rw [← hx2, if_neg hv])
        have hv' : (n == l[k]) = false := by simpa using hv
        clear hx hx2 hv
        go_wp2
        go_roundw
        case rel => exact ⟨k + 1, by omega, by go_num, HX, hB⟩
        case measure => simp [intOf]; omega
    · have HX := hide (show -1 = idxI n l 0 by have := hx.out; rw [List.drop_of_length_le (by omega)] at this; simpa [idxI] using this)
      clear hx
      go_wp2
      go_ret
      rw [← HX.out]
      exact ⟨rfl, hB⟩
theorem contains_calls (n : Int) (l : List Int) (A : Nat → Prop) (s : Value) (w : World) (hs : Ints A w s l) :
    Calls Try.prog 95 #[s, .int .i64 n] w fun e w' => e = .returned (.bool (hasB n l)) ∧ Below w.heap.size w w' := by
  obtain ⟨a, c, rfl, hlc, hc⟩ := hs.shape
  have h9 := idxI_has n l 0 (by omega)
  go_enter Try.func95, Try.ntmps95
  go_wp2_with fail
  refine (index_calls n l A _ _ hs).mono ?_
  rintro e w1 ⟨rfl, h1⟩
  generalize idxI n l 0 = x at *
  have HX := hide h9
  clear h9
  by_cases h0 : 0 ≤ x
  · have HY := hide (show true = hasB n l by rw [← HX.out.1]; simp [h0])
    go_wp2
    go_ret
    rw [← HY.out]
    first | exact ⟨rfl, h1⟩ | exact ⟨by simp [h0], h1⟩
  · have HY := hide (show false = hasB n l by rw [← HX.out.1]; simp [h0])
    go_wp2
    go_ret
    rw [← HY.out]
    first | exact ⟨rfl, h1⟩ | exact ⟨by simp [h0], h1⟩
end Go.Proofs.Ythplndalbfcbbaa
