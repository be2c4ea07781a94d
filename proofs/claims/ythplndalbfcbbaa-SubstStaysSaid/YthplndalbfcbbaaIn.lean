/- Is a number one of some? -/
import Derived.Test.YthplndalbfcbbaaJoin
set_option linter.unusedSimpArgs false
set_option linter.unusedVariables false
namespace Go.Proofs.Ythplndalbfcbbaa
open Go.RowKit

def hasB (n : Int) (l : List Int) : Bool := l.any fun x => x == n
theorem hasB_iff {n : Int} {l : List Int} : hasB n l = true ↔ n ∈ l := by simp [hasB]
theorem hasB_drop (n : Int) (l : List Int) (k : Nat) (h : k < l.length) : hasB n (l.drop k) = (l[k] == n || hasB n (l.drop (k + 1))) := by
  rw [hasB, hasB, List.drop_eq_getElem_cons h, List.any_cons]
set_option maxHeartbeats 1000000 in
theorem in_calls (n : Int) (l : List Int) (A : Nat → Prop) (s : Value) (w : World) (hs : Ints A w s l) :
    Calls Try.prog 40 #[.int .i64 n, s] w fun e w' => e = .returned (.bool (hasB n l)) ∧ Below w.heap.size w w' := by
  obtain ⟨a, c, rfl, hlc, hc⟩ := hs.shape
  have hl : l.length ≤ 9223372036854775807 := by omega
  have HG := hide (show hasB n (l.drop 0) = hasB n l by simp)
  go_enter Try.func40, Try.ntmps40
  go_wp2
  go_loopw [5] (fun i wr => ∃ (k : Nat), k ≤ l.length ∧ i = .int .i64 k ∧ Hid (hasB n (l.drop k) = hasB n l) ∧ Below w.heap.size w wr) (fun i _ => l.length - (intOf i).toNat)
  case atStart => exact ⟨0, by omega, rfl, HG, Below.refl _ _⟩
  case round =>
    obtain ⟨k, hk, rfl, hx, hB⟩ := hrel
    by_cases hlt : k < l.length
    · obtain ⟨b, off, rfl, hbs, hbA, g0⟩ := hs.get k hlt
      have hc1 := (hB.cell (p := ⟨b, off + k, none⟩) hbs).trans g0
      clear g0
      have hx2 := hx.out
      rw [hasB_drop _ _ _ hlt] at hx2
      cases hv : l[k] == n
      · have HX := hide (show hasB n (l.drop (k + 1)) = hasB n l by rw [← hx2, hv, Bool.false_or])
        clear hx hx2
        go_wp2
        go_roundw
        case rel => exact ⟨k + 1, by omega, by go_num, HX, hB⟩
        case measure => simp [intOf]; omega
      · have HX := hide (show true = hasB n l by rw [← hx2, hv, Bool.true_or])
        clear hx hx2
        go_wp2
        go_ret
        rw [← HX.out]
        exact ⟨rfl, hB⟩
    · have HX := hide (show false = hasB n l by have := hx.out; rw [List.drop_of_length_le (by omega)] at this; simpa [hasB] using this)
      clear hx
      go_wp2
      go_ret
      rw [← HX.out]
      exact ⟨rfl, hB⟩
end Go.Proofs.Ythplndalbfcbbaa
