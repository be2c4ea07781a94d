/- elenchusref05.Few, walked. -/
import Derived.Test.YtneecjikdghchaaDoorRef1c
set_option linter.unusedSimpArgs false
set_option linter.unusedVariables false
namespace Go.Proofs.YtneecjikdghchaaDoor
open Go.RowKit

def cntS (n : Int) : List Tm → Int
  | [] => n
  | t :: ts => if n ≤ 500 then cntS (n + cntT t 500) ts else n
theorem cntS_drop (l : List Tm) (k : Nat) (h : k < l.length) (n : Int) : cntS n (l.drop k) = if n ≤ 500 then cntS (n + cntT l[k] 500) (l.drop (k + 1)) else n := by
  rw [List.drop_eq_getElem_cons h]; simp [cntS]
def fewS (ts : List Tm) : Bool := decide (cntS 0 ts ≤ 500)
theorem cntS_le : ∀ (ts : List Tm) (n : Int), 0 ≤ n → n ≤ cntS n ts
  | [], n, _ => by simp [cntS]
  | t :: ts, n, h => by
    simp only [cntS]
    split
    · have := cntT_range t 500 (by omega)
      have := cntS_le ts (n + cntT t 500) (by omega)
      omega
    · omega
theorem cntS_sizes : ∀ (ts : List Tm) (n : Int), 0 ≤ n → cntS n ts ≤ 500 → n + Tm.sizes ts ≤ 500
  | [], n, _, h => by simpa [cntS, Tm.sizes] using h
  | t :: ts, n, h0, h => by
    simp only [cntS] at h
    split at h
    · have hr := cntT_range t 500 (by omega)
      have hz := cntT_size t 500 (by omega)
      have hle := cntS_le ts (n + cntT t 500) (by omega)
      have := cntS_sizes ts _ (by omega) h
      have h5 := hz.2 (by omega)
      have h6 := hz.1 (by omega)
      simp only [Tm.sizes]; push_cast; omega
    · omega
theorem fewS_sizes {ts : List Tm} (h : fewS ts = true) : Tm.sizes ts ≤ 500 := by
  have := cntS_sizes ts 0 (by omega) (by simpa [fewS] using h); omega
set_option maxHeartbeats 1000000 in
theorem few5_calls (ts : List Tm) (A : Nat → Prop) (s : Value) (w : World) (hs : Terms A w s ts) :
    Calls Tryd.prog 7 #[s] w fun e w' => e = .returned (.bool (fewS ts)) ∧ Below w.heap.size w w' := by
  obtain ⟨a, c, rfl, hlc, hc⟩ := hs.shape
  have HG := hide (show (decide (cntS 0 (ts.drop 0) ≤ 500)) = fewS ts by simp [fewS])
  go_enter Tryd.func7, Tryd.ntmps7
  go_wp2
  go_loopw [3, 4] (fun q i wr => ∃ (k : Nat) (x : Int), k ≤ ts.length ∧ i = .int .i64 k ∧ q = .int .i64 x ∧ 0 ≤ x ∧ x ≤ 1001 ∧ Hid (decide (cntS x (ts.drop k) ≤ 500) = fewS ts) ∧ Below w.heap.size w wr) (fun _ i _ => ts.length - (intOf i).toNat)
  case atStart => exact ⟨0, 0, by omega, rfl, rfl, by omega, by omega, HG, Below.refl _ _⟩
  case round =>
    obtain ⟨k, x, hk, rfl, rfl, hx0, hx1, hx, hB⟩ := hrel
    by_cases hlt : k < ts.length
    · by_cases hle : x ≤ 500
      · obtain ⟨b, off, a', c', rfl, hc1, hc2, hs'⟩ := hs.getW hB k hlt
        have hr := cntT_range ts[k] 500 (by omega)
        have hx2 := hx.out
        rw [cntS_drop _ _ hlt, if_pos hle] at hx2
        have HX2 := hide hx2
        clear hx2
        go_wp2_with fail
        refine (count_calls _ ts[k] A _ _ _ 500 (Nat.le_refl _) (by omega) (by omega) hs').mono ?_
        rintro e w1 ⟨rfl, hB1⟩
        obtain ⟨hr1, hr2⟩ := hr
        have hB2 := more_below hB hB1
        clear hB1 hB
        go_wp2
        go_roundw
        case rel => exact ⟨k + 1, _, by omega, by go_num, rfl, by omega, by omega, HX2, hB2⟩
        case measure => simp [intOf]; omega
      · have hx2 := hx.out
        rw [cntS_drop _ _ hlt, if_neg hle] at hx2
        have HX2 := hide hx2
        clear hx2
        go_wp2
        go_ret
        exact ⟨by rw [← HX2.out]; simp [hle], hB⟩
    · have hx2 := hx.out
      rw [List.drop_of_length_le (by omega)] at hx2
      simp only [cntS] at hx2
      have HX2 := hide hx2
      clear hx2
      go_wp2
      go_ret
      exact ⟨by rw [← HX2.out]; rfl, hB⟩
end Go.Proofs.YtneecjikdghchaaDoor
