/- BankOnce, purely. -/
import Derived.Test.YtefmgooceeigbaaDoorRef1c
import Derived.Test.YtefmgooceeigbaaDoorBank8
set_option linter.unusedSimpArgs false
set_option linter.unusedVariables false
namespace Go.Proofs.YtefmgooceeigbaaDoor
section
open Go.RowKit

def cntS (n : Int) : List Tm → Int
  | [] => n
  | t :: ts => if n ≤ 500 then cntS (n + cntT t 500) ts else n
theorem cntS_drop (l : List Tm) (k : Nat) (h : k < l.length) (n : Int) : cntS n (l.drop k) = if n ≤ 500 then cntS (n + cntT l[k] 500) (l.drop (k + 1)) else n := by
  rw [List.drop_eq_getElem_cons h]; simp [cntS]
def fewS (ts : List Tm) : Bool := decide (cntS 0 ts ≤ 500)
theorem cntS_le : ∀ (ts : List Tm) (n : Int), 0 ≤ n → n ≤ cntS n ts
  | [], n, _ => by simp [cntS]
  | t :: ts, n, h => by
    simp only [cntS]
    split
    · have := cntT_range t 500 (by omega)
      have := cntS_le ts (n + cntT t 500) (by omega)
      omega
    · omega
theorem cntS_sizes : ∀ (ts : List Tm) (n : Int), 0 ≤ n → cntS n ts ≤ 500 → n + Tm.sizes ts ≤ 500
  | [], n, _, h => by simpa [cntS, Tm.sizes] using h
  | t :: ts, n, h0, h => by
    simp only [cntS] at h
    split at h
    · have hr := cntT_range t 500 (by omega)
      have hz := cntT_size t 500 (by omega)
      have hle := cntS_le ts (n + cntT t 500) (by omega)
      have := cntS_sizes ts _ (by omega) h
      have h5 := hz.2 (by omega)
      have h6 := hz.1 (by omega)
      simp only [Tm.sizes]; push_cast; omega
    · omega
theorem fewS_sizes {ts : List Tm} (h : fewS ts = true) : Tm.sizes ts ≤ 500 := by
  have := cntS_sizes ts 0 (by omega) (by simpa [fewS] using h); omega
set_option maxHeartbeats 1000000 in
theorem few5_calls (ts : List Tm) (A : Nat → Prop) (s : Value) (w : World) (hs : Terms A w s ts) :
    Calls Tryd.prog 25 #[s] w fun e w' => e = .returned (.bool (fewS ts)) ∧ Below w.heap.size w w' := by
  obtain ⟨a, c, rfl, hlc, hc⟩ := hs.shape
  have HG := hide (show (decide (cntS 0 (ts.drop 0) ≤ 500)) = fewS ts by simp [fewS])
  go_enter Tryd.func25, Tryd.ntmps25
  go_wp2
  go_loopw [3, 4] (fun q i wr => ∃ (k : Nat) (x : Int), k ≤ ts.length ∧ i = .int .i64 k ∧ q = .int .i64 x ∧ 0 ≤ x ∧ x ≤ 1001 ∧ Hid (decide (cntS x (ts.drop k) ≤ 500) = fewS ts) ∧ Below w.heap.size w wr) (fun _ i _ => ts.length - (intOf i).toNat)
  case atStart => exact ⟨0, 0, by omega, rfl, rfl, by omega, by omega, HG, Below.refl _ _⟩
  case round =>
    obtain ⟨k, x, hk, rfl, rfl, hx0, hx1, hx, hB⟩ := hrel
    by_cases hlt : k < ts.length
    · by_cases hle : x ≤ 500
      · obtain ⟨b, off, a', c', rfl, hc1, hc2, hs'⟩ := hs.getW hB k hlt
        have hr := cntT_range ts[k] 500 (by omega)
        have hx2 := hx.out
        rw [cntS_drop _ _ hlt, if_pos hle] at hx2
        have HX2 := hide hx2
        clear hx2
        go_wp2_with fail
        refine (count_calls _ ts[k] A _ _ _ 500 (Nat.le_refl _) (by omega) (by omega) hs').mono ?_
        rintro e w1 ⟨rfl, hB1⟩
        obtain ⟨hr1, hr2⟩ := hr
        have hB2 := more_below hB hB1
        clear hB1 hB
        go_wp2
        go_roundw
        case rel => exact ⟨k + 1, _, by omega, by go_num, rfl, by omega, by omega, HX2, hB2⟩
        case measure => simp [intOf]; omega
      · have hx2 := hx.out
        rw [cntS_drop _ _ hlt, if_neg hle] at hx2
        have HX2 := hide hx2
        clear hx2
        go_wp2
        go_ret
        exact ⟨by rw [← HX2.out]; simp [hle], hB⟩
    · have hx2 := hx.out
      rw [List.drop_of_length_le (by omega)] at hx2
      simp only [cntS] at hx2
      have HX2 := hide hx2
      clear hx2
      go_wp2
      go_ret
      exact ⟨by rw [← HX2.out]; rfl, hB⟩
end
open Go.RowKit
theorem sizes_append : ∀ (a b : List Tm), Tm.sizes (a ++ b) = Tm.sizes a + Tm.sizes b
  | [], b => by simp [Tm.sizes]
  | t :: a, b => by simp only [List.cons_append, Tm.sizes, sizes_append a b]; omega
theorem sizes_take (l : List Tm) (i : Nat) (h : i < l.length) : Tm.sizes (l.take (i + 1)) = Tm.sizes (l.take i) + (l[i]).size ∧ Tm.sizes (l.take (i + 1)) ≤ Tm.sizes l := by
  have h1 : Tm.sizes (l.take (i + 1)) = Tm.sizes (l.take i) + (l[i]).size := by rw [List.take_succ_eq_append_getElem h, sizes_append]; simp [Tm.sizes]
  have h2 := congrArg Tm.sizes (List.take_append_drop (i + 1) l)
  rw [sizes_append] at h2
  exact ⟨h1, by omega⟩
/-- A right term is kept; kept again nothing is kept more. -/
theorem once_put {R : List Rw} {t : Tm} (hg : Good R) (hc : chk t = 0) (hl : R.length + t.size ≤ 4000) : ∃ (R' : List Rw) (n : Nat), putB R t = (R', (n : Int), 0) ∧ IsAt R' t n ∧ Kept R R' t.size ∧ putB R' t = (R', (n : Int), 0) ∧ findT R' t = some n ∧ (R'[n]?).map (fun r => r.2.length) = some t.args.length := by
  obtain ⟨h1, h2, h3⟩ := putT_kept t R hg
  rcases hp : putT R t with ⟨R', o⟩
  rw [hp] at h1 h2 h3
  simp only at h1 h2 h3
  cases o with
  | none => have := h3 rfl; have := h1.few; omega
  | some n =>
    have hat := h2 n rfl
    obtain ⟨hi, e1, e2⟩ := isAt_row hat
    exact ⟨R', n, by rw [putB, if_pos hc, hp]; rfl, hat, h1, by rw [putB, if_pos hc, putT_there _ _ _ h1.good hat]; rfl, (findT_iff h1.good t n).2 hat, by rw [List.getElem?_eq_getElem hi]; simp [AreAt.length _ _ e2]⟩
/-- Two terms have one number just if they are the same. -/
theorem once_same {R : List Rw} (hg : Good R) {t u : Tm} {n m : Nat} (h : IsAt R t n) (h' : findT R u = some m) : (decide ((m : Int) = (n : Int)) != sameB u t) = false := by
  have h2 := (findT_iff hg u m).1 h'
  by_cases e : m = n
  · subst e
    obtain rfl := IsAt.one _ _ _ h h2
    simp [sameB_self]
  · have : sameB u t = false := by
      cases hs : sameB u t with
      | false => rfl
      | true => rw [sameB_iff.1 hs] at h2; exact absurd (IsAt.inj hg _ _ _ h2 h) e
    rw [this]; simp; omega
theorem Sized.lens {R : List Rw} {m : Nat} (h : Sized R m) : ∀ i (hi : i < R.length), (R[i]).2.length ≤ m := fun i hi => by
  obtain ⟨t, h1, h2⟩ := h i hi
  obtain ⟨_, _, e2⟩ := isAt_row h1
  have := AreAt.length _ _ e2
  have := t.size_eq
  have := Tm.sizes_length t.args
  omega
end Go.Proofs.YtefmgooceeigbaaDoor
