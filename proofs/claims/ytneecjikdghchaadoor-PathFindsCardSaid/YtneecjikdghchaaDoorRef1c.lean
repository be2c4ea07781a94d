/- The reference's layer 1: Check, Right, Count, Few, order, Var, Fun. -/
import Derived.Deep.RegionWith
import Derived.Test.YtneecjikdghchaaDoorRef1b
set_option linter.unusedSimpArgs false
set_option linter.unusedVariables false
namespace Go.Proofs.YtneecjikdghchaaDoor
open Go.RowKit

set_option maxHeartbeats 400000 in
theorem rcheck_calls (t : Tm) (A : Nat → Prop) (h : Int) (s : Value) (w : World) (ht : t.size ≤ 1000000000) (hs : IsTm A w h s t) :
    Calls Tryd.prog 59 #[.agg #[.int .i64 h, s]] w fun e w' => e = .returned (.int .i64 (chk t)) ∧ Below w.heap.size w w' := by
  obtain ⟨rfl, a, c, rfl, hlc, hc⟩ := hs.shape
  have hb0 : Below w.heap.size w (w.alloc (.cells #[.int .i64 t.h, .slice a t.args.length c] 24)) := (Below.refl _ _).alloc (Nat.le_refl _) _
  have hdl := hide (Tm.depth_le t)
  go_enter Tryd.func59, Tryd.ntmps59
  go_wp2_with fail
  refine (size_calls _ t A _ _ _ ht (by omega) (hs.below hb0)).mono ?_
  rintro e w1 ⟨rfl, h1⟩
  have hb1 := more_below hb0 h1
  have c0 := (h1.cell (p := ⟨w.heap.size, 0, none⟩) (by simp)).trans (show _ = some (.int .i64 t.h) by simp)
  have c1 := (h1.cell (p := ⟨w.heap.size, 1, none⟩) (by simp)).trans (show _ = some (.slice a t.args.length c) by simp)
  have hw0 : w.heap.size < w1.heap.size := by have := h1.size; simp at this; omega
  clear h1 hb0
  by_cases k1 : 400 < t.size
  · go_wp2
    go_ret
    exact ⟨ret_int (by simp [chk, k1]), hb1⟩
  · go_wp2_with fail
    refine (depth_calls _ t A _ _ _ ht (Nat.le_refl _) (hs.below hb1)).mono ?_
    rintro e w2 ⟨rfl, h2⟩
    have hb2 := more_below hb1 h2
    have d0 := (h2.cell (p := ⟨w.heap.size, 0, none⟩) hw0).trans c0
    have d1 := (h2.cell (p := ⟨w.heap.size, 1, none⟩) hw0).trans c1
    have hw1 := Nat.lt_of_lt_of_le hw0 h2.size
    clear h2 hb1 c0 c1
    by_cases k2 : 40 < t.depth
    · go_wp2
      go_ret
      exact ⟨ret_int (by simp [chk, k1, k2]), hb2⟩
    · go_wp2_with fail
      refine (good_calls _ t A _ _ _ ht (Nat.le_refl _) (hs.below hb2)).mono ?_
      rintro e w3 ⟨rfl, h3⟩
      have hb3 := more_below hb2 h3
      cases k3 : t.good
      · have K3 := hide k3
        clear k3 h3
        go_wp2
        go_ret
        exact ⟨ret_int (by simp [chk, k1, k2, K3.out]), hb3⟩
      · have K3 := hide k3
        clear k3 h3
        go_wp2
        go_ret
        exact ⟨ret_int (by simp [chk, k1, k2, K3.out]), hb3⟩

/-- Is a term right? -/
def rightB (t : Tm) : Bool := chk t == 0
theorem right_calls (t : Tm) (A : Nat → Prop) (h : Int) (s : Value) (w : World) (ht : t.size ≤ 1000000000) (hs : IsTm A w h s t) :
    Calls Tryd.prog 40 #[.agg #[.int .i64 h, s]] w fun e w' => e = .returned (.bool (rightB t)) ∧ Below w.heap.size w w' := by
  obtain ⟨rfl, a, c, rfl, hlc, hc⟩ := hs.shape
  have hb0 : Below w.heap.size w (w.alloc (.cells #[.int .i64 t.h, .slice a t.args.length c] 24)) := (Below.refl _ _).alloc (Nat.le_refl _) _
  go_enter Tryd.func40, Tryd.ntmps40
  go_wp2_with fail
  refine (rcheck_calls t A _ _ _ ht (hs.below hb0)).mono ?_
  rintro e w1 ⟨rfl, h1⟩
  have hb1 := more_below hb0 h1
  clear h1 hb0
  go_wp2
  go_ret
  exact ⟨rfl, hb1⟩

mutual
/-- How many parts, as far as one above a bound. -/
def cntT : Tm → Int → Int
  | .node _ l, m => cntL l m 1
def cntL : List Tm → Int → Int → Int
  | [], _, n => n
  | t :: ts, m, n => if n ≤ m then cntL ts m (n + cntT t (m - n)) else n
end
theorem cntT_eq (t : Tm) (m : Int) : cntT t m = cntL t.args m 1 := by cases t; simp [cntT, Tm.args]
theorem cntL_drop (l : List Tm) (k : Nat) (h : k < l.length) (m n : Int) : cntL (l.drop k) m n = if n ≤ m then cntL (l.drop (k + 1)) m (n + cntT l[k] (m - n)) else n := by
  rw [List.drop_eq_getElem_cons h]; simp [cntL]
mutual
theorem cntT_range : ∀ (t : Tm) (m : Int), 0 ≤ m → 1 ≤ cntT t m ∧ cntT t m ≤ m + 1
  | .node _ l, m, h => by simp only [cntT]; exact cntL_range l m 1 h (by omega) (by omega)
theorem cntL_range : ∀ (l : List Tm) (m n : Int), 0 ≤ m → 1 ≤ n → n ≤ m + 1 → 1 ≤ cntL l m n ∧ cntL l m n ≤ m + 1
  | [], m, n, h, h1, h2 => by simp only [cntL]; omega
  | t :: ts, m, n, h, h1, h2 => by
    simp only [cntL]
    split
    · have := cntT_range t (m - n) (by omega)
      exact cntL_range ts m _ h (by omega) (by omega)
    · omega
end
mutual
theorem cntT_size : ∀ (t : Tm) (m : Int), 0 ≤ m → ((t.size : Int) ≤ m → cntT t m = t.size) ∧ (cntT t m ≤ m → (t.size : Int) ≤ m)
  | .node _ l, m, h => by
    have := cntL_size l m 1 h (by omega)
    simp only [cntT, Tm.size]; push_cast; omega
theorem cntL_size : ∀ (l : List Tm) (m n : Int), 0 ≤ m → 1 ≤ n → (n + Tm.sizes l ≤ m → cntL l m n = n + Tm.sizes l) ∧ (cntL l m n ≤ m → n + Tm.sizes l ≤ m)
  | [], m, n, h, h1 => by simp [cntL, Tm.sizes]
  | t :: ts, m, n, h, h1 => by
    have ht1 := t.size_eq
    simp only [cntL, Tm.sizes]
    split
    · rename_i hle
      have h2 := cntT_size t (m - n) (by omega)
      have h4 := cntT_range t (m - n) (by omega)
      have h3 := cntL_size ts m (n + cntT t (m - n)) h (by omega)
      push_cast
      constructor
      · intro h5
        have h6 := h2.1 (by omega)
        rw [h6] at h3 ⊢
        have := h3.1 (by omega); omega
      · intro h5
        have h6 := h3.2 h5
        have h7 := h2.2 (by omega)
        have h8 := h2.1 h7
        omega
    · push_cast; omega
end

set_option maxHeartbeats 800000 in
theorem count_calls (n0 : Nat) : ∀ (t : Tm) (A : Nat → Prop) (h : Int) (s : Value) (w : World) (m : Int), t.size ≤ n0 → 0 ≤ m → m ≤ 1000000 → IsTm A w h s t →
    Calls Tryd.prog 11 #[.agg #[.int .i64 h, s], .int .i64 m] w fun e w' => e = .returned (.int .i64 (cntT t m)) ∧ Below w.heap.size w w' := by
  induction n0 with
  | zero => intro t; cases t; intro A h s w m ht; simp [Tm.size] at ht
  | succ n0 ih =>
    rintro t A h s w m ht hm0 hm1 hs
    obtain ⟨rfl, a, c, rfl, hlc, hc⟩ := hs.shape
    have hsz := hide t.size_eq
    have hct := hide (cntT_eq t m)
    have hl : t.args.length ≤ 9223372036854775807 := by omega
    go_enter Tryd.func11, Tryd.ntmps11
    go_wp2
    go_loopw [5, 6] (fun q i wr => ∃ (k : Nat) (x : Int), k ≤ t.args.length ∧ i = .int .i64 k ∧ q = .int .i64 x ∧ 1 ≤ x ∧ x ≤ m + 1 ∧ Hid (cntL (t.args.drop k) m x = cntT t m) ∧ Below w.heap.size w wr ∧ wr.cell? ⟨w.heap.size, 1, none⟩ = some (.slice a t.args.length c)) (fun _ i _ => t.args.length - (intOf i).toNat)
    case atStart => exact ⟨0, 1, by omega, rfl, rfl, by omega, by omega, hide (by rw [hct.out]; rfl), (Below.refl _ _).alloc (Nat.le_refl _) _, by simp⟩
    case round =>
      obtain ⟨k, x, hk, rfl, rfl, hx0, hx1, hx, hB, hcell⟩ := hrel
      by_cases hlt : k < t.args.length
      · by_cases hle : x ≤ m
        · obtain ⟨b, off, a', c', rfl, hc1, hc2, hs'⟩ := hs.2.getW hB k hlt
          have hk2 := Tm.size_get t.args k hlt
          have hr := cntT_range t.args[k] (m - x) (by omega)
          have hx2 := hx.out
          rw [cntL_drop _ _ hlt, if_pos hle] at hx2
          have HX2 := hide hx2
          have hn1 : Tm.sizes t.args ≤ n0 := by have := hsz.out; omega
          clear hx2
          go_wp2_with fail
          refine (ih t.args[k] A _ _ _ (m - x) (by omega) (by omega) (by omega) hs').mono ?_
          rintro e w1 ⟨rfl, hB1⟩
          have hcell1 := (hB1.cell (p := ⟨w.heap.size, 1, none⟩) (World.block_lt_of_cell? _ _ hcell)).trans hcell
          obtain ⟨hr1, hr2⟩ := hr
          go_wp2
          go_roundw
          case rel => exact ⟨k + 1, _, by omega, by go_num, rfl, by omega, by omega, HX2, more_below hB hB1, hcell1⟩
          case measure => simp [intOf]; omega
        · have hx2 := hx.out
          rw [cntL_drop _ _ hlt, if_neg hle] at hx2
          have HX2 := hide hx2
          clear hx2
          go_wp2
          go_ret
          exact ⟨ret_int HX2.out, hB⟩
      · have hx2 := hx.out
        rw [List.drop_of_length_le (by omega)] at hx2
        simp only [cntL] at hx2
        have HX2 := hide hx2
        clear hx2
        go_wp2
        go_ret
        exact ⟨ret_int HX2.out, hB⟩

def fewB (t : Tm) : Bool := decide (cntT t 500 ≤ 500)
theorem few1_calls (t : Tm) (A : Nat → Prop) (h : Int) (s : Value) (w : World) (hs : IsTm A w h s t) :
    Calls Tryd.prog 8 #[.agg #[.int .i64 h, s]] w fun e w' => e = .returned (.bool (fewB t)) ∧ Below w.heap.size w w' := by
  obtain ⟨rfl, a, c, rfl, hlc, hc⟩ := hs.shape
  have hb0 : Below w.heap.size w (w.alloc (.cells #[.int .i64 t.h, .slice a t.args.length c] 24)) := (Below.refl _ _).alloc (Nat.le_refl _) _
  go_enter Tryd.func8, Tryd.ntmps8
  go_wp2_with fail
  refine (count_calls _ t A _ _ _ 500 (Nat.le_refl _) (by omega) (by omega) (hs.below hb0)).mono ?_
  rintro e w1 ⟨rfl, h1⟩
  have hb1 := more_below hb0 h1
  clear h1 hb0
  go_wp2
  go_ret
  exact ⟨rfl, hb1⟩
theorem few_size {t : Tm} (h : fewB t = true) : t.size ≤ 500 := by
  have := (cntT_size t 500 (by omega)).2 (by simpa [fewB] using h); omega

theorem var_calls (n : Int) (h : 0 ≤ n) (h1 : n ≤ 1000000000) (w : World) : Calls Tryd.prog 37 #[.int .i64 n] w fun e w' => e = .returned (.agg #[.int .i64 (-1 - n), .slice none 0 0]) ∧ Below w.heap.size w w' := by
  go_enter Tryd.func37, Tryd.ntmps37
  go_wp2
  exact bodyPost_ret (v := .agg #[.int .i64 (-1 - n), .slice none 0 0]) (by simp [results, Tryd.results37, go_sem]) rfl ⟨rfl, (Below.refl _ _).alloc (Nat.le_refl _) _⟩
theorem fun_calls (n : Int) (a : Option Addr) (k c : Nat) (w : World) : Calls Tryd.prog 36 #[.int .i64 n, .slice a k c] w fun e w' => e = .returned (.agg #[.int .i64 n, .slice a k c]) ∧ Below w.heap.size w w' := by
  go_enter Tryd.func36, Tryd.ntmps36
  go_wp2
  exact bodyPost_ret (v := .agg #[.int .i64 n, .slice a k c]) (by simp [results, Tryd.results36, go_sem]) rfl ⟨rfl, (Below.refl _ _).alloc (Nat.le_refl _) _⟩
end Go.Proofs.YtneecjikdghchaaDoor
