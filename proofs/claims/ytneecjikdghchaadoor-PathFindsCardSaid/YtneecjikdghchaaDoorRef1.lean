/- The reference's layer 1: Size, Depth, Check, Compare, Count. -/
import Derived.Test.YtneecjikdghchaaDoorChk
set_option linter.unusedSimpArgs false
set_option linter.unusedVariables false
namespace Go.Proofs.YtneecjikdghchaaDoor
open Go.RowKit

set_option maxHeartbeats 400000 in
theorem size_calls (n : Nat) : ∀ (t : Tm) (A : Nat → Prop) (h : Int) (s : Value) (w : World), t.size ≤ n → n ≤ 9000000000000000000 → IsTm A w h s t →
    Calls Tryd.prog 75 #[.agg #[.int .i64 h, s]] w fun e w' => e = .returned (.int .i64 t.size) ∧ Below w.heap.size w w' := by
  induction n with
  | zero => intro t; cases t; intro A h s w ht; simp [Tm.size] at ht
  | succ n ih =>
    rintro t A h s w ht hn hs
    obtain ⟨rfl, a, c, rfl, hlc, hc⟩ := hs.shape
    have hsz := hide t.size_eq
    have hl : t.args.length ≤ 9223372036854775807 := by omega
    go_enter Tryd.func75, Tryd.ntmps75
    go_wp2
    go_loopw [3, 4] (fun m i wr => ∃ (k : Nat) (x : Int), k ≤ t.args.length ∧ i = .int .i64 k ∧ m = .int .i64 x ∧ Hid (x = (1 + Tm.sizes (t.args.take k) : Nat)) ∧ Below w.heap.size w wr ∧ wr.cell? ⟨w.heap.size, 1, none⟩ = some (.slice a t.args.length c)) (fun _ i _ => t.args.length - (intOf i).toNat)
    case atStart => exact ⟨0, _, by omega, rfl, rfl, hide (by simp [Tm.sizes]), (Below.refl _ _).alloc (Nat.le_refl _) _, by simp⟩
    case round =>
      obtain ⟨k, x, hk, rfl, rfl, hx, hB, hcell⟩ := hrel
      by_cases hlt : k < t.args.length
      · obtain ⟨b, off, a', c', rfl, hc1, hc2, hs'⟩ := hs.2.getW hB k hlt
        have hk1 := Tm.sizes_take_le t.args k
        have hk2 := Tm.size_get t.args k hlt
        have hk3 := hide (Tm.sizes_take t.args k hlt)
        have hn1 : Tm.sizes t.args ≤ n := by have := hsz.out; omega
        have hx0 : 0 ≤ x := by have := hx.out; omega
        have hx1 : x + ((t.args[k].size : Nat) : Int) ≤ 9000000000000000000 := by have := hx.out; have := hk3.out; have := Tm.sizes_take_le t.args (k + 1); omega
        go_wp2_with fail
        refine (ih t.args[k] A _ _ _ (by omega) (by omega) hs').mono ?_
        rintro e w1 ⟨rfl, hB1⟩
        have hcell1 := (hB1.cell (p := ⟨w.heap.size, 1, none⟩) (World.block_lt_of_cell? _ _ hcell)).trans hcell
        go_wp2
        go_roundw
        case rel => exact ⟨k + 1, _, by omega, by go_num, rfl, hide (by have := hk3.out; have := hx.out; omega), more_below hB hB1, hcell1⟩
        case measure => simp [intOf]; omega
      · go_wp2
        go_ret
        exact ⟨ret_int (by rw [hx.out, hsz.out, List.take_of_length_le (by omega)]), hB⟩

theorem Tm.depth_eq (t : Tm) : t.depth = 1 + Tm.depths t.args := by cases t; simp [Tm.depth, Tm.args]
theorem Tm.depths_append (a b : List Tm) : Tm.depths (a ++ b) = max (Tm.depths a) (Tm.depths b) := by
  induction a with
  | nil => simp [Tm.depths]
  | cons t ts ih => simp only [List.cons_append, Tm.depths, ih]; omega
theorem Tm.depths_take (l : List Tm) (k : Nat) (h : k < l.length) : Tm.depths (l.take (k + 1)) = max (Tm.depths (l.take k)) (l[k]).depth := by
  rw [List.take_succ_eq_append_getElem h, Tm.depths_append]; simp [Tm.depths]
mutual
theorem Tm.depth_le : ∀ t : Tm, t.depth ≤ t.size
  | .node h l => by have := Tm.depths_le l; simp only [Tm.depth, Tm.size]; omega
theorem Tm.depths_le : ∀ l : List Tm, Tm.depths l ≤ Tm.sizes l
  | [] => by simp [Tm.depths, Tm.sizes]
  | t :: ts => by have := Tm.depth_le t; have := Tm.depths_le ts; simp only [Tm.depths, Tm.sizes]; omega
end

set_option maxHeartbeats 400000 in
theorem depth_calls (n : Nat) : ∀ (t : Tm) (A : Nat → Prop) (h : Int) (s : Value) (w : World), t.size ≤ n → n ≤ 1000000000 → IsTm A w h s t →
    Calls Tryd.prog 76 #[.agg #[.int .i64 h, s]] w fun e w' => e = .returned (.int .i64 t.depth) ∧ Below w.heap.size w w' := by
  induction n with
  | zero => intro t; cases t; intro A h s w ht; simp [Tm.size] at ht
  | succ n ih =>
    rintro t A h s w ht hn hs
    obtain ⟨rfl, a, c, rfl, hlc, hc⟩ := hs.shape
    have hsz := hide t.size_eq
    have hdp := hide t.depth_eq
    have hl : t.args.length ≤ 9223372036854775807 := by omega
    go_enter Tryd.func76, Tryd.ntmps76
    go_wp2
    go_loopw [3, 4] (fun m i wr => ∃ (k : Nat) (x : Int), k ≤ t.args.length ∧ i = .int .i64 k ∧ m = .int .i64 x ∧ Hid (x = Tm.depths (t.args.take k)) ∧ Below w.heap.size w wr ∧ wr.cell? ⟨w.heap.size, 1, none⟩ = some (.slice a t.args.length c)) (fun _ i _ => t.args.length - (intOf i).toNat)
    case atStart => exact ⟨0, _, by omega, rfl, rfl, hide (by simp [Tm.depths]), (Below.refl _ _).alloc (Nat.le_refl _) _, by simp⟩
    case round =>
      obtain ⟨k, x, hk, rfl, rfl, hx, hB, hcell⟩ := hrel
      have hk1 := Tm.sizes_take_le t.args k
      have hk0 := Tm.depths_le (t.args.take k)
      have hx0 : 0 ≤ x := by have := hx.out; omega
      have hx1 : x ≤ 2000000000 := by have := hx.out; have := hsz.out; omega
      by_cases hlt : k < t.args.length
      · obtain ⟨b, off, a', c', rfl, hc1, hc2, hs'⟩ := hs.2.getW hB k hlt
        have hk2 := Tm.size_get t.args k hlt
        have hk3 := hide (Tm.depths_take t.args k hlt)
        have hn1 : Tm.sizes t.args ≤ n := by have := hsz.out; omega
        clear hk1 hk0
        go_wp2_with fail
        refine (ih t.args[k] A _ _ _ (by omega) (by omega) hs').mono ?_
        rintro e w1 ⟨rfl, hB1⟩
        have hcell1 := (hB1.cell (p := ⟨w.heap.size, 1, none⟩) (World.block_lt_of_cell? _ _ hcell)).trans hcell
        go_wp2
        all_goals go_roundw
        all_goals (try case rel => exact ⟨k + 1, _, by omega, by go_num, rfl, hide (by have := hk3.out; have := hx.out; omega), more_below hB hB1, hcell1⟩)
        all_goals (simp [intOf]; omega)
      · clear hk1 hk0
        go_wp2
        go_ret
        exact ⟨ret_int (by rw [hx.out, hdp.out, List.take_of_length_le (by omega)]; push_cast; omega), hB⟩
end Go.Proofs.YtneecjikdghchaaDoor
