/- The reference's layer 1: good, Check, Right, Count, Few. -/
import Derived.Deep.Cut
import Derived.Test.YtneecjikdghchaaDoorRef1
set_option linter.unusedSimpArgs false
set_option linter.unusedVariables false
namespace Go.Proofs.YtneecjikdghchaaDoor
open Go.RowKit

theorem Tm.good_eq (t : Tm) : t.good = (okP t && Tm.goods t.args) := by cases t; simp [Tm.good, Tm.args]
theorem goods_drop (l : List Tm) (k : Nat) (h : k < l.length) : Tm.goods (l.drop k) = ((l[k]).good && Tm.goods (l.drop (k + 1))) := by
  rw [List.drop_eq_getElem_cons h]; simp [Tm.goods]

theorem okP_iff (t : Tm) : okP t = false ↔ (t.h < 0 ∧ 0 < t.args.length) ∨ t.h < -256 ∨ 1023 < t.h ∨ 8 < t.args.length := by
  simp only [okP, Bool.not_eq_false', Bool.or_eq_true, Bool.and_eq_true, decide_eq_true_eq]; omega
theorem cut_plq {P : Program} {c : Code} {K : Act → World → Prop} {Q : Exit → Act → World → Prop} {a : Act} {w : World} (R : Act → World → Prop)
    (h : c.wp P (Exit.then R Q) a w) (k : ∀ a' w', R a' w' → K a' w') : c.wp P (Exit.then K Q) a w := by
  refine wp_mono h ?_
  intro e a' w' hq
  cases e <;> first | exact k _ _ hq | exact hq
theorem seq_cut {P : Program} {x y : Code} {Q : Exit → Act → World → Prop} {a : Act} {w : World} (R : Act → World → Prop)
    (h : x.wp P (Exit.then R Q) a w) (k : ∀ a' w', R a' w' → y.wp P Q a' w') : (Code.seq x y).wp P Q a w := wp_seq (by
  refine wp_mono h ?_
  intro e a' w' hq
  cases e <;> first | exact k _ _ hq | exact hq)
theorem cut_inq {F : Fence} {n : Nat} {P : Program} {c : Code} {K : Act → World → Prop} {Q : Exit → Act → World → Prop} {a : Act} {w : World} (R : Act → World → Prop)
    (h : c.wpIn F n P (Exit.then R Q) a w) (k : ∀ a' w', R a' w' → K a' w') : c.wpIn F n P (Exit.then K Q) a w := by
  refine wpIn_mono h ?_
  intro e a' w' hq
  cases e <;> first | exact k _ _ hq | exact hq

set_option maxHeartbeats 800000 in
theorem good_calls (n : Nat) : ∀ (t : Tm) (A : Nat → Prop) (h : Int) (s : Value) (w : World), t.size ≤ n → n ≤ 1000000000 → IsTm A w h s t →
    Calls Tryd.prog 77 #[.agg #[.int .i64 h, s]] w fun e w' => e = .returned (.bool t.good) ∧ Below w.heap.size w w' := by
  induction n with
  | zero => intro t; cases t; intro A h s w ht; simp [Tm.size] at ht
  | succ n ih =>
    rintro t A h s w ht hn hs
    obtain ⟨rfl, a, c, rfl, hlc, hc⟩ := hs.shape
    have hsz := hide t.size_eq
    have hgd := hide t.good_eq
    have hl : t.args.length ≤ 9223372036854775807 := by omega
    have hn1 : Tm.sizes t.args ≤ n := by have := hsz.out; omega
    have hok := hide (okP_iff t)
    go_enter Tryd.func77, Tryd.ntmps77
    refine seq_cut (fun a' w' => a' = { tmps := #[.agg #[.int .i64 t.h, .slice a t.args.length c], .pointer (some ⟨w.heap.size, 0, none⟩), .bool false, undef, undef, undef, undef, undef, undef, undef, undef, undef, undef, undef, undef, undef, undef, undef, undef, undef, undef, undef, undef, undef, undef, undef, undef, undef, undef, undef, undef, undef, undef, undef, undef, undef, undef, undef, undef, undef, undef, undef, undef], defers := [] } ∧ w' = w.alloc (.cells #[.int .i64 t.h, .slice a t.args.length c] 24)) ?_ ?_
    · go_wp2
      first | done | exact ⟨rfl, rfl⟩ | exact ⟨trivial, trivial⟩
    rintro _ W ⟨rfl, HW⟩
    have hB : Below w.heap.size w W := by rw [HW]; exact (Below.refl _ _).alloc (Nat.le_refl _) _
    have b0 : W.heap[w.heap.size]? = some (.cells #[.int .i64 t.h, .slice a t.args.length c] 24 (0, 0)) := by rw [HW]; exact (by show (w.heap.push _)[w.heap.size]? = _; simp)
    have c0 : W.cell? ⟨w.heap.size, 0, none⟩ = some (.int .i64 t.h) := by simp [World.cell?, b0]
    have c1 : W.cell? ⟨w.heap.size, 1, none⟩ = some (.slice a t.args.length c) := by simp [World.cell?, b0]
    clear HW b0
    refine seq_cut (fun a' w' => w' = W ∧ okP t = true ∧ ∃ u4 u5 u6 u7 u8 u9 u10 u11 u12 u13 u14 u15 u16 u17 u18 u19 u20 u21 u22 u23 u24 u25 u26 u27 u28 : Value, a' = { tmps := #[.agg #[.int .i64 t.h, .slice a t.args.length c], .pointer (some ⟨w.heap.size, 0, none⟩), .bool false, undef, u4, u5, u6, u7, u8, u9, u10, u11, u12, u13, u14, u15, u16, u17, u18, u19, u20, u21, u22, u23, u24, u25, u26, u27, u28, undef, undef, undef, undef, undef, undef, undef, undef, undef, undef, undef, undef, undef, undef], defers := [] }) ?_ ?_
    · have HP : Hid (okP t = false → ∀ e w', e = Ending.returned (.bool false) → w' = W → e = .returned (.bool t.good) ∧ Below w.heap.size w w') := hide (by
        rintro h e w' rfl rfl; exact ⟨ret_bool (by rw [hgd.out, h]; rfl), hB⟩)
      have HF : Hid (okP t = false ∨ okP t = true) := hide (by cases okP t <;> simp)
      rcases Nat.lt_or_ge 0 t.args.length with hz | hz
      · go_wp2
        all_goals first
          | (have hf : okP t = false := hok.out.2 (by omega)
             go_ret
             exact HP.out hf _ _ rfl rfl)
          | (have hf : okP t ≠ false := fun h => by have := hok.out.1 h; omega
             simpa using hf)
      · have hz0 : t.args.length = 0 := by omega
        rw [hz0] at c1 ⊢
        go_wp2
        all_goals first
          | (have hf : okP t = false := hok.out.2 (by omega)
             go_ret
             exact HP.out hf _ _ rfl rfl)
          | (have hf : okP t ≠ false := fun h => by have := hok.out.1 h; omega
             simpa using hf)
    rintro _ _ ⟨rfl, hok1, u4, u5, u6, u7, u8, u9, u10, u11, u12, u13, u14, u15, u16, u17, u18, u19, u20, u21, u22, u23, u24, u25, u26, u27, u28, rfl⟩
    have HG := hide (show Tm.goods (t.args.drop 0) = t.good by rw [hgd.out, hok1]; rfl)
    clear hok1 hok hgd
    go_wp2
    go_loopw [3] (fun i wr => ∃ k : Nat, k ≤ t.args.length ∧ i = .int .i64 k ∧ Hid (Tm.goods (t.args.drop k) = t.good) ∧ Below w.heap.size w wr ∧ wr.cell? ⟨w.heap.size, 1, none⟩ = some (.slice a t.args.length c)) (fun i _ => t.args.length - (intOf i).toNat)
    case atStart => exact ⟨0, by omega, rfl, HG, hB, c1⟩
    case round =>
      obtain ⟨k, hk, rfl, hG, hBr, hcell⟩ := hrel
      by_cases hlt : k < t.args.length
      · obtain ⟨b, off, a', c', rfl, hc1, hc2, hs'⟩ := hs.2.getW hBr k hlt
        have hk2 := Tm.size_get t.args k hlt
        have hG1 := hG.out
        rw [goods_drop _ _ hlt] at hG1
        have HG1 := hide hG1
        clear hG1
        go_wp2_with fail
        refine (ih t.args[k] A _ _ _ (by omega) (by omega) hs').mono ?_
        rintro e w1 ⟨rfl, hB1⟩
        have hcell1 := (hB1.cell (p := ⟨w.heap.size, 1, none⟩) (World.block_lt_of_cell? _ _ hcell)).trans hcell
        cases hgk : t.args[k].good
        · have HG2 := hide (show false = t.good by rw [← HG1.out, hgk]; rfl)
          clear hgk
          go_wp2
          go_ret
          exact ⟨ret_bool HG2.out, more_below hBr hB1⟩
        · have HG2 := hide (show Tm.goods (t.args.drop (k + 1)) = t.good by rw [← HG1.out, hgk]; rfl)
          clear hgk
          go_wp2
          go_roundw
          case rel => exact ⟨k + 1, by omega, by go_num, HG2, more_below hBr hB1, hcell1⟩
          case measure => simp [intOf]; omega
      · go_wp2
        go_ret
        exact ⟨ret_bool (by rw [← hG.out, List.drop_of_length_le (by omega)]; rfl), hBr⟩
end Go.Proofs.YtneecjikdghchaaDoor
