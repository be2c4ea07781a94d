/- The reference's layer 1: Compare, Same. -/
import Derived.Test.YtefmgooceeigbaaDoorRef1c
set_option linter.unusedSimpArgs false
set_option linter.unusedVariables false
namespace Go.Proofs.YtefmgooceeigbaaDoor
open Go.RowKit

mutual
def cmpT : Tm → Tm → Int
  | .node h l, u => if (Tm.node h l).size ≠ u.size then ordI (Tm.node h l).size u.size else if h ≠ u.h then ordI h u.h else if l.length ≠ u.args.length then ordI l.length u.args.length else cmpL l u.args
def cmpL : List Tm → List Tm → Int
  | [], _ => 0
  | _ :: _, [] => 0
  | t :: ts, us => match us with | [] => 0 | u :: us => if cmpT t u ≠ 0 then cmpT t u else cmpL ts us
end
theorem cmpT_eq (t u : Tm) : cmpT t u = if t.size ≠ u.size then ordI t.size u.size else if t.h ≠ u.h then ordI t.h u.h else if t.args.length ≠ u.args.length then ordI t.args.length u.args.length else cmpL t.args u.args := by
  cases t; simp only [cmpT]; rfl
theorem cmpL_drop (l m : List Tm) (k : Nat) (h : k < l.length) (h2 : k < m.length) : cmpL (l.drop k) (m.drop k) = if cmpT l[k] m[k] ≠ 0 then cmpT l[k] m[k] else cmpL (l.drop (k + 1)) (m.drop (k + 1)) := by
  rw [List.drop_eq_getElem_cons h, List.drop_eq_getElem_cons h2]; simp only [cmpL]
theorem ordI_zero {a b : Int} (h : ordI a b = 0) : a = b := by
  unfold ordI at h
  by_cases h1 : a < b
  · rw [if_pos h1] at h; omega
  · by_cases h2 : b < a
    · rw [if_neg h1, if_pos h2] at h; omega
    · omega
mutual
theorem cmpT_zero : ∀ (t u : Tm), cmpT t u = 0 ↔ t = u
  | .node h l, .node h' l' => by
    have hl := cmpL_zero l l'
    have e0 : cmpT (.node h l) (.node h' l') = if (Tm.node h l).size ≠ (Tm.node h' l').size then ordI (Tm.node h l).size (Tm.node h' l').size else if h ≠ h' then ordI h h' else if l.length ≠ l'.length then ordI l.length l'.length else cmpL l l' := by
      simp only [cmpT]; rfl
    rw [e0]
    by_cases h1 : (Tm.node h l).size ≠ (Tm.node h' l').size
    · rw [if_pos h1]
      constructor
      · intro e; have := ordI_zero e; omega
      · intro e; rw [e] at h1; exact absurd rfl h1
    · rw [if_neg h1]
      by_cases h2 : h ≠ h'
      · rw [if_pos h2]
        constructor
        · intro e; exact absurd (ordI_zero e) h2
        · intro e; cases e; exact absurd rfl h2
      · rw [if_neg h2]
        by_cases h3 : l.length ≠ l'.length
        · rw [if_pos h3]
          constructor
          · intro e; have := ordI_zero e; omega
          · intro e; cases e; exact absurd rfl h3
        · rw [if_neg h3]
          simp only [ne_eq, Decidable.not_not] at h2 h3
          rw [hl h3, h2]; simp
theorem cmpL_zero : ∀ (l m : List Tm), l.length = m.length → (cmpL l m = 0 ↔ l = m)
  | [], [], _ => by simp [cmpL]
  | [], _ :: _, h => by simp at h
  | _ :: _, [], h => by simp at h
  | t :: ts, u :: us, h => by
    have h1 := cmpT_zero t u
    have h2 := cmpL_zero ts us (by simpa using h)
    simp only [cmpL]
    split
    · rename_i hne
      constructor
      · intro e; exact absurd e hne
      · rintro ⟨⟩; exact h1.2 rfl
    · rename_i hne
      simp only [ne_eq, Decidable.not_not] at hne
      rw [h2, h1.1 hne]; simp
end
/-- Are two the same? -/
def sameB (t u : Tm) : Bool := cmpT t u == 0
theorem sameB_iff {t u : Tm} : sameB t u = true ↔ t = u := by simp [sameB, cmpT_zero]
theorem sameB_self (t : Tm) : sameB t t = true := sameB_iff.2 rfl

set_option maxHeartbeats 4000000 in
set_option maxRecDepth 100000 in
theorem compare_calls (n0 : Nat) : ∀ (t u : Tm) (A A2 : Nat → Prop) (h h2 : Int) (s s2 : Value) (w : World), t.size ≤ n0 → t.size ≤ 9000000000000000000 → u.size ≤ 9000000000000000000 → IsTm A w h s t → IsTm A2 w h2 s2 u →
    Calls Tryd.prog 31 #[.agg #[.int .i64 h, s], .agg #[.int .i64 h2, s2]] w fun e w' => e = .returned (.int .i64 (cmpT t u)) ∧ Below w.heap.size w w' := by
  induction n0 with
  | zero => intro t; cases t; intro u A A2 h h2 s s2 w ht; simp [Tm.size] at ht
  | succ n0 ih =>
    rintro t u A A2 h h2 s s2 w ht hn1 hn2 hs hu
    obtain ⟨rfl, a, c, rfl, hlc, hc⟩ := hs.shape
    obtain ⟨rfl, a2, c2, rfl, hlc2, hc2⟩ := hu.shape
    have hsz := hide t.size_eq
    have hce := hide (cmpT_eq t u)
    have hl : t.args.length ≤ 9223372036854775807 := by omega
    have hl2 : u.args.length ≤ 9223372036854775807 := by omega
    have hsl : Tm.sizes t.args ≤ n0 := by have := hsz.out; omega
    go_enter Tryd.func31, Tryd.ntmps31
    refine seq_cut (fun a' w' => a' = { tmps := #[.agg #[.int .i64 t.h, .slice a t.args.length c], .agg #[.int .i64 u.h, .slice a2 u.args.length c2], .pointer (some ⟨w.heap.size, 0, none⟩), .pointer (some ⟨w.heap.size + 1, 0, none⟩), .int .i64 0, undef, undef, undef, undef, undef, undef, undef, undef, undef, undef, undef, undef, undef, undef, undef, undef, undef, undef, undef, undef, undef, undef, undef, undef, undef, undef, undef, undef, undef, undef, undef, undef, undef, undef, undef, undef, undef, undef, undef, undef, undef, undef, undef, undef, undef, undef, undef, undef, undef, undef, undef, undef, undef, undef, undef, undef, undef], defers := [] } ∧ w' = (w.alloc (.cells #[.int .i64 t.h, .slice a t.args.length c] 26)).alloc (.cells #[.int .i64 u.h, .slice a2 u.args.length c2] 26)) ?_ ?_
    · go_wp2
      first | done | exact ⟨rfl, rfl⟩ | exact ⟨trivial, trivial⟩
    rintro _ W ⟨rfl, HW⟩
    have hWa : W = allocs w [.cells #[.int .i64 t.h, .slice a t.args.length c] 26, .cells #[.int .i64 u.h, .slice a2 u.args.length c2] 26] := HW
    have hB : Below w.heap.size w W := by rw [hWa]; exact allocs_below _ _
    have b0 : W.heap[w.heap.size]? = some (.cells #[.int .i64 t.h, .slice a t.args.length c] 26 (0, 0)) := by rw [hWa]; exact allocs_get _ _ 0 _ rfl
    have b1 : W.heap[w.heap.size + 1]? = some (.cells #[.int .i64 u.h, .slice a2 u.args.length c2] 26 (0, 0)) := by rw [hWa]; exact allocs_get _ _ 1 _ rfl
    clear HW hWa
    -- what holds in each later world
    have Later : ∀ W', Below W.heap.size W W' → Below w.heap.size w W' ∧ W'.cell? ⟨w.heap.size, 0, none⟩ = some (.int .i64 t.h) ∧ W'.cell? ⟨w.heap.size, 1, none⟩ = some (.slice a t.args.length c) ∧ W'.cell? ⟨w.heap.size + 1, 0, none⟩ = some (.int .i64 u.h) ∧ W'.cell? ⟨w.heap.size + 1, 1, none⟩ = some (.slice a2 u.args.length c2) := by
      intro W' hb
      have l0 := (Array.getElem?_eq_some_iff.1 b0).1
      have l1 := (Array.getElem?_eq_some_iff.1 b1).1
      have q0 := (hb.block _ l0).trans b0
      have q1 := (hb.block _ l1).trans b1
      exact ⟨hB.trans (hb.mono hB.size), by simp [World.cell?, q0], by simp [World.cell?, q0], by simp [World.cell?, q1], by simp [World.cell?, q1]⟩
    clear b0 b1
    -- the sizes
    obtain ⟨hBW, e0, e1, e2, e3⟩ := Later W (Below.refl _ _)
    refine seq_cut (fun a' w' => t.size = u.size ∧ Below W.heap.size W w' ∧ ∃ u7 u8 u9 u10 u11 : Value, a' = { tmps := #[.agg #[.int .i64 t.h, .slice a t.args.length c], .agg #[.int .i64 u.h, .slice a2 u.args.length c2], .pointer (some ⟨w.heap.size, 0, none⟩), .pointer (some ⟨w.heap.size + 1, 0, none⟩), .int .i64 0, undef, undef, u7, u8, u9, u10, u11, undef, undef, undef, undef, undef, undef, undef, undef, undef, undef, undef, undef, undef, undef, undef, undef, undef, undef, undef, undef, undef, undef, undef, undef, undef, undef, undef, undef, undef, undef, undef, undef, undef, undef, undef, undef, undef, undef, undef, undef, undef, undef, undef, undef, undef, undef, undef, undef, undef, undef], defers := [] }) ?_ ?_
    · go_wp2
      refine cut_plq (fun a' w' => Below W.heap.size W w' ∧ ∃ u7 u8 u9 u10 : Value, a' = { tmps := #[.agg #[.int .i64 t.h, .slice a t.args.length c], .agg #[.int .i64 u.h, .slice a2 u.args.length c2], .pointer (some ⟨w.heap.size, 0, none⟩), .pointer (some ⟨w.heap.size + 1, 0, none⟩), .int .i64 0, undef, undef, u7, u8, u9, u10, .bool ((t.size : Int) != u.size), undef, undef, undef, undef, undef, undef, undef, undef, undef, undef, undef, undef, undef, undef, undef, undef, undef, undef, undef, undef, undef, undef, undef, undef, undef, undef, undef, undef, undef, undef, undef, undef, undef, undef, undef, undef, undef, undef, undef, undef, undef, undef, undef, undef, undef, undef, undef, undef, undef, undef], defers := [] }) ?_ ?_
      · go_region_with (go_at_call 38; first | ((with_reducible refine (size_calls _ t A t.h (.slice a t.args.length c) _ hn1 (Nat.le_refl _) (hs.below (by first | assumption | exact Below.drew (by assumption)))).mono ?_); rintro e wn ⟨rfl, hbn⟩; have hcn := more_below (w := W) (by first | assumption | exact Below.drew (Below.refl _ _) | exact Below.drew (by assumption)) hbn; clear hbn; obtain ⟨_, _, _, _, _⟩ := Later wn hcn) | ((with_reducible refine (size_calls _ u A2 u.h (.slice a2 u.args.length c2) _ hn2 (Nat.le_refl _) (hu.below (by first | assumption | exact Below.drew (by assumption)))).mono ?_); rintro e wn ⟨rfl, hbn⟩; have hcn := more_below (w := W) (by first | assumption | exact Below.drew (Below.refl _ _) | exact Below.drew (by assumption)) hbn; clear hbn; obtain ⟨_, _, _, _, _⟩ := Later wn hcn))
        all_goals exact ⟨by assumption, _, _, _, _, rfl⟩
      rintro _ W1 ⟨hb1, u7, u8, u9, u10, rfl⟩
      obtain ⟨hBW1, f0, f1, f2, f3⟩ := Later W1 hb1
      by_cases k1 : t.size = u.size
      · have k1' : ((t.size : Int) != u.size) = false := by simp [k1]
        rw [k1']
        clear k1'
        have K1 := hide k1
        clear k1
        go_wp2
        exact ⟨K1.out, hb1, _, _, _, _, _, rfl⟩
      · have k1' : ((t.size : Int) != u.size) = true := by rw [bne_iff_ne]; omega
        rw [k1']
        have K1 := hide (show ordI t.size u.size = cmpT t u by rw [hce.out, if_pos k1])
        clear k1 k1'
        go_wp2
        refine cut_plq (fun a' w' => Below W.heap.size W w' ∧ ∃ V5 V6 V12 V13 V14 V15 V16 : Value, a' = { tmps := #[.agg #[.int .i64 t.h, .slice a t.args.length c], .agg #[.int .i64 u.h, .slice a2 u.args.length c2], .pointer (some ⟨w.heap.size, 0, none⟩), .pointer (some ⟨w.heap.size + 1, 0, none⟩), .int .i64 (ordI t.size u.size), V5, V6, u7, u8, u9, u10, .bool true, V12, V13, V14, V15, V16, undef, undef, undef, undef, undef, undef, undef, undef, undef, undef, undef, undef, undef, undef, undef, undef, undef, undef, undef, undef, undef, undef, undef, undef, undef, undef, undef, undef, undef, undef, undef, undef, undef, undef, undef, undef, undef, undef, undef, undef, undef, undef, undef, undef, undef], defers := [] }) ?_ ?_
        · go_region_with (first | (go_at_call 38; first | ((with_reducible refine (size_calls _ t A t.h (.slice a t.args.length c) _ hn1 (Nat.le_refl _) (hs.below (by first | assumption | exact Below.drew (by assumption)))).mono ?_); rintro e wn ⟨rfl, hbn⟩; have hcn := more_below (w := W) (by first | assumption | exact Below.drew (Below.refl _ _) | exact Below.drew (by assumption)) hbn; clear hbn; obtain ⟨_, _, _, _, _⟩ := Later wn hcn) | ((with_reducible refine (size_calls _ u A2 u.h (.slice a2 u.args.length c2) _ hn2 (Nat.le_refl _) (hu.below (by first | assumption | exact Below.drew (by assumption)))).mono ?_); rintro e wn ⟨rfl, hbn⟩; have hcn := more_below (w := W) (by first | assumption | exact Below.drew (Below.refl _ _) | exact Below.drew (by assumption)) hbn; clear hbn; obtain ⟨_, _, _, _, _⟩ := Later wn hcn)) | (go_at_call 39; refine (order_calls _ _ _).mono ?_; rintro e wn ⟨rfl, rfl⟩))
          all_goals exact ⟨by assumption, _, _, _, _, _, _, _, rfl⟩
        rintro _ W2 ⟨hb2, V5, V6, V12, V13, V14, V15, V16, rfl⟩
        obtain ⟨hBW2, -, -, -, -⟩ := Later W2 hb2
        go_wp2
        go_ret
        exact ⟨ret_int K1.out, hBW2⟩
    rintro _ W1 ⟨k1, hb1, u7, u8, u9, u10, u11, rfl⟩
    obtain ⟨hBW1, f0, f1, f2, f3⟩ := Later W1 hb1
    have hce2 := hide (show cmpT t u = if t.h ≠ u.h then ordI t.h u.h else if t.args.length ≠ u.args.length then ordI t.args.length u.args.length else cmpL t.args u.args by rw [hce.out, if_neg (by omega)])
    clear k1 hce e0 e1 e2 e3
    by_cases k2 : t.h = u.h
    · by_cases k3 : t.args.length = u.args.length
      · have HG := hide (show cmpL (t.args.drop 0) (u.args.drop 0) = cmpT t u by rw [hce2.out, if_neg (by simp [k2]), if_neg (by simp [k3])]; rfl)
        have k2' : (t.h != u.h) = false := by simp [k2]
        have k3' : ((t.args.length : Int) != u.args.length) = false := by simp [k3]
        have k3a : t.args.length ≤ u.args.length := by omega
        clear k2 k3 hce2
        go_wp2
        go_loopw [5] (fun i wr => ∃ k : Nat, k ≤ t.args.length ∧ i = .int .i64 k ∧ Hid (cmpL (t.args.drop k) (u.args.drop k) = cmpT t u) ∧ Below W.heap.size W wr) (fun i _ => t.args.length - (intOf i).toNat)
        case atStart => exact ⟨0, by omega, rfl, HG, hb1⟩
        case round =>
          obtain ⟨k, hk, rfl, hG, hbr⟩ := hrel
          obtain ⟨hBr, g0, g1, g2, g3⟩ := Later wr hbr
          by_cases hlt : k < t.args.length
          · have hlt2 : k < u.args.length := by omega
            obtain ⟨b, off, a', c', rfl, hc1, hc2, hs'⟩ := hs.2.getW hBr k hlt
            obtain ⟨b2, off2, a2', c2', rfl, hd1, hd2, hu'⟩ := hu.2.getW hBr k hlt2
            have hk2 := Tm.size_get t.args k hlt
            have hk3 := Tm.size_get u.args k hlt2
            have husz := u.size_eq
            have htsz := hsz.out
            have hr1 : t.args[k].size ≤ n0 := by omega
            have hr2 : t.args[k].size ≤ 9000000000000000000 := by omega
            have hr3 : u.args[k].size ≤ 9000000000000000000 := by omega
            have hG1 := hG.out
            rw [cmpL_drop _ _ k hlt hlt2] at hG1
            have HG1 := hide hG1
            clear hG1 hG husz htsz hk2 hk3
            go_wp2
            refine cut_plq (fun a' w' => Below W.heap.size W w' ∧ ∃ V48 V49 V50 V51 V52 V53 V54 V55 V56 V57 V58 : Value, a' = { tmps := #[.agg #[.int .i64 t.h, .slice (some ⟨b, off, none⟩) t.args.length c], .agg #[.int .i64 u.h, .slice (some ⟨b2, off2, none⟩) u.args.length c2], .pointer (some ⟨w.heap.size, 0, none⟩), .pointer (some ⟨w.heap.size + 1, 0, none⟩), u4, .int .i64 k, .int .i64 (cmpT t.args[k] u.args[k]), u7, u8, u9, u10, u11, undef, undef, undef, undef, undef, .pointer (some ⟨w.heap.size, 0, none⟩), .int .i64 t.h, .pointer (some ⟨w.heap.size + 1, 0, none⟩), .int .i64 u.h, .bool false, undef, undef, undef, undef, undef, .pointer (some ⟨w.heap.size, 1, none⟩), .slice (some ⟨b, off, none⟩) t.args.length c, .int .i64 t.args.length, .pointer (some ⟨w.heap.size + 1, 1, none⟩), .slice (some ⟨b2, off2, none⟩) u.args.length c2, .int .i64 u.args.length, .bool false, undef, undef, undef, undef, undef, undef, undef, .int .i64 k, .pointer (some ⟨w.heap.size, 1, none⟩), .slice (some ⟨b, off, none⟩) t.args.length c, .int .i64 t.args.length, .bool true, u46, u47, V48, V49, V50, V51, V52, V53, V54, V55, V56, V57, V58, u59, u60, u61], defers := [] }) ?_ ?_
            · go_region_with (go_at_call 31; refine (ih t.args[k] u.args[k] A A2 _ _ _ _ _ hr1 hr2 hr3 (hs'.below (Below.refl _ _).drew) (hu'.below (Below.refl _ _).drew)).mono ?_; rintro e wn ⟨rfl, hbn⟩; have hcn := more_below hbr.drew hbn)
              all_goals exact ⟨by assumption, _, _, _, _, _, _, _, _, _, _, _, rfl⟩
            rintro _ W3 ⟨hb3, V48, V49, V50, V51, V52, V53, V54, V55, V56, V57, V58, rfl⟩
            obtain ⟨hB3, -, -, -, -⟩ := Later W3 hb3
            by_cases hz : cmpT t.args[k] u.args[k] = 0
            · have HZ := hide (show cmpL (t.args.drop (k + 1)) (u.args.drop (k + 1)) = cmpT t u by rw [← HG1.out, if_neg (by simp [hz])])
              have hz' : (cmpT t.args[k] u.args[k] != 0) = false := by simp [hz]
              clear hz
              go_wp2
              go_roundw
              case rel => exact ⟨k + 1, by omega, by go_num, HZ, hb3⟩
              case measure => simp [intOf]; omega
            · have HZ := hide (show cmpT t.args[k] u.args[k] = cmpT t u by rw [← HG1.out, if_pos hz])
              have hz' : (cmpT t.args[k] u.args[k] != 0) = true := by rw [bne_iff_ne]; exact hz
              clear hz
              go_wp2
              go_ret
              exact ⟨ret_int HZ.out, hB3⟩
          · have HG2 := hide (show (0 : Int) = cmpT t u by rw [← hG.out, List.drop_of_length_le (by omega)]; simp [cmpL])
            go_wp2
            go_ret
            exact ⟨ret_int HG2.out, hBr⟩
      · have HG := hide (show ordI t.args.length u.args.length = cmpT t u by rw [hce2.out, if_neg (by simp [k2]), if_pos k3])
        have k2' : (t.h != u.h) = false := by simp [k2]
        have k3' : ((t.args.length : Int) != u.args.length) = true := by rw [bne_iff_ne]; omega
        clear k2 k3 hce2
        go_wp2_with (go_at_call 39; refine (order_calls _ _ _).mono ?_; rintro e wn ⟨rfl, rfl⟩)
        go_ret
        exact ⟨ret_int HG.out, hBW1⟩
    · have HG := hide (show ordI t.h u.h = cmpT t u by rw [hce2.out, if_pos k2])
      have k2' : (t.h != u.h) = true := by rw [bne_iff_ne]; exact k2
      clear k2 hce2
      go_wp2_with (go_at_call 39; refine (order_calls _ _ _).mono ?_; rintro e wn ⟨rfl, rfl⟩)
      go_ret
      exact ⟨ret_int HG.out, hBW1⟩

theorem same_callsG (t u : Tm) (A A2 : Nat → Prop) (h h2 : Int) (s s2 : Value) (w : World) (ht : t.size ≤ 9000000000000000000) (hu1 : u.size ≤ 9000000000000000000) (hs : IsTm A w h s t) (hu : IsTm A2 w h2 s2 u) :
    Calls Tryd.prog 15 #[.agg #[.int .i64 h, s], .agg #[.int .i64 h2, s2]] w fun e w' => e = .returned (.bool (sameB t u)) ∧ Below w.heap.size w w' := by
  obtain ⟨rfl, a, c, rfl, hlc, hc⟩ := hs.shape
  obtain ⟨rfl, a2, c2, rfl, hlc2, hc2⟩ := hu.shape
  have hb0 : Below w.heap.size w ((w.alloc (.cells #[.int .i64 t.h, .slice a t.args.length c] 26)).alloc (.cells #[.int .i64 u.h, .slice a2 u.args.length c2] 26)) := allocs_below w [_, _]
  go_enter Tryd.func15, Tryd.ntmps15
  go_wp2_with fail
  refine (compare_calls _ t u A A2 _ _ _ _ _ (Nat.le_refl _) ht hu1 (hs.below hb0) (hu.below hb0)).mono ?_
  rintro e w1 ⟨rfl, h1⟩
  have hb1 := more_below hb0 h1
  clear h1 hb0
  go_wp2
  go_ret
  exact ⟨rfl, hb1⟩
theorem same_calls (t u : Tm) (A A2 : Nat → Prop) (h h2 : Int) (s s2 : Value) (w : World) (ht : t.size ≤ 1000000000) (hu1 : u.size ≤ 1000000000) (hs : IsTm A w h s t) (hu : IsTm A2 w h2 s2 u) :
    Calls Tryd.prog 15 #[.agg #[.int .i64 h, s], .agg #[.int .i64 h2, s2]] w fun e w' => e = .returned (.bool (sameB t u)) ∧ Below w.heap.size w w' :=
  same_callsG t u A A2 h h2 s s2 w (by omega) (by omega) hs hu
end Go.Proofs.YtefmgooceeigbaaDoor
