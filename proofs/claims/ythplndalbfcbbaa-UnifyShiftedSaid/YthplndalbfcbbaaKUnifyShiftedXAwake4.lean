/- What the proof of the law rests on: contracts of the functions, plain laws, and words. -/
import Derived.Test.YthplndalbfcbbaaKUnifyShiftedXUAll
import Derived.Test.YthplndalbfcbbaaKUnifyShiftedG7
import Derived.Test.YthplndalbfcbbaaKUnifyShiftedG6
import Derived.Test.YthplndalbfcbbaaKUnifyShiftedG4
set_option linter.unusedSimpArgs false
set_option linter.unusedVariables false
namespace Go.Proofs.Ythplndalbfcbbaa
open Go.RowKit
def ex4F : Tm := .node 3 [.node (-2) []]
def ex4A : Tm := .node 4 [.node (-1) [], ex4F]
def ex4C : Tm := .node 4 [ex4F, .node (-1) []]
def ex4V : Tm := .node (-2) []
def ex4B : List Bd := [⟨0, ex4F⟩]
def unD (n : Nat) (L : Pairs) : Option Sub := (unS n varT L).getD none
theorem unD_eq {n : Nat} {L : Pairs} (h : (unS n varT L).isSome = true) : unS n varT L = some (unD n L) := by
  unfold unD
  cases hx : unS n varT L with
  | none => rw [hx] at h; cases h
  | some r => rfl
theorem ex4_one : unifyT [ex4A] [ex4C] = (ex4B, true, 0) := by
  have h := unify_by (ps := [ex4A]) (ts := [ex4C]) 20 (by simp) (by simp) (by kernel_rfl) (by kernel_rfl) (unD_eq (by kernel_rfl))
  exact h.trans (by kernel_rfl)
theorem ex4_two : unifyT [ex4F] [ex4V] = ([], false, 0) := by
  have h := unify_by (ps := [ex4F]) (ts := [ex4V]) 20 (by simp) (by simp) (by kernel_rfl) (by kernel_rfl) (unD_eq (by kernel_rfl))
  exact h.trans (by kernel_rfl)
set_option maxHeartbeats 4000000 in
set_option maxRecDepth 100000 in
theorem awake4_calls (w : World) : Calls Try.prog 57 #[] w fun e w' => e = .returned (.bool true) ∧ Below w.heap.size w w' := by
  go_enter Try.func57, Try.ntmps57
  go_wp2_with fail
  refine (var_calls 1 (by omega) (by omega) _).mono ?_
  rintro e w1 ⟨rfl, B1⟩
  go_wp2_with fail
  have q1 : Below w1.heap.size w1 (w1.alloc (.cells #[.int .i64 (-2), .slice none 0 0] 25)) := (Below.refl _ _).alloc (Nat.le_refl _) _
  have m1 : (w1.alloc (.cells #[.int .i64 (-2), .slice none 0 0] 25)).heap[w1.heap.size]? = some (.cells #[.int .i64 (-2), .slice none 0 0] 25 (0, 0)) := World.alloc_heap_new _ _
  have f1 : Terms (fun _ => False) _ (.slice (some ⟨w1.heap.size, 0, none⟩) 1 1) ex4F.args := terms1 (t := .node (-2) []) m1 id (Terms.nil _ _)
  have C1 := more_below B1 q1
  clear q1 B1 m1
  generalize w1.alloc (.cells #[.int .i64 (-2), .slice none 0 0] 25) = V1 at *
  generalize w1.heap.size = bf at *
  refine (fun_calls 3 _ _ _ _).mono ?_
  rintro e w2 ⟨rfl, h2⟩
  have f2 := f1.below h2
  have C2 := more_below C1 h2
  clear h2 C1 f1
  go_wp2_with fail
  have q3 : Below w2.heap.size w2 (w2.alloc (.cells #[.int .i64 3, .slice (some ⟨bf, 0, none⟩) 1 1] 25)) := (Below.refl _ _).alloc (Nat.le_refl _) _
  have m3 : (w2.alloc (.cells #[.int .i64 3, .slice (some ⟨bf, 0, none⟩) 1 1] 25)).heap[w2.heap.size]? = some (.cells #[.int .i64 3, .slice (some ⟨bf, 0, none⟩) 1 1] 25 (0, 0)) := World.alloc_heap_new _ _
  have f3 := f2.below q3
  have C3 := more_below C2 q3
  clear q3 C2 f2
  generalize w2.alloc (.cells #[.int .i64 3, .slice (some ⟨bf, 0, none⟩) 1 1] 25) = V3 at *
  generalize w2.heap.size = bx at *
  refine cut_cap (fun a0 a' w' => ∃ b1 b2 va, a' = ((((((((((((((((a0.put (some 13) (.agg #[.int .i64 3, .slice (some ⟨bf, 0, none⟩) 1 1])).put (some 16) (.agg #[.int .i64 3, .slice (some ⟨bf, 0, none⟩) 1 1])).put (some 12) (.agg #[.int .i64 (-1), .slice none 0 0])).put (some 14) (.slice (some ⟨b1, 0, none⟩) 2 2)).put (some 15) (.agg #[.int .i64 4, .slice (some ⟨b1, 0, none⟩) 2 2])).put (some 17) (.agg #[.int .i64 (-1), .slice none 0 0])).put (some 18) (.slice (some ⟨b2, 0, none⟩) 2 2)).put (some 19) (.agg #[.int .i64 4, .slice (some ⟨b2, 0, none⟩) 2 2])).put (some 20) (.tuple #[va, .bool true, .int .i64 0])).put (some 11) (.tuple #[va, .bool true, .int .i64 0])).put (some 21) va).put (some 22) (.bool true)).put (some 23) (.int .i64 0)).put (some 2) va).put (some 3) (.bool true)).put (some 4) (.int .i64 0)) ∧ Below V3.heap.size V3 w' ∧ Binds (fun _ => False) w' va ex4B) ?_ ?_
  · have hS : ∀ W', Below V3.heap.size V3 W' → Below V3.heap.size V3 W' ∧ W'.cell? ⟨bx, 0, none⟩ = some (.int .i64 3) ∧ W'.cell? ⟨bx, 1, none⟩ = some (.slice (some ⟨bf, 0, none⟩) 1 1) := fun W' hW => by
      obtain ⟨-, z0, z1, -, -⟩ := box2 ((hW.block _ (Array.getElem?_eq_some_iff.1 m3).1).trans m3)
      exact ⟨hW, z0, z1⟩
    refine drawn_mix (fun W' => Below V3.heap.size V3 W' ∧ W'.cell? ⟨bx, 0, none⟩ = some (.int .i64 3) ∧ W'.cell? ⟨bx, 1, none⟩ = some (.slice (some ⟨bf, 0, none⟩) 1 1)) [.take 1, .take 4, .mix [0, 2, 3, 5, 6, 7, 8] [], .take 9, .take 10, .take 11, .take 12, .take 13, .take 14, .take 15] (by kernel_rfl) (by kernel_rfl) (by kernel_rfl) (by kernel_rfl) (fun _ _ _ _ _ h => h) (hS _ (Below.refl _ _).drew) ?_
    have g0 := (Below.refl V3.heap.size V3).drew
    have f4 := f3.below g0
    generalize V3.drew = y0 at *
    iterate 2 (refine m_take (v := ?_) rfl (by rfl) ?_ ?_; rotate_left; (intro w hS; obtain ⟨-, hS1, hS2⟩ := hS; go_simp; try with_reducible rfl); simp only [Act.put, List.setIfInBounds_toArray, List.set_cons_zero, List.set_cons_succ])
    refine m_mix ?_
    refine i_left rfl (by rfl) ?_
    intro K hK
    go_simp
    refine (var_calls 0 (by omega) (by omega) _).mono ?_
    rintro e y1 ⟨rfl, q1⟩
    have g1 := more_below g0 q1
    replace f4 := f4.below q1
    refine hK.out _ _ (hS _ g1) ?_
    clear hK K q1
    refine i_left rfl (by rfl) ?_
    intro K hK
    go_simp
    have p2 : (y1.alloc (.cells #[.int .i64 (-1), .slice none 0 0, .int .i64 3, .slice (some ⟨bf, 0, none⟩) 1 1] 25)).heap[y1.heap.size]? = some (.cells #[.int .i64 (-1), .slice none 0 0, .int .i64 3, .slice (some ⟨bf, 0, none⟩) 1 1] 25 (0, 0)) := World.alloc_heap_new _ _
    have q2 : Below y1.heap.size y1 (y1.alloc (.cells #[.int .i64 (-1), .slice none 0 0, .int .i64 3, .slice (some ⟨bf, 0, none⟩) 1 1] 25)) := (Below.refl _ _).alloc (Nat.le_refl _) _
    have g2 := more_below g1 q2
    replace f4 := f4.below q2
    have u2 : Terms (fun _ => False) _ (.slice (some ⟨y1.heap.size, 0, none⟩) 2 2) ex4A.args := terms2 (t1 := .node (-1) []) (t2 := ex4F) p2 id (Terms.nil _ _) f4
    refine hK.out _ _ (hS _ g2) ?_
    clear hK K p2 q2
    generalize y1.alloc (.cells #[.int .i64 (-1), .slice none 0 0, .int .i64 3, .slice (some ⟨bf, 0, none⟩) 1 1] 25) = y2 at *
    refine i_left rfl (by rfl) ?_
    intro K hK
    go_simp
    refine (fun_calls 4 _ _ _ _).mono ?_
    rintro e y3 ⟨rfl, q3⟩
    have g3 := more_below g2 q3
    replace f4 := f4.below q3
    replace u2 := u2.below q3
    refine hK.out _ _ (hS _ g3) ?_
    clear hK K q3
    refine i_left rfl (by rfl) ?_
    intro K hK
    go_simp
    refine (var_calls 0 (by omega) (by omega) _).mono ?_
    rintro e y4 ⟨rfl, q4⟩
    have g4 := more_below g3 q4
    replace f4 := f4.below q4
    replace u2 := u2.below q4
    refine hK.out _ _ (hS _ g4) ?_
    clear hK K q4
    refine i_left rfl (by rfl) ?_
    intro K hK
    go_simp
    have p5 : (y4.alloc (.cells #[.int .i64 3, .slice (some ⟨bf, 0, none⟩) 1 1, .int .i64 (-1), .slice none 0 0] 25)).heap[y4.heap.size]? = some (.cells #[.int .i64 3, .slice (some ⟨bf, 0, none⟩) 1 1, .int .i64 (-1), .slice none 0 0] 25 (0, 0)) := World.alloc_heap_new _ _
    have q5 : Below y4.heap.size y4 (y4.alloc (.cells #[.int .i64 3, .slice (some ⟨bf, 0, none⟩) 1 1, .int .i64 (-1), .slice none 0 0] 25)) := (Below.refl _ _).alloc (Nat.le_refl _) _
    have g5 := more_below g4 q5
    replace f4 := f4.below q5
    replace u2 := u2.below q5
    have u5 : Terms (fun _ => False) _ (.slice (some ⟨y4.heap.size, 0, none⟩) 2 2) ex4C.args := terms2 (t1 := ex4F) (t2 := .node (-1) []) p5 id f4 (Terms.nil _ _)
    refine hK.out _ _ (hS _ g5) ?_
    clear hK K p5 q5
    generalize y4.alloc (.cells #[.int .i64 3, .slice (some ⟨bf, 0, none⟩) 1 1, .int .i64 (-1), .slice none 0 0] 25) = y5 at *
    refine i_left rfl (by rfl) ?_
    intro K hK
    go_simp
    refine (fun_calls 4 _ _ _ _).mono ?_
    rintro e y6 ⟨rfl, q6⟩
    have g6 := more_below g5 q6
    replace u2 := u2.below q6
    replace u5 := u5.below q6
    refine hK.out _ _ (hS _ g6) ?_
    clear hK K q6
    refine i_left rfl (by rfl) ?_
    intro K hK
    go_simp
    have hma := umgu_calls (fun _ => False) ex4A ex4C 4 4 _ _ y6 (by decide) (by decide) (fun _ h => h.elim) ⟨rfl, u2⟩ ⟨rfl, u5⟩
    rw [ex4_one] at hma
    refine hma.mono ?_
    rintro e z9 ⟨va, rfl, va9, q9⟩
    have g9 := more_below g6 q9
    refine hK.out _ _ (hS _ g9) ?_
    clear hK K q9 hma
    refine i_done ?_
    iterate 7 (refine m_take (v := ?_) rfl (by rfl) ?_ ?_; rotate_left; (intro w hS; obtain ⟨-, hS1, hS2⟩ := hS; go_simp; try with_reducible rfl); simp only [Act.put, List.setIfInBounds_toArray, List.set_cons_zero, List.set_cons_succ])
    exact m_done ⟨y1.heap.size, y4.heap.size, va, by simp only [Act.put, List.setIfInBounds_toArray, List.set_cons_zero, List.set_cons_succ]; try rfl, g9, va9⟩
  rintro _ x5 ⟨b1, b2, va, rfl, g5, va5⟩
  simp only [Act.put, List.setIfInBounds_toArray, List.set_cons_zero, List.set_cons_succ]
  have m5 := (g5.block _ (Array.getElem?_eq_some_iff.1 m3).1).trans m3
  have f5 := f3.below g5
  have D5 := more_below C3 g5
  clear m3 g5 f3 C3
  go_wp2_with fail
  refine cut_cap (fun a0 a' w' => ∃ vb, a' = ((((((((((a0.put (some 25) (.agg #[.int .i64 3, .slice (some ⟨bf, 0, none⟩) 1 1])).put (some 26) (.agg #[.int .i64 (-2), .slice none 0 0])).put (some 27) (.tuple #[vb, .bool false, .int .i64 0])).put (some 24) (.tuple #[vb, .bool false, .int .i64 0])).put (some 28) vb).put (some 29) (.bool false)).put (some 30) (.int .i64 0)).put (some 5) vb).put (some 6) (.bool false)).put (some 7) (.int .i64 0)) ∧ Below x5.heap.size x5 w') ?_ ?_
  · have hS : ∀ W', Below x5.heap.size x5 W' → Below x5.heap.size x5 W' ∧ W'.cell? ⟨bx, 0, none⟩ = some (.int .i64 3) ∧ W'.cell? ⟨bx, 1, none⟩ = some (.slice (some ⟨bf, 0, none⟩) 1 1) := fun W' hW => by
      obtain ⟨-, z0, z1, -, -⟩ := box2 ((hW.block _ (Array.getElem?_eq_some_iff.1 m5).1).trans m5)
      exact ⟨hW, z0, z1⟩
    refine drawn_mix (fun W' => Below x5.heap.size x5 W' ∧ W'.cell? ⟨bx, 0, none⟩ = some (.int .i64 3) ∧ W'.cell? ⟨bx, 1, none⟩ = some (.slice (some ⟨bf, 0, none⟩) 1 1)) [.take 0, .mix [1, 2] [], .take 3, .take 4, .take 5, .take 6, .take 7, .take 8, .take 9] (by kernel_rfl) (by kernel_rfl) (by kernel_rfl) (by kernel_rfl) (fun _ _ _ _ _ h => h) (hS _ (Below.refl _ _).drew) ?_
    have g0 := (Below.refl x5.heap.size x5).drew
    have f6 := f5.below g0
    generalize x5.drew = y0 at *
    iterate 1 (refine m_take (v := ?_) rfl (by rfl) ?_ ?_; rotate_left; (intro w hS; obtain ⟨-, hS1, hS2⟩ := hS; go_simp; try with_reducible rfl); simp only [Act.put, List.setIfInBounds_toArray, List.set_cons_zero, List.set_cons_succ])
    refine m_mix ?_
    refine i_left rfl (by rfl) ?_
    intro K hK
    go_simp
    refine (var_calls 1 (by omega) (by omega) _).mono ?_
    rintro e y1 ⟨rfl, q1⟩
    have g1 := more_below g0 q1
    replace f6 := f6.below q1
    refine hK.out _ _ (hS _ g1) ?_
    clear hK K q1
    refine i_left rfl (by rfl) ?_
    intro K hK
    go_simp
    have hma := umgu_calls (fun _ => False) ex4F ex4V 3 (-2) _ (.slice none 0 0) y1 (by decide) (by decide) (fun _ h => h.elim) ⟨rfl, f6⟩ ⟨rfl, Terms.nil _ _⟩
    rw [ex4_two] at hma
    refine hma.mono ?_
    rintro e z9 ⟨va, rfl, va9, q9⟩
    have g9 := more_below g1 q9
    refine hK.out _ _ (hS _ g9) ?_
    clear hK K q9 hma
    refine i_done ?_
    iterate 7 (refine m_take (v := ?_) rfl (by rfl) ?_ ?_; rotate_left; (intro w hS; obtain ⟨-, hS1, hS2⟩ := hS; go_simp; try with_reducible rfl); simp only [Act.put, List.setIfInBounds_toArray, List.set_cons_zero, List.set_cons_succ])
    exact m_done ⟨va, by simp only [Act.put, List.setIfInBounds_toArray, List.set_cons_zero, List.set_cons_succ]; try rfl, g9⟩
  rintro _ x6 ⟨vb, rfl, g6⟩
  simp only [Act.put, List.setIfInBounds_toArray, List.set_cons_zero, List.set_cons_succ]
  have m6 := (g6.block _ (Array.getElem?_eq_some_iff.1 m5).1).trans m5
  have f6 := f5.below g6
  have va6 := va5.below g6
  have D6 := more_below D5 g6
  clear m5 g6 f5 D5 va5
  obtain ⟨-, z0, z1, -, -⟩ := box2 m6
  obtain ⟨aa, ca, rfl, -, -⟩ := va6.shape
  go_wp2_with fail
  have p7 : (x6.alloc (.cells #[.int .i64 0, .int .i64 3, .slice (some ⟨bf, 0, none⟩) 1 1] 60)).heap[x6.heap.size]? = some (.cells #[.int .i64 0, .int .i64 3, .slice (some ⟨bf, 0, none⟩) 1 1] 60 (0, 0)) := World.alloc_heap_new _ _
  have q7 : Below x6.heap.size x6 (x6.alloc (.cells #[.int .i64 0, .int .i64 3, .slice (some ⟨bf, 0, none⟩) 1 1] 60)) := (Below.refl _ _).alloc (Nat.le_refl _) _
  have vb7 : Binds (fun _ => False) _ (.slice (some ⟨x6.heap.size, 0, none⟩) 1 1) ex4B := binds1 (b1 := ⟨0, ex4F⟩) p7 id (f6.below q7)
  have va7 := va6.below q7
  have D7 := more_below D6 q7
  generalize x6.alloc (.cells #[.int .i64 0, .int .i64 3, .slice (some ⟨bf, 0, none⟩) 1 1] 60) = x7 at *
  clear p7 q7 va6 z0 z1 m6 f6 D6
  refine (same3_calls ex4B (fun _ => False) (fun _ => False) _ _ x7 (by decide) va7 vb7).mono ?_
  rintro e x8 ⟨rfl, h8⟩
  go_wp2
  go_ret
  exact ⟨rfl, more_below D7 h8⟩
end Go.Proofs.Ythplndalbfcbbaa
