/- slices.Grow of nil, slices.Concat of two rows of binds. -/
import Derived.Lib.AppendZerosOnto
import Derived.Lib.SliceRun
import Derived.Test.YthplndalbfcbbaaJoin
set_option linter.unusedSimpArgs false
set_option linter.unusedVariables false
namespace Go.Proofs.Ythplndalbfcbbaa
open Go.RowKit

set_option maxHeartbeats 2000000 in
set_option maxRecDepth 100000 in
theorem grow_calls (n : Nat) (w : World) (hn : n ≤ 1000000) :
    Calls Try.prog 146 #[.slice none 0 0, .int .i64 n] w fun e w' => ∃ v, e = .returned v ∧ w'.ownsRow w.heap.size 60 3 v 0 [] ∧ Below w.heap.size w w' := by
  rcases Nat.eq_zero_or_pos n with rfl | h0
  · go_enter Try.func146, Try.ntmps146
    go_wp2
    go_ret
    exact ⟨_, rfl, World.ownsRow_nil _ _ _ _, Below.refl _ _⟩
  · obtain ⟨i0, hi0, hz⟩ := Option.map_eq_some_iff.1 (show (Try.prog.info? 60).map (fun i => (i.zero, i.size, i.bytes)) = some (some (.agg #[.int .i64 0, .int .i64 0, .slice none 0 0]), 3, 40) by kernel_rfl)
    simp only [Prod.mk.injEq] at hz
    obtain ⟨hz0, hz1, hz2⟩ := hz
    have hold : (Builtin.firstCells i0.size 0 (.slice none 0 0)).run Try.prog w.drew = .ok #[] w.drew := run_firstCells_none w.drew i0.size 0 0 0
    have hrz : ∀ ty, (Builtin.append_ #[22, 3] ty #[.slice none 0 0, .int .i64 n]).run Try.prog w = _ := fun ty =>
      Lib.run_append_grow_zeros w 22 3 ty 60 i0 _ .i64 .i64 Try.underlying22 Try.underlying3 hi0 hz0 none 0 0 [] hold n h0 (by omega) (by omega) (by omega) (by rw [hz2]; omega)
        (by rw [Nat.zero_add]; exact growslice_fits (by omega) (by rw [hz2]; omega))
    simp only [Nat.zero_add] at hrz
    have hGn : n ≤ grownCap w n 0 60 := grownCap_ge w _ _ _
    have hG63 : grownCap w n 0 60 ≤ maxLen := grownCap_le_maxLen w n 0 60 (by unfold maxLen; omega)
    generalize grownCap w n 0 60 = G at *
    have hG' : G ≤ 9223372036854775807 := by unfold maxLen at hG63; omega
    have hn0 : ¬ ((n : Int) < 0) := by omega
    have hn1 : (n : Int) > 0 := by omega
    clear hold
    go_enter Try.func146, Try.ntmps146
    go_wp2_with (at_builtin; refine Lib.wpList_append_run _ rfl _ _ _ _ rfl _ _ rfl rfl _ _ (hrz _) ?_)
    go_ret
    refine ⟨_, rfl, ⟨by simp, .inr ⟨w.heap.size, G, _, rfl, Nat.le_refl _, World.alloc_heap_new w _, Nat.zero_le _, hG63, ?_, by simp⟩⟩, ((Below.refl _ _).alloc (Nat.le_refl _) _).drew⟩
    rw [Array.size_append, size_zeroCells, size_zeroCells]
    simp only [List.size_toArray, List.length_cons, List.length_nil]
    omega

/-- Rows one behind the other. -/
theorem concat_calls (ss us : List Bd) (g : Nat) (sv uv : Value) (w : World) (hl1 : ss.length ≤ 100000) (hl2 : us.length ≤ 100000)
    (c0 : w.cell? ⟨g, 0, none⟩ = some sv) (c1 : w.cell? ⟨g, 1, none⟩ = some uv) (hg : g < w.heap.size) (hs : Binds (fun _ => False) w sv ss) (hu : Binds (fun _ => False) w uv us) :
    Calls Try.prog 103 #[.slice (some ⟨g, 0, none⟩) 2 2] w fun e w' => ∃ v, e = .returned v ∧ Binds (fun _ => False) w' v (ss ++ us) ∧ Below w.heap.size w w' := by
  obtain ⟨a1, d1, rfl, hc1, hc1'⟩ := hs.shape
  obtain ⟨a2, d2, rfl, hc2, hc2'⟩ := hu.shape
  go_enter Try.func103, Try.ntmps103
  go_wp2
  go_loopw [3, 11] (fun q i wr => wr = w ∧ ((i = .int .i64 0 ∧ q = .int .i64 0) ∨ (i = .int .i64 1 ∧ q = .int .i64 ss.length) ∨ (i = .int .i64 2 ∧ q = .int .i64 (ss.length + us.length : Nat)))) (fun _ i _ => 2 - (intOf i).toNat)
  case atStart => exact ⟨rfl, .inl ⟨rfl, rfl⟩⟩
  case round =>
    obtain ⟨hwr, hrel⟩ := hrel
    obtain rfl := hwr.symm
    clear hwr
    obtain ⟨rfl, rfl⟩ | ⟨rfl, rfl⟩ | ⟨rfl, rfl⟩ := hrel
    · go_wp2
      go_roundw
      case rel => exact ⟨trivial, .inr (.inl ⟨rfl, by simp⟩)⟩
      case measure => simp [intOf]
    · have hw1 : IntKind.i64.wrap ((ss.length : Int) + us.length) = ss.length + us.length := IntWalk.i64_in _ (by omega)
      have hn1 : ¬ ((ss.length : Int) + us.length < 0) := by omega
      go_wp2
      go_roundw
      case rel => exact ⟨trivial, .inr (.inr ⟨rfl, by simp⟩)⟩
      case measure => simp [intOf]
    · go_wp2_with fail
      refine (grow_calls (ss.length + us.length) w (by omega)).mono ?_
      rintro e w1 ⟨v0, rfl, o0, h1⟩
      have O0 : OwnD (fun _ => False) w1 w.heap.size 60 3 v0 [] := ⟨[], by simpa using o0, by simp, .nil⟩
      have hsz0 := h1.size
      go_wp2
      go_loopw [6, 27] (fun v i wq => Below w.heap.size w wq ∧ ((i = .int .i64 0 ∧ OwnD (fun _ => False) wq w.heap.size 60 3 v []) ∨ (i = .int .i64 1 ∧ OwnD (fun _ => False) wq w.heap.size 60 3 v (ss.map Bd.d)) ∨ (i = .int .i64 2 ∧ OwnD (fun _ => False) wq w.heap.size 60 3 v (ss.map Bd.d ++ us.map Bd.d)))) (fun _ i _ => 2 - (intOf i).toNat)
      case atStart => exact ⟨h1, .inl ⟨rfl, O0⟩⟩
      case round =>
        obtain ⟨hB, ⟨rfl, O⟩ | ⟨rfl, O⟩ | ⟨rfl, O⟩⟩ := hrel
        · have HO := hide O
          have HX := hide (show RepD (fun b => False ∨ u6.ownBlock = some b) wr (.row 3 (ss.map Bd.d)) [.slice a1 ss.length d1] from RepD.frame (fun b _ hlt => hB.block b hlt) (fun b hb h => by
            rcases h with h | h
            · exact h
            · have := (O.lt b h).1; omega) _ _ hs)
          have e1 := (hB.cell (p := ⟨g, 0, none⟩) hg).trans c0
          have hsz9 := hB.size
          clear O
          go_wp2_with (at_builtin; refine app_all_pl rfl (.tmp 31) (.tmp 32) 22 rfl w.heap.size 60 (.agg #[.int .i64 0, .int .i64 0, .slice none 0 0]) 3 40 Try.underlying22 (by kernel_rfl) rfl (by decide) (v := u6) (xv := .slice a1 ss.length d1) rfl rfl HO.out HX.out (fun d hd => by obtain ⟨z, -, rfl⟩ := List.mem_map.1 hd; exact Bd.oneD z) (by simp [maxLen]; omega) (by simp; omega) hsz9 ?_; intro v' w' o' kp ob hsh)
          go_roundw
          case rel => exact ⟨hB.trans (kp.below (fun b hb h => by have := (HO.out.lt b h).1; omega) hsz9), .inr (.inl ⟨rfl, by simpa using o'⟩)⟩
          case measure => simp [intOf]
        · have HO := hide O
          have HX := hide (show RepD (fun b => False ∨ u6.ownBlock = some b) wr (.row 3 (us.map Bd.d)) [.slice a2 us.length d2] from RepD.frame (fun b _ hlt => hB.block b hlt) (fun b hb h => by
            rcases h with h | h
            · exact h
            · have := (O.lt b h).1; omega) _ _ hu)
          have e1 := (hB.cell (p := ⟨g, 1, none⟩) hg).trans c1
          have hsz9 := hB.size
          clear O
          go_wp2_with (at_builtin; refine app_all_pl rfl (.tmp 31) (.tmp 32) 22 rfl w.heap.size 60 (.agg #[.int .i64 0, .int .i64 0, .slice none 0 0]) 3 40 Try.underlying22 (by kernel_rfl) rfl (by decide) (v := u6) (xv := .slice a2 us.length d2) rfl rfl HO.out HX.out (fun d hd => by obtain ⟨z, -, rfl⟩ := List.mem_map.1 hd; exact Bd.oneD z) (by simp [maxLen]; omega) (by simp; omega) hsz9 ?_; intro v' w' o' kp ob hsh)
          go_roundw
          case rel => exact ⟨hB.trans (kp.below (fun b hb h => by have := (HO.out.lt b h).1; omega) hsz9), .inr (.inr ⟨rfl, o'⟩)⟩
          case measure => simp [intOf]
        · have hR : Binds (fun _ => False) wr u6 (ss ++ us) := by
            have := O.rep (fun _ h => h.elim)
            rw [← List.map_append] at this
            exact this
          obtain ⟨ad, cp, rfl, -, -⟩ := hR.shape
          clear O
          go_wp2
          go_ret
          exact ⟨_, rfl, hR, hB⟩
end Go.Proofs.Ythplndalbfcbbaa
