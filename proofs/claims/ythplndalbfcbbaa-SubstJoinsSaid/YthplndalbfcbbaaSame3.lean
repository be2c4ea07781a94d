/- elenchusref03.Same at two rows of the same binds. -/
import Derived.Test.YthplndalbfcbbaaRef1d
import Derived.Test.YthplndalbfcbbaaOwn
import Derived.Test.YthplndalbfcbbaaDraw3
set_option linter.unusedSimpArgs false
set_option linter.unusedVariables false
namespace Go.Proofs.Ythplndalbfcbbaa
open Go.RowKit

set_option maxHeartbeats 4000000 in
set_option maxRecDepth 100000 in
theorem same3_calls (bs : List Bd) (A A2 : Nat → Prop) (s s2 : Value) (w : World) (hsz : ∀ b, b ∈ bs → b.t.size ≤ 1000000000) (hs : Binds A w s bs) (hs2 : Binds A2 w s2 bs) :
    Calls Try.prog 45 #[s, s2] w fun e w' => e = .returned (.bool true) ∧ Below w.heap.size w w' := by
  obtain ⟨a, c1, rfl, hc1, hc1'⟩ := hs.shape
  obtain ⟨a', c2, rfl, hc2, hc2'⟩ := hs2.shape
  have HSZ := hide hsz
  clear hsz
  have hl : bs.length ≤ 9223372036854775807 := by omega
  go_enter Try.func45, Try.ntmps45
  go_wp2
  go_loopw [5] (fun i wr => ∃ k : Nat, k ≤ bs.length ∧ i = .int .i64 k ∧ Below w.heap.size w wr) (fun i _ => bs.length - (intOf i).toNat)
  case atStart => exact ⟨0, by omega, rfl, Below.refl _ _⟩
  case round =>
    obtain ⟨k, hk, rfl, hB⟩ := hrel
    by_cases hlt : k < bs.length
    · obtain ⟨b1, o1, a1, d1, rfl, p0, p1, p2, pt⟩ := hs.getW hB k hlt
      obtain ⟨b2, o2, a2, d2, rfl, q0, q1, q2, qt⟩ := hs2.getW hB k hlt
      have hb1 : b1 < wr.heap.size := World.block_lt_of_cell? wr _ p0
      have hb2 : b2 < wr.heap.size := World.block_lt_of_cell? wr _ q0
      have hm := HSZ.out bs[k] (List.getElem_mem hlt)
      have hi0 : (k : Int) < bs.length := by omega
      go_wp2
      have hS : ∀ W', Below wr.heap.size wr W' → Below wr.heap.size wr W' ∧ W'.cell? ⟨b1, o1 + k * 3, none⟩ = some (.int .i64 bs[k].v) ∧ W'.cell? ⟨b1, o1 + k * 3 + 1, none⟩ = some (.int .i64 bs[k].t.h) ∧ W'.cell? ⟨b1, o1 + k * 3 + 2, none⟩ = some (.slice a1 bs[k].t.args.length d1) ∧ W'.cell? ⟨b2, o2 + k * 3, none⟩ = some (.int .i64 bs[k].v) ∧ W'.cell? ⟨b2, o2 + k * 3 + 1, none⟩ = some (.int .i64 bs[k].t.h) ∧ W'.cell? ⟨b2, o2 + k * 3 + 2, none⟩ = some (.slice a2 bs[k].t.args.length d2) := fun W' hW =>
        ⟨hW, (hW.cell (p := ⟨b1, o1 + k * 3, none⟩) hb1).trans p0, (hW.cell (p := ⟨b1, o1 + k * 3 + 1, none⟩) hb1).trans p1, (hW.cell (p := ⟨b1, o1 + k * 3 + 2, none⟩) hb1).trans p2, (hW.cell (p := ⟨b2, o2 + k * 3, none⟩) hb2).trans q0, (hW.cell (p := ⟨b2, o2 + k * 3 + 1, none⟩) hb2).trans q1, (hW.cell (p := ⟨b2, o2 + k * 3 + 2, none⟩) hb2).trans q2⟩
      refine cut_cap (fun a0 a' w' => ∃ x17 x18 x19 x20 x21 x22 x23 x24 x25 x26 x27 x28 x29 x30 x31 x32 x33 x34 x35 x36 x37 x38 x39 x40, a' = ((((((((((((((((((((((((a0.put (some 17) x17).put (some 18) x18).put (some 19) x19).put (some 20) x20).put (some 21) x21).put (some 22) x22).put (some 23) x23).put (some 24) x24).put (some 25) x25).put (some 26) x26).put (some 27) x27).put (some 28) x28).put (some 29) x29).put (some 30) x30).put (some 31) x31).put (some 32) x32).put (some 33) x33).put (some 34) x34).put (some 35) x35).put (some 36) x36).put (some 37) x37).put (some 38) x38).put (some 39) x39).put (some 40) x40).put (some 41) (.bool false) ∧ Below wr.heap.size wr w') ?_ ?_
      · refine drawn_two (fun W' => Below wr.heap.size wr W' ∧ W'.cell? ⟨b1, o1 + k * 3, none⟩ = some (.int .i64 bs[k].v) ∧ W'.cell? ⟨b1, o1 + k * 3 + 1, none⟩ = some (.int .i64 bs[k].t.h) ∧ W'.cell? ⟨b1, o1 + k * 3 + 2, none⟩ = some (.slice a1 bs[k].t.args.length d1) ∧ W'.cell? ⟨b2, o2 + k * 3, none⟩ = some (.int .i64 bs[k].v) ∧ W'.cell? ⟨b2, o2 + k * 3 + 1, none⟩ = some (.int .i64 bs[k].t.h) ∧ W'.cell? ⟨b2, o2 + k * 3 + 2, none⟩ = some (.slice a2 bs[k].t.args.length d2)) [.take 0, .take 1, .take 2, .take 3, .take 4, .take 5, .take 6, .take 7, .take 8, .take 9, .take 10, .take 11, .take 12, .take 13, .take 14, .take 15, .take 16, .take 17, .take 18, .take 19, .take 20, .take 21, .one 22, .take 23, .take 24] (by kernel_rfl) (by kernel_rfl) (by kernel_rfl) (by kernel_rfl) (fun _ _ _ _ _ h => h) (hS _ (Below.refl _ _).drew) ?_
        clear p0 p1 p2 q0 q1 q2
        iterate 22 (refine p_take (v := ?_) rfl (by rfl) ?_ ?_; rotate_left; (intro w hS; obtain ⟨-, S1, S2, S3, S4, S5, S6⟩ := hS; go_simp; try with_reducible rfl); simp only [Act.put, List.setIfInBounds_toArray, List.set_cons_zero, List.set_cons_succ])
        refine p_one rfl (by rfl) ?_
        intro K hK
        go_simp
        refine (same_calls bs[k].t bs[k].t A A2 _ _ _ _ _ hm hm (pt.below (Below.refl _ _).drew) (qt.below (Below.refl _ _).drew)).mono ?_
        rw [sameB_self]
        rintro e x1 ⟨rfl, h1⟩
        have h1' := more_below (Below.refl wr.heap.size wr).drew h1
        refine hK.out _ _ (hS _ h1') ?_
        clear hK K h1
        try simp only [Act.put, List.setIfInBounds_toArray, List.set_cons_zero, List.set_cons_succ]
        iterate 2 (refine p_take (v := ?_) rfl (by rfl) ?_ ?_; rotate_left; (intro w hS; obtain ⟨-, S1, S2, S3, S4, S5, S6⟩ := hS; go_simp; try with_reducible rfl); simp only [Act.put, List.setIfInBounds_toArray, List.set_cons_zero, List.set_cons_succ])
        refine p_done ⟨.slice (some ⟨b1, o1, none⟩) bs.length c1, .int .i64 k, .pointer (some ⟨b1, o1 + k * 3, none⟩), .pointer (some ⟨b1, o1 + k * 3, none⟩), .int .i64 bs[k].v, .slice (some ⟨b2, o2, none⟩) bs.length c2, .int .i64 k, .pointer (some ⟨b2, o2 + k * 3, none⟩), .pointer (some ⟨b2, o2 + k * 3, none⟩), .int .i64 bs[k].v, .bool false, .bool false, .slice (some ⟨b1, o1, none⟩) bs.length c1, .int .i64 k, .pointer (some ⟨b1, o1 + k * 3, none⟩), .pointer (some ⟨b1, o1 + k * 3 + 1, none⟩), .agg #[.int .i64 bs[k].t.h, .slice a1 bs[k].t.args.length d1], .slice (some ⟨b2, o2, none⟩) bs.length c2, .int .i64 k, .pointer (some ⟨b2, o2 + k * 3, none⟩), .pointer (some ⟨b2, o2 + k * 3 + 1, none⟩), .agg #[.int .i64 bs[k].t.h, .slice a2 bs[k].t.args.length d2], .bool true, .bool false, ?_, h1'⟩
        try simp only [Act.put, List.setIfInBounds_toArray, List.set_cons_zero, List.set_cons_succ]
        try rfl
      rintro _ W2 ⟨x17, x18, x19, x20, x21, x22, x23, x24, x25, x26, x27, x28, x29, x30, x31, x32, x33, x34, x35, x36, x37, x38, x39, x40, rfl, hW2⟩
      simp only [Act.put, List.setIfInBounds_toArray, List.set_cons_zero, List.set_cons_succ]
      have hB2 := hB.trans (hW2.mono hB.size)
      clear hS p0 p1 p2 q0 q1 q2 pt qt
      go_wp2
      go_roundw
      case rel => exact ⟨k + 1, by omega, by go_num, hB2⟩
      case measure => simp [intOf]; omega
    · obtain rfl : k = bs.length := by omega
      clear hlt hk
      go_wp2
      go_ret
      exact ⟨rfl, hB⟩
end Go.Proofs.Ythplndalbfcbbaa
