/- The reference's layer 3: shift, end, Apply, Shift. -/
import Derived.Test.YthplndalbfcbbaaPut
set_option linter.unusedSimpArgs false
set_option linter.unusedVariables false
namespace Go.Proofs.Ythplndalbfcbbaa
open Go.RowKit

mutual
def shiftT (y : Int) : Tm → Tm
  | .node h l => if h < 0 then .node (h - y) [] else .node h (shiftL y l)
def shiftL (y : Int) : List Tm → List Tm
  | [] => []
  | t :: ts => shiftT y t :: shiftL y ts
end
theorem shiftT_neg (y : Int) (t : Tm) (h : t.h < 0) : shiftT y t = .node (t.h - y) [] := by cases t; simp only [Tm.h] at h ⊢; simp [shiftT, h]
theorem shiftT_pos (y : Int) (t : Tm) (h : ¬ t.h < 0) : shiftT y t = .node t.h (shiftL y t.args) := by cases t; simp only [Tm.h, Tm.args] at h ⊢; rw [shiftT, if_neg h]
theorem shiftL_map (y : Int) (l : List Tm) : shiftL y l = l.map (shiftT y) := by induction l <;> simp_all [shiftL]

set_option maxHeartbeats 2000000 in
theorem shift_calls (y : Int) (hy0 : 0 ≤ y) (hy1 : y ≤ 1000000000) (n0 : Nat) : ∀ (t : Tm) (A : Nat → Prop) (h : Int) (s : Value) (w : World), t.size ≤ n0 → (∀ b, A b → b < w.heap.size) → t.good = true → IsTm A w h s t →
    Calls Try.prog 91 #[.agg #[.int .i64 h, s], .int .i64 y] w fun e w' => Gives A w (shiftT y t) e w' := by
  induction n0 with
  | zero => intro t; cases t; intro A h s w ht; simp [Tm.size] at ht
  | succ n0 ih =>
    rintro t A h s w ht hA hgood hs
    obtain ⟨rfl, a, c, rfl, hlc, hc⟩ := hs.shape
    obtain ⟨hh, hl8, hkids⟩ := good_args hgood
    have hsz := hide t.size_eq
    have hl : t.args.length ≤ 9223372036854775807 := by omega
    go_enter Try.func91, Try.ntmps91
    refine seq_cut (fun a' w' => a' = { tmps := #[.agg #[.int .i64 t.h, .slice a t.args.length c], .int .i64 y, .pointer (some ⟨w.heap.size, 0, none⟩), undef, .pointer (some ⟨w.heap.size + 1, 0, none⟩), undef, undef, undef, undef, undef, undef, undef, undef, undef, undef, undef, undef, undef, undef, undef, undef, undef, undef, undef, undef, undef, undef, undef, undef, undef, undef, undef, undef, undef, undef, undef, undef, undef], defers := [] } ∧ w' = (w.alloc (.cells #[.int .i64 t.h, .slice a t.args.length c] 25)).alloc (.cells #[.int .i64 0, .slice none 0 0] 25)) ?_ ?_
    · go_wp2
      first | done | exact ⟨rfl, rfl⟩ | exact ⟨trivial, trivial⟩
    rintro _ W ⟨rfl, HW⟩
    have hWa : W = allocs w [.cells #[.int .i64 t.h, .slice a t.args.length c] 25, .cells #[.int .i64 0, .slice none 0 0] 25] := HW
    have hB : Below w.heap.size w W := by rw [hWa]; exact allocs_below _ _
    have hsW : W.heap.size = w.heap.size + 2 := by rw [hWa]; exact allocs_size _ _
    have b0 : W.heap[w.heap.size]? = some (.cells #[.int .i64 t.h, .slice a t.args.length c] 25 (0, 0)) := by rw [hWa]; exact allocs_get _ _ 0 _ rfl
    have b1 : W.heap[w.heap.size + 1]? = some (.cells #[.int .i64 0, .slice none 0 0] 25 (0, 0)) := by rw [hWa]; exact allocs_get _ _ 1 _ rfl
    clear HW hWa
    have HsW := hide hsW
    clear hsW
    obtain ⟨-, z0, z1, -, -⟩ := box2 b0
    by_cases hneg : t.h < 0
    · have HP := hide (shiftT_neg y t hneg)
      obtain ⟨-, y0, y1, y2, y3⟩ := box2 b1
      obtain ⟨-, q0, q1, -, -⟩ := box2 (box2_set b1 (.int .i64 (t.h - y)) (.slice none 0 0))
      have hBe := set2_below (b := w.heap.size + 1) hB (by omega) (.int .i64 (t.h - y)) (.slice none 0 0)
      go_wp2
      exact bodyPost_ret (v := .agg #[.int .i64 (t.h - y), .slice none 0 0]) (by simp [results, Try.results91, go_sem, q0, q1]) rfl (by rw [HP.out]; exact ⟨_, rfl, Terms.nil _ _, hBe⟩)
    · have HP := hide (shiftT_pos y t hneg)
      have hl2 : (shiftL y t.args).length = t.args.length := by rw [shiftL_map]; simp
      have HL2 := hide hl2
      clear hl2
      go_wp2
      go_loopw [6] (fun i wr => ∃ k v, k ≤ t.args.length ∧ i = .int .i64 k ∧ Build (fun b => A b ∨ b = w.heap.size + 1) w wr W.heap.size (W.heap.size + 1) 25 25 t.h v (((shiftL y t.args).take k).map Tm.d) ∧ wr.heap[w.heap.size]? = some (.cells #[.int .i64 t.h, .slice a t.args.length c] 25 (0, 0)) ∧ wr.heap[w.heap.size + 1]? = some (.cells #[.int .i64 0, .slice none 0 0] 25 (0, 0))) (fun i _ => t.args.length - (intOf i).toNat)
      case atStart =>
        have := HsW.out
        exact ⟨0, .slice none 0 0, by omega, rfl, ⟨hB.alloc hB.size _, World.alloc_heap_new _ _, OwnD.nil _ _ _ _ _, by omega, by omega, by simp⟩, (Below.heap_alloc _ _ _ (by omega)).trans b0, (Below.heap_alloc _ _ _ (by omega)).trans b1⟩
      case round =>
        obtain ⟨k, v, hk, rfl, hbd, x0, x1⟩ := hrel
        obtain ⟨xw, y0, y1, -, -⟩ := box2 x0
        by_cases hlt : k < t.args.length
        · obtain ⟨b, off, a', c', rfl, hbs, hbA, g0, g1, g2⟩ := hs.2.get k hlt
          have hts : t.args[k].size ≤ n0 := by have := hsz.out; have := Tm.size_get t.args k hlt; omega
          have hkg := hkids k hlt
          have HsW' := HsW.out
          have hlenk : (((shiftL y t.args).take k).map Tm.d).length = k := by have := HL2.out; simp; omega
          have HLK := hide hlenk
          obtain ⟨av, cv, hv⟩ := hbd.own.shape
          rw [hlenk] at hv
          clear hlenk
          have HSW := hide HsW'
          have hbo := hbd.box
          obtain ⟨-, u0, u1, u2, u3⟩ := box2 hbo
          have CL : ∀ W', Below W.heap.size wr W' → Below w.heap.size w W' ∧ W'.cell? ⟨w.heap.size, 1, none⟩ = some (.slice (some ⟨b, off, none⟩) t.args.length c) ∧ W'.cell? ⟨b, off + k * 2, none⟩ = some (.int .i64 t.args[k].h) ∧ W'.cell? ⟨b, off + k * 2 + 1, none⟩ = some (.slice a' t.args[k].args.length c') := by
            intro W' hW
            have hB' := hbd.below
            exact ⟨hB'.trans (hW.mono (by omega)), (hW.cell (p := ⟨w.heap.size, 1, none⟩) (by show w.heap.size < _; omega)).trans y1,
              (hW.cell (p := ⟨b, off + k * 2, none⟩) (by show b < _; omega)).trans ((hB'.cell (p := ⟨b, off + k * 2, none⟩) hbs).trans g0), (hW.cell (p := ⟨b, off + k * 2 + 1, none⟩) (by show b < _; omega)).trans ((hB'.cell (p := ⟨b, off + k * 2 + 1, none⟩) hbs).trans g1)⟩
          clear HsW'
          subst hv
          go_wp2
          refine drawn_until (fun W' => Below w.heap.size w W' ∧ W'.cell? ⟨w.heap.size, 1, none⟩ = some (.slice (some ⟨b, off, none⟩) t.args.length c) ∧ W'.cell? ⟨b, off + k * 2, none⟩ = some (.int .i64 t.args[k].h) ∧ W'.cell? ⟨b, off + k * 2 + 1, none⟩ = some (.slice a' t.args[k].args.length c'))
            (fun W' => W'.cell? ⟨W.heap.size, 1, none⟩ = some (.slice av k cv)) 10 [(0, 0), (1, 1), (2, 0), (3, 0), (4, 0), (5, 0), (6, 0), (7, 0), (8, 2), (9, 2), (10, 3), (11, 0), (12, 3)] (by kernel_rfl) (by kernel_rfl) (by kernel_rfl) (by kernel_rfl) (fun _ _ _ _ _ h => h) (CL _ (Below.refl _ _).drew) u1 ?_
          iterate 1 (refine v_take (v := ?_) rfl (by rfl) ?_ ?_; rotate_left; (intro w hS; obtain ⟨-, hS1, hS2, hS3⟩ := hS; go_simp; try with_reducible rfl); simp only [Act.put, List.setIfInBounds_toArray, List.set_cons_zero, List.set_cons_succ])
          iterate 1 (refine v_takeD (v := ?_) rfl (by rfl) ?_ ?_; rotate_left; (intro w hS; obtain ⟨-, hS1⟩ := hS; go_simp; try with_reducible rfl); simp only [Act.put, List.setIfInBounds_toArray, List.set_cons_zero, List.set_cons_succ])
          iterate 6 (refine v_take (v := ?_) rfl (by rfl) ?_ ?_; rotate_left; (intro w hS; obtain ⟨-, hS1, hS2, hS3⟩ := hS; go_simp; try with_reducible rfl); simp only [Act.put, List.setIfInBounds_toArray, List.set_cons_zero, List.set_cons_succ])
          refine v_do2 rfl (by rfl) ?_
          intro K hK
          go_simp
          refine (ih t.args[k] (fun b => ((A b ∨ b = w.heap.size + 1) ∨ b = W.heap.size) ∨ (Value.slice av k cv).ownBlock = some b) _ _ _ hts (fun b hb => ?_) hkg (IsTm.below (A := fun b => ((A b ∨ b = w.heap.size + 1) ∨ b = W.heap.size) ∨ (Value.slice av k cv).ownBlock = some b) (IsTm.bar (⟨rfl, g2⟩ : IsTm A w _ _ _) (fun b hb h => ?_)) hbd.below.drew)).mono ?_
          · have := hbd.lt; have := hbd.base
            show b < wr.heap.size
            rcases hb with ((hb | hb) | hb) | hb
            · have := hA b hb; have := hbd.old; omega
            · have := HSW.out; omega
            · omega
            · exact (hbd.ownlt b hb).2
          · have := hbd.old; have := hbd.lt
            rcases h with ((h | h) | h) | h
            · exact h
            · omega
            · omega
            · have := hbd.ownlt b h; omega
          rintro e w1 ⟨s1, rfl, hT, h1⟩
          obtain ⟨a1, c1, hs1, -, -⟩ := hT.shape
          subst hs1
          have h1' : Below wr.heap.size wr w1 := more_below (Below.refl _ _).drew h1
          clear h1
          have hbd1 := hbd.later h1'
          obtain ⟨-, v0, v1, -, -⟩ := box2 hbd1.box
          have hbl : W.heap.size ≤ wr.heap.size := by have := hbd.lt; have := hbd.base; omega
          have hba : W.heap.size + 1 ≤ w1.heap.size := hbd1.base
          have h1b : Below W.heap.size wr w1 := h1'.mono hbl
          refine hK.out _ _ (CL _ h1b) v1 ?_
          clear hK K
          refine v_do2 rfl (by rfl) ?_
          intro K hK
          go_simp
          refine hK.out _ _ (CL _ (h1b.alloc (by omega) _)) ((World.cell?_alloc_lt _ _ _ (by show W.heap.size < _; omega)).trans v1) ?_
          clear hK K
          refine v_do3 rfl (by rfl) ?_
          intro K hK
          refine app_op (.tmp 26) (.tmp 34) 23 rfl (W.heap.size + 1) 25 (.agg #[.int .i64 0, .slice none 0 0]) 32 Try.underlying23 (by kernel_rfl) rfl (v := .slice av k cv) (d := (shiftT y t.args[k]).d) rfl rfl hbd1.own (repTm.2 ⟨_, rfl, hT⟩) rfl rfl (by rw [HLK.out]; unfold maxLen; omega) (by rw [HLK.out]; omega) hba ?_
          intro v' w2 o1 k1 o2
          obtain ⟨av', cv', o2⟩ := o2
          rw [HLK.out] at o2
          subst o2
          have h2b : Below W.heap.size wr w2 := h1b.trans ((hbd1.grow k1).mono (by omega))
          have hbd2 := hbd1.step k1 o1
          obtain ⟨-, -, v3, -, v4⟩ := box2 (k1.obj (fun e => by have := hbd1.ownlt _ e; omega) hbd1.box)
          refine hK.out _ _ (CL _ h2b) ?_
          clear hK K
          iterate 1 (refine v_take (v := ?_) rfl (by rfl) ?_ ?_; rotate_left; (intro w hS; obtain ⟨-, hS1, hS2, hS3⟩ := hS; go_simp; try with_reducible rfl); simp only [Act.put, List.setIfInBounds_toArray, List.set_cons_zero, List.set_cons_succ])
          refine v_do3 rfl (by rfl) ?_
          intro K hK
          go_simp
          refine hK.out _ _ (CL _ (h2b.setCell (p := ⟨W.heap.size, 1, none⟩) (Nat.le_refl _) _)) ?_
          clear hK K CL
          refine v_done ?_
          have hds : ((shiftL y t.args).take k).map Tm.d ++ [(shiftT y t.args[k]).d] = ((shiftL y t.args).take (k + 1)).map Tm.d := by
            rw [shiftL_map, List.take_succ_eq_append_getElem (by simpa using hlt)]; simp
          rw [hds] at hbd2
          have x0' : (w2.setCell ⟨W.heap.size, 1, none⟩ (.slice av' (k + 1) cv')).heap[w.heap.size]? = _ := (Below.heap_setCell _ _ _ _ (by show w.heap.size ≠ W.heap.size; have := HSW.out; omega)).trans ((h2b.block _ (by have := HSW.out; omega)).trans x0)
          have x1' : (w2.setCell ⟨W.heap.size, 1, none⟩ (.slice av' (k + 1) cv')).heap[w.heap.size + 1]? = _ := (Below.heap_setCell _ _ _ _ (by show w.heap.size + 1 ≠ W.heap.size; have := HSW.out; omega)).trans ((h2b.block _ (by have := HSW.out; omega)).trans x1)
          clear hds v3 v4 v0 v1 u0 u1 u2 u3 y0 y1
          go_wp2
          go_roundw
          case rel => exact ⟨k + 1, _, by omega, by go_num, hbd2, x0', x1'⟩
          case measure => simp [intOf]; omega
        · have hk2 : k = t.args.length := by omega
          have HT := hide (show Terms (fun b => A b ∨ b = w.heap.size + 1) wr v (shiftT y t).args by
            rw [HP.out]
            have h9 := hbd.terms (fun b h => by have := HsW.out; rcases h with h | h; (have := hA b h; omega); omega)
            rwa [List.take_of_length_le (by rw [HL2.out]; omega)] at h9)
          have hlenk : (((shiftL y t.args).take k).map Tm.d).length = k := by have := HL2.out; simp; omega
          obtain ⟨av, cv, hv⟩ := hbd.own.shape
          rw [hlenk] at hv
          subst hv
          obtain ⟨-, u0, u1, u2, u3⟩ := box2 hbd.box
          obtain ⟨-, q0, q1, q2, q3⟩ := box2 x1
          have hBe := set2_below (b := w.heap.size + 1) hbd.below (by omega) (.int .i64 t.h) (.slice av k cv)
          have hTe := HT.out.keep (S := fun b => b ≠ w.heap.size + 1) (((Keep.refl _ wr).setCell (p := ⟨w.heap.size + 1, 0, none⟩) (by simp) (.int .i64 t.h)).setCell (p := ⟨w.heap.size + 1, 1, none⟩) (by simp) (.slice av k cv)) (fun b _ hb' e => hb' (.inr e))
          obtain ⟨-, r0, r1, -, -⟩ := box2 (box2_set x1 (.int .i64 t.h) (.slice av k cv))
          clear hk2 hlenk
          go_wp2
          exact bodyPost_ret (v := .agg #[.int .i64 t.h, .slice av k cv]) (by simp [results, Try.results91, go_sem, r0, r1]) rfl ⟨_, by rw [HP.out]; rfl, hTe.bar (fun _ _ h => .inl h), hBe⟩
end Go.Proofs.Ythplndalbfcbbaa
