/- What the proof of the law rests on: contracts of the functions, plain laws, and words. -/
import Derived.Test.YthplndalbfcbbaaKMatchUnifiesXSolver
import Derived.Test.YthplndalbfcbbaaKMatchUnifiesXSolveLaw
set_option linter.unusedSimpArgs false
set_option linter.unusedVariables false
namespace Go.Proofs.Ythplndalbfcbbaa
open Go.RowKit
theorem app_full {f : Env} {S : Sub} (hS : Solved f S) {r : Tm} (hg : r.good = true) (hf : r.h < 0 → f (-1 - r.h) = none) : app S r = .node r.h (appL S r.args) := by
  by_cases hn : r.h < 0
  · rw [app_neg hn, hS.free _ (hf hn)]
    have : r.args = [] := by cases r; exact good_var hg hn
    rw [this]
    simp only [varT, appL]
    congr 1; omega
  · exact app_pos hn
set_option maxHeartbeats 4000000 in
set_option maxRecDepth 100000 in
theorem full_calls (A0 : Nat → Prop) (sb ss : Nat) (f : Env) (S : Sub) (hS : Solved f S) (n0 : Nat) : ∀ (t : Tm) (A : Nat → Prop) (h : Int) (s : Value) (w : World), (app S t).size ≤ n0 → (∀ b, A b → b < w.heap.size) → t.good = true → SolAt A0 w sb ss f → IsTm (OldA sb A0) w h s t →
    Calls Try.prog 156 #[.pointer (some ⟨ss, 0, none⟩), .agg #[.int .i64 h, s]] w fun e w' => Gives A w (app S t) e w' := by
  induction n0 with
  | zero => intro t A h s w ht; have := (app S t).size_eq; omega
  | succ n0 ih =>
    rintro t A h s w ht hA hgood hsol hs
    obtain ⟨rfl, a, c, rfl, hlc, hc⟩ := hs.shape
    have HSO := hide hsol
    have HTS := hide hs
    have hssl := hsol.lt_size
    have hsbl := hsol.lt
    clear hsol hs
    go_enter Try.func156, Try.ntmps156
    refine seq_cut (fun a' w' => a' = { tmps := #[.pointer (some ⟨ss, 0, none⟩), .agg #[.int .i64 t.h, .slice a t.args.length c], undef, .pointer (some ⟨w.heap.size, 0, none⟩), .pointer (some ⟨w.heap.size + 1, 0, none⟩), undef, undef, undef, undef, undef, undef, undef, undef, undef, undef, undef, undef, undef, undef, undef, undef, undef, undef, undef, undef, undef, undef, undef, undef, undef, undef], defers := [] } ∧ w' = (w.alloc (.cells #[.int .i64 t.h, .slice a t.args.length c] 25)).alloc (.cells #[.int .i64 0, .slice none 0 0] 25)) ?_ ?_
    · go_wp2
      first | done | exact ⟨rfl, rfl⟩ | exact ⟨trivial, trivial⟩
    rintro _ W0 ⟨rfl, HW⟩
    have hWa : W0 = allocs w [.cells #[.int .i64 t.h, .slice a t.args.length c] 25, .cells #[.int .i64 0, .slice none 0 0] 25] := HW
    have hB : Below w.heap.size w W0 := by rw [hWa]; exact allocs_below _ _
    have hz0 : W0.heap.size = w.heap.size + 2 := by rw [hWa]; exact allocs_size _ _
    have b0 : W0.heap[w.heap.size]? = some (.cells #[.int .i64 t.h, .slice a t.args.length c] 25 (0, 0)) := by rw [hWa]; exact allocs_get _ _ 0 _ rfl
    have b1 : W0.heap[w.heap.size + 1]? = some (.cells #[.int .i64 0, .slice none 0 0] 25 (0, 0)) := by rw [hWa]; exact allocs_get _ _ 1 _ rfl
    clear HW hWa
    obtain ⟨-, z0, z1, -, -⟩ := box2 b0
    go_wp2_with fail
    refine (at_calls A0 sb ss f S hS t _ _ W0 hgood (HSO.out.below hB) (HTS.out.below hB)).mono ?_
    rintro e w1 ⟨r, s', rfl, hT, hle, hgr, hfr, hB1⟩
    obtain ⟨-, a1, c1, rfl, hlc1, hc1⟩ := hT.shape
    obtain ⟨hh, hl8, hkids⟩ := good_args hgr
    have hap : app S t = .node r.h (appL S r.args) := (leads_app (solved_resp hS) hle).trans (app_full hS hgr hfr)
    have HP := hide hap
    have hsz := hide (show Tm.sizes (appL S r.args) + 1 ≤ n0 + 1 by rw [hap, Tm.size] at ht; omega)
    have b0' := (hB1.block _ (Array.getElem?_eq_some_iff.1 b0).1).trans b0
    have b1' := (hB1.block _ (Array.getElem?_eq_some_iff.1 b1).1).trans b1
    obtain ⟨hlt0, y0, y1, y2, y3⟩ := box2 b0'
    have hWL : Hid (∀ W, W = ((w1.setCell ⟨w.heap.size, 0, none⟩ (.int .i64 r.h)).setCell ⟨w.heap.size, 1, none⟩ (.slice a1 r.args.length c1)).alloc (.cells #[.int .i64 r.h, .slice none 0 0] 25) →
        Below w.heap.size w W ∧ W.heap.size = w1.heap.size + 1 ∧ W.heap[w.heap.size]? = some (.cells #[.int .i64 r.h, .slice a1 r.args.length c1] 25 (0, 0)) ∧ W.heap[w.heap.size + 1]? = some (.cells #[.int .i64 0, .slice none 0 0] 25 (0, 0)) ∧ W.heap[w1.heap.size]? = some (.cells #[.int .i64 r.h, .slice none 0 0] 25 (0, 0)) ∧ SolAt A0 W sb ss f ∧ Terms (OldA sb A0) W (.slice a1 r.args.length c1) r.args) := by
      refine hide ?_
      rintro W rfl
      have hs1 : ((w1.setCell ⟨w.heap.size, 0, none⟩ (.int .i64 r.h)).setCell ⟨w.heap.size, 1, none⟩ (.slice a1 r.args.length c1)).heap.size = w1.heap.size := by simp [World.setCell]
      have hk0 : Keep (fun b => b ≠ w.heap.size) w1 ((w1.setCell ⟨w.heap.size, 0, none⟩ (.int .i64 r.h)).setCell ⟨w.heap.size, 1, none⟩ (.slice a1 r.args.length c1)) := ((Keep.refl _ _).setCell (p := ⟨w.heap.size, 0, none⟩) (by simp) _).setCell (p := ⟨w.heap.size, 1, none⟩) (by simp) _
      have hk : Keep (fun b => b ≠ w.heap.size) w1 (((w1.setCell ⟨w.heap.size, 0, none⟩ (.int .i64 r.h)).setCell ⟨w.heap.size, 1, none⟩ (.slice a1 r.args.length c1)).alloc (.cells #[.int .i64 r.h, .slice none 0 0] 25)) := hk0.alloc _
      have hBw := more_below hB hB1
      refine ⟨hBw.trans (hk.below (fun b hb => by omega) hBw.size), by rw [World.size_alloc, hs1], ?_, hk.obj (by omega) b1', ?_, ((HSO.out.below hB).below hB1).keep hk (fun b hb => by omega), hT.2.keep hk (fun b _ hb => by simp only [OldA, not_or] at hb; omega)⟩
      · exact (Below.heap_alloc _ _ _ (by rw [hs1]; exact hlt0)).trans (box2_set b0' _ _)
      · have := World.alloc_heap_new ((w1.setCell ⟨w.heap.size, 0, none⟩ (.int .i64 r.h)).setCell ⟨w.heap.size, 1, none⟩ (.slice a1 r.args.length c1)) (.cells #[.int .i64 r.h, .slice none 0 0] 25)
        rw [hs1] at this; exact this
    have hb5 : w.heap.size + 2 ≤ w1.heap.size := by have := hB1.size; omega
    clear hB hB1 b0 b1 b0' b1' z0 z1 hT hle hap ht
    go_wp2
    obtain ⟨BW, hsW, k0, k1, k2, hso, htr⟩ := hWL.out _ rfl
    generalize ((w1.setCell ⟨w.heap.size, 0, none⟩ (.int .i64 r.h)).setCell ⟨w.heap.size, 1, none⟩ (.slice a1 r.args.length c1)).alloc (.cells #[.int .i64 r.h, .slice none 0 0] 25) = W at *
    generalize w1.heap.size = bo at *
    have HSW := hide hsW
    have HSO1 := hide hso
    have HTR := hide htr
    have HBW := hide BW
    clear hWL hsW hso htr BW y0 y1 y2 y3
    have hl2 : (appL S r.args).length = r.args.length := appL_length _ _
    have HL2 := hide hl2
    clear hl2
    go_loopw [17] (fun i wr => ∃ k v, k ≤ r.args.length ∧ i = .int .i64 k ∧ Build (fun b => A b ∨ b = w.heap.size + 1) w wr bo (bo + 1) 25 25 r.h v (((appL S r.args).take k).map Tm.d) ∧ wr.heap[w.heap.size + 1]? = some (.cells #[.int .i64 0, .slice none 0 0] 25 (0, 0)) ∧ Hid (SolAt A0 wr sb ss f) ∧ Hid (Terms (OldA sb A0) wr (.slice a1 r.args.length c1) r.args)) (fun i _ => r.args.length - (intOf i).toNat)
    case atStart => exact ⟨0, .slice none 0 0, by omega, rfl, ⟨HBW.out, k2, OwnD.nil _ _ _ _ _, by omega, by omega, by rw [HSW.out]; omega⟩, k1, HSO1, HTR⟩
    case round =>
      obtain ⟨k, v, hk, rfl, hbd, x1, hso, htr⟩ := hrel
      by_cases hlt : k < r.args.length
      · obtain ⟨b, off, a', c', rfl, hbs, hbA, l0, l1, g2⟩ := htr.out.get k hlt
        have hts : (app S r.args[k]).size ≤ n0 := by have := hsz.out; have := arg_size (S := S) (List.getElem_mem hlt); omega
        have hkg := hkids k hlt
        have hlenk : (((appL S r.args).take k).map Tm.d).length = k := by have := HL2.out; simp; omega
        have HLK := hide hlenk
        obtain ⟨av, cv, hv⟩ := hbd.own.shape
        rw [hlenk] at hv
        clear hlenk
        have HSO2 := hso
        have HTR2 := htr
        subst hv
        go_wp2
        have hal : Below wr.heap.size wr (wr.alloc (.cells #[.int .i64 r.args[k].h, .slice a' r.args[k].args.length c'] 25)) := (Below.refl _ _).alloc (Nat.le_refl _) _
        have hbA := hbd.later hal
        have heb : (wr.alloc (.cells #[.int .i64 r.args[k].h, .slice a' r.args[k].args.length c'] 25)).heap[wr.heap.size]? = some (.cells #[.int .i64 r.args[k].h, .slice a' r.args[k].args.length c'] 25 (0, 0)) := World.alloc_heap_new _ _
        have xA1 := (hal.block _ (by have := hbd.lt; have := hbd.base; omega)).trans x1
        have hown : ∀ c, (Value.slice av k cv).ownBlock = some c → bo + 1 ≤ c ∧ c < wr.heap.size := hbd.ownlt
        have hwb : bo + 1 ≤ wr.heap.size := hbd.base
        have HSO3 := hide (HSO2.out.below hal)
        have HTR3 := hide (HTR2.out.below hal)
        have HG2 := hide (g2.below hal)
        generalize (wr.alloc (.cells #[.int .i64 r.args[k].h, .slice a' r.args[k].args.length c'] 25)) = WA at *
        clear hbd x1 l0 l1 hal hso htr HSO2 HTR2 g2
        obtain ⟨-, u0, u1, u2, u3⟩ := box2 hbA.box
        obtain ⟨heA, i0, i1, -, -⟩ := box2 heb
        have CL : ∀ W', Below w.heap.size w W' → W'.heap[wr.heap.size]? = some (.cells #[.int .i64 r.args[k].h, .slice a' r.args[k].args.length c'] 25 (0, 0)) → Below w.heap.size w W' ∧ W'.cell? ⟨wr.heap.size, 0, none⟩ = some (.int .i64 r.args[k].h) ∧ W'.cell? ⟨wr.heap.size, 1, none⟩ = some (.slice a' r.args[k].args.length c') := by
          intro W' h1 h2
          obtain ⟨-, h3, h4, -, -⟩ := box2 h2
          exact ⟨h1, h3, h4⟩
        refine drawn_until (fun W' => Below w.heap.size w W' ∧ W'.cell? ⟨wr.heap.size, 0, none⟩ = some (.int .i64 r.args[k].h) ∧ W'.cell? ⟨wr.heap.size, 1, none⟩ = some (.slice a' r.args[k].args.length c'))
          (fun W' => W'.cell? ⟨bo, 1, none⟩ = some (.slice av k cv)) 6 [(0, 0), (1, 1), (2, 0), (3, 0), (4, 2), (5, 2), (6, 3), (7, 0), (8, 3)] (by kernel_rfl) (by kernel_rfl) (by kernel_rfl) (by kernel_rfl) (fun _ _ _ _ _ h => h) (CL _ hbA.below.drew heb) u1 ?_
        iterate 1 (refine v_take (v := ?_) rfl (by rfl) ?_ ?_; rotate_left; (intro w hS; obtain ⟨-, hS1, hS2⟩ := hS; go_simp; try with_reducible rfl); simp only [Act.put, List.setIfInBounds_toArray, List.set_cons_zero, List.set_cons_succ])
        iterate 1 (refine v_takeD (v := ?_) rfl (by rfl) ?_ ?_; rotate_left; (intro w hS; obtain ⟨-, hS1⟩ := hS; go_simp; try with_reducible rfl); simp only [Act.put, List.setIfInBounds_toArray, List.set_cons_zero, List.set_cons_succ])
        iterate 2 (refine v_take (v := ?_) rfl (by rfl) ?_ ?_; rotate_left; (intro w hS; obtain ⟨-, hS1, hS2⟩ := hS; go_simp; try with_reducible rfl); simp only [Act.put, List.setIfInBounds_toArray, List.set_cons_zero, List.set_cons_succ])
        refine v_do2 rfl (by rfl) ?_
        intro K hK
        go_simp
        have hdr : Below WA.heap.size WA WA.drew := (Below.refl _ _).drew
        refine (ih r.args[k] (fun b => ((A b ∨ b = w.heap.size + 1) ∨ b = bo) ∨ (Value.slice av k cv).ownBlock = some b) _ _ _ hts (fun b hb => ?_) hkg (HSO3.out.below hdr) ((⟨rfl, HG2.out.below hdr⟩ : IsTm (OldA sb A0) _ _ _ _))).mono ?_
        · show b < WA.heap.size
          rcases hb with ((hb | hb) | hb) | hb
          · have := hA b hb; omega
          · omega
          · omega
          · have := hown b hb; omega
        rintro e w2 ⟨s1, rfl, hT, h1⟩
        obtain ⟨a1', c1', hs1, -, -⟩ := hT.shape
        subst hs1
        have h1' : Below WA.heap.size WA w2 := more_below (Below.refl _ _).drew h1
        clear h1
        have hbd1 := hbA.later h1'
        obtain ⟨-, v0, v1, -, -⟩ := box2 hbd1.box
        have hba : bo + 1 ≤ w2.heap.size := hbd1.base
        have he1 := (h1'.block _ heA).trans heb
        have hl1 := h1'.size
        refine hK.out _ _ (CL _ hbd1.below he1) v1 ?_
        clear hK K
        refine v_do2 rfl (by rfl) ?_
        intro K hK
        go_simp
        refine hK.out _ _ (CL _ (hbd1.below.alloc hbd1.below.size _) ((Below.heap_alloc _ _ _ (by omega)).trans he1)) ((World.cell?_alloc_lt _ _ _ (by show bo < _; omega)).trans v1) ?_
        clear hK K
        refine v_do3 rfl (by rfl) ?_
        intro K hK
        refine app_op (.tmp 22) (.tmp 26) 23 rfl (bo + 1) 25 (.agg #[.int .i64 0, .slice none 0 0]) 32 Try.underlying23 (by kernel_rfl) rfl (v := .slice av k cv) (d := (app S r.args[k]).d) rfl rfl hbd1.own (repTm.2 ⟨_, rfl, hT⟩) rfl rfl (by rw [HLK.out]; unfold maxLen; omega) (by rw [HLK.out]; omega) hba ?_
        intro v' w3 o1 k1' o2
        obtain ⟨av', cv', o2⟩ := o2
        rw [HLK.out] at o2
        subst o2
        have hbw2 : Below w.heap.size w w3 := hbd1.below.trans ((hbd1.grow k1').mono (by omega))
        have he2 := k1'.obj (fun e => by have := hown _ e; omega) he1
        have hbd2 := hbd1.step k1' o1
        obtain ⟨-, -, v3, -, v4⟩ := box2 (k1'.obj (fun e => by have := hown _ e; omega) hbd1.box)
        refine hK.out _ _ (CL _ hbw2 he2) ?_
        clear hK K
        iterate 1 (refine v_take (v := ?_) rfl (by rfl) ?_ ?_; rotate_left; (intro w hS; obtain ⟨-, hS1, hS2⟩ := hS; go_simp; try with_reducible rfl); simp only [Act.put, List.setIfInBounds_toArray, List.set_cons_zero, List.set_cons_succ])
        refine v_do3 rfl (by rfl) ?_
        intro K hK
        go_simp
        refine hK.out _ _ (CL _ (hbw2.setCell (p := ⟨bo, 1, none⟩) (by show w.heap.size ≤ bo; omega) _) ((Below.heap_setCell _ _ _ _ (by show wr.heap.size ≠ bo; omega)).trans he2)) ?_
        clear hK K CL
        refine v_done ?_
        have hds : ((appL S r.args).take k).map Tm.d ++ [(app S r.args[k]).d] = ((appL S r.args).take (k + 1)).map Tm.d := by
          rw [appL_map, List.take_succ_eq_append_getElem (by simpa using hlt)]; simp
        rw [hds] at hbd2
        have hkl : Keep (fun b => b < bo) WA (w3.setCell ⟨bo, 1, none⟩ (.slice av' (k + 1) cv')) := (Keep.trans (.of_below h1') (k1'.mono fun b _ hb e => by have := hown _ e; omega)).setCell (p := ⟨bo, 1, none⟩) (by simp) _
        have x1' := hkl.obj (by omega) xA1
        have HSO4 := hide (HSO3.out.keep hkl (fun b hb => by omega))
        have HTR4 := hide (HTR3.out.keep hkl (fun b _ hb => by simp only [OldA, not_or] at hb; omega))
        clear hds v3 v4 v0 v1 u0 u1 u2 u3 i0 i1 hkl
        go_wp2
        go_roundw
        case rel => exact ⟨k + 1, _, by omega, by go_num, hbd2, x1', HSO4, HTR4⟩
        case measure => simp [intOf]; omega
      · have hk2 : k = r.args.length := by omega
        have HT := hide (show Terms (fun b => A b ∨ b = w.heap.size + 1) wr v (app S t).args by
          rw [HP.out]
          have h9 := hbd.terms (fun b h => by rcases h with h | h; (have := hA b h; omega); omega)
          rwa [List.take_of_length_le (by rw [HL2.out]; omega)] at h9)
        have hlenk : (((appL S r.args).take k).map Tm.d).length = k := by have := HL2.out; simp; omega
        obtain ⟨av, cv, hv⟩ := hbd.own.shape
        rw [hlenk] at hv
        subst hv
        obtain ⟨-, u0, u1, u2, u3⟩ := box2 hbd.box
        obtain ⟨-, q0, q1, q2, q3⟩ := box2 x1
        have hBe := set2_below (b := w.heap.size + 1) hbd.below (by omega) (.int .i64 r.h) (.slice av k cv)
        have hTe := HT.out.keep (S := fun b => b ≠ w.heap.size + 1) (((Keep.refl _ wr).setCell (p := ⟨w.heap.size + 1, 0, none⟩) (by simp) (.int .i64 r.h)).setCell (p := ⟨w.heap.size + 1, 1, none⟩) (by simp) (.slice av k cv)) (fun b _ hb' e => hb' (.inr e))
        obtain ⟨-, r0, r1, -, -⟩ := box2 (box2_set x1 (.int .i64 r.h) (.slice av k cv))
        clear hk2 hlenk hso htr
        go_wp2
        exact bodyPost_ret (v := .agg #[.int .i64 r.h, .slice av k cv]) (by simp [results, Try.results156, go_sem, r0, r1]) rfl ⟨_, by rw [HP.out]; rfl, hTe.bar (fun _ _ h => .inl h), hBe⟩
end Go.Proofs.Ythplndalbfcbbaa
