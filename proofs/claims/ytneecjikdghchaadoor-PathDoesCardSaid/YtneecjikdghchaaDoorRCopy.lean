/- elenchusref01.Copy, walked. -/
import Derived.Test.YtneecjikdghchaaDoorGives
import Derived.Test.YtneecjikdghchaaDoorDraw2
set_option linter.unusedSimpArgs false
set_option linter.unusedVariables false
namespace Go.Proofs.YtneecjikdghchaaDoor
open Go.RowKit

set_option maxHeartbeats 8000000 in
set_option maxRecDepth 100000 in
theorem rcopy_calls (n0 : Nat) : ∀ (t : Tm) (A B : Nat → Prop) (h : Int) (s : Value) (w : World), t.size ≤ n0 → t.size ≤ 1000000 → (∀ b, B b → b < w.heap.size) → IsTm A w h s t →
    Calls Tryd.prog 42 #[.agg #[.int .i64 h, s]] w (GivesB B w t) := by
  induction n0 with
  | zero => intro t _ _ _ _ _ ht; have := t.size_eq; omega
  | succ n0 ih =>
    rintro t A B h s w ht hm hB hs
    obtain ⟨rfl, a, c, rfl, hlc, hc⟩ := hs.shape
    have HSZ := hide t.size_eq
    have hl := Tm.sizes_length t.args
    have HHB := hide hB
    have HM := hide hm
    have HS := hide hs.2
    have HW := hide (allocs_below w [.cells #[.int .i64 t.h, .slice a t.args.length c] 24, .cells #[.int .i64 0, .slice none 0 0] 24, .cells #[.int .i64 t.h, .slice none 0 0] 24])
    have HZ := hide (allocs_size w [.cells #[.int .i64 t.h, .slice a t.args.length c] 24, .cells #[.int .i64 0, .slice none 0 0] 24, .cells #[.int .i64 t.h, .slice none 0 0] 24])
    have HK0 := hide (allocs_get w [.cells #[.int .i64 t.h, .slice a t.args.length c] 24, .cells #[.int .i64 0, .slice none 0 0] 24, .cells #[.int .i64 t.h, .slice none 0 0] 24] 0 _ rfl)
    have HK1 := hide (allocs_get w [.cells #[.int .i64 t.h, .slice a t.args.length c] 24, .cells #[.int .i64 0, .slice none 0 0] 24, .cells #[.int .i64 t.h, .slice none 0 0] 24] 1 _ rfl)
    have HK2 := hide (allocs_get w [.cells #[.int .i64 t.h, .slice a t.args.length c] 24, .cells #[.int .i64 0, .slice none 0 0] 24, .cells #[.int .i64 t.h, .slice none 0 0] 24] 2 _ rfl)
    clear hm hB hs
    go_enter Tryd.func42, Tryd.ntmps42
    go_wp2
    have hgn : ((w.alloc (.cells #[.int .i64 t.h, .slice a t.args.length c] 24)).alloc (.cells #[.int .i64 0, .slice none 0 0] 24)).alloc (.cells #[.int .i64 t.h, .slice none 0 0] 24) = allocs w [.cells #[.int .i64 t.h, .slice a t.args.length c] 24, .cells #[.int .i64 0, .slice none 0 0] 24, .cells #[.int .i64 t.h, .slice none 0 0] 24] := rfl
    rw [hgn]
    clear hgn
    generalize allocs w [.cells #[.int .i64 t.h, .slice a t.args.length c] 24, .cells #[.int .i64 0, .slice none 0 0] 24, .cells #[.int .i64 t.h, .slice none 0 0] 24] = W at *
    generalize hbo : w.heap.size + 1 + 1 = bo at *
    have HBO := hide hbo
    clear hbo
    go_loopw [4] (fun i wr => ∃ (k : Nat) (v : Value), k ≤ t.args.length ∧ i = .int .i64 k ∧ Hid (Build (fun b => B b ∨ b = w.heap.size + 1) w wr bo (bo + 1) 24 24 t.h v ((t.args.take k).map Tm.d)) ∧ Hid (wr.heap[w.heap.size + 1]? = some (.cells #[.int .i64 0, .slice none 0 0] 24 (0, 0))) ∧ Hid (wr.heap[w.heap.size]? = some (.cells #[.int .i64 t.h, .slice a t.args.length c] 24 (0, 0)))) (fun i _ => t.args.length - (intOf i).toNat)
    case atStart =>
      have h1 := HBO.out
      have h2 := HZ.out
      simp only [List.length_cons, List.length_nil] at h2
      exact ⟨0, .slice none 0 0, by omega, rfl, hide ⟨HW.out, HK2.out, OwnD.nil _ _ _ _ _, by omega, by omega, by omega⟩, hide HK1.out, hide HK0.out⟩
    case round =>
      obtain ⟨k, v, hk, rfl, hbd, hx1, hx0⟩ := hrel
      obtain ⟨xl, y0, y1, -, -⟩ := box2 hx0.out
      by_cases hlt : k < t.args.length
      · obtain ⟨b, off, a', c', rfl, hbs, -, e0, e1, et⟩ := HS.out.get k hlt
        have hts : t.args[k].size ≤ n0 := by have := HSZ.out; have := Tm.size_get t.args k hlt; omega
        have htm : t.args[k].size ≤ 1000000 := by have := HSZ.out; have := HM.out; have := Tm.size_get t.args k hlt; omega
        have HET := hide et
        have HTK := hide (show (t.args.take k).map Tm.d ++ [t.args[k].d] = (t.args.take (k + 1)).map Tm.d by rw [List.take_succ_eq_append_getElem hlt, List.map_append]; rfl)
        have HCL := hide (show ∀ W', Below bo wr W' → Below w.heap.size w W' ∧ W'.cell? ⟨w.heap.size, 1, none⟩ = some (.slice (some ⟨b, off, none⟩) t.args.length c) ∧ W'.cell? ⟨b, off + k * 2, none⟩ = some (.int .i64 t.args[k].h) ∧ W'.cell? ⟨b, off + k * 2 + 1, none⟩ = some (.slice a' t.args[k].args.length c') from fun W' hW => by
          have h9 := HBO.out
          have hww := hbd.out.below.trans (hW.mono (show w.heap.size ≤ bo by omega))
          exact ⟨hww, (hW.cell (p := ⟨w.heap.size, 1, none⟩) (by show w.heap.size < _; omega)).trans y1, (hww.cell (p := ⟨b, off + k * 2, none⟩) hbs).trans e0, (hww.cell (p := ⟨b, off + k * 2 + 1, none⟩) hbs).trans e1⟩)
        obtain ⟨av, cv, hv⟩ := hbd.out.own.shape
        have HLK := hide (show ((t.args.take k).map Tm.d).length = k by simp; omega)
        rw [HLK.out] at hv
        subst hv
        obtain ⟨-, -, u1, -, -⟩ := box2 hbd.out.box
        have HNB := hide (show (k + 1) * 32 ≤ 140737488355328 by have := HSZ.out; have := HM.out; omega)
        clear et e0 e1 hk hl
        go_wp2
        refine drawn_until (fun W' => Below w.heap.size w W' ∧ W'.cell? ⟨w.heap.size, 1, none⟩ = some (.slice (some ⟨b, off, none⟩) t.args.length c) ∧ W'.cell? ⟨b, off + k * 2, none⟩ = some (.int .i64 t.args[k].h) ∧ W'.cell? ⟨b, off + k * 2 + 1, none⟩ = some (.slice a' t.args[k].args.length c')) (fun W' => W'.cell? ⟨bo, 1, none⟩ = some (.slice av k cv)) 9 [(0, 0), (1, 1), (2, 0), (3, 0), (4, 0), (5, 0), (6, 0), (7, 2), (8, 2), (9, 3), (10, 0), (11, 3)] (by kernel_rfl) (by kernel_rfl) (by kernel_rfl) (by kernel_rfl) (fun _ _ _ _ _ h => h) (HCL.out _ (Below.refl _ _).drew) u1 ?_
        iterate 1 (refine v_take (v := ?_) rfl (by rfl) ?_ ?_; rotate_left; (intro w hS; obtain ⟨-, hS1, hS2, hS3⟩ := hS; go_simp; try with_reducible rfl); simp only [Act.put, List.setIfInBounds_toArray, List.set_cons_zero, List.set_cons_succ])
        iterate 1 (refine v_takeD (v := ?_) rfl (by rfl) ?_ ?_; rotate_left; (intro w hS; obtain ⟨-, hS1⟩ := hS; go_simp; try with_reducible rfl); simp only [Act.put, List.setIfInBounds_toArray, List.set_cons_zero, List.set_cons_succ])
        iterate 5 (refine v_take (v := ?_) rfl (by rfl) ?_ ?_; rotate_left; (intro w hS; obtain ⟨-, hS1, hS2, hS3⟩ := hS; go_simp; try with_reducible rfl); simp only [Act.put, List.setIfInBounds_toArray, List.set_cons_zero, List.set_cons_succ])
        refine v_do2 rfl (by rfl) ?_
        intro K hK
        go_simp
        have hwd : Below w.heap.size w wr.drew := hbd.out.below.drew
        refine (ih t.args[k] A (fun b => ((B b ∨ b = w.heap.size + 1) ∨ b = bo) ∨ (Value.slice av k cv).ownBlock = some b) _ _ wr.drew hts htm (fun b hb => ?_) ⟨rfl, HET.out.below hwd⟩).mono ?_
        · have := hbd.out.lt; have := hbd.out.base; have := hbd.out.old; have := HBO.out
          show b < wr.heap.size
          rcases hb with ((hb | hb) | hb) | hb
          · have := HHB.out b hb; omega
          · omega
          · omega
          · exact (hbd.out.ownlt b hb).2
        rintro e w1 ⟨s1, rfl, hT, h1⟩
        obtain ⟨a1, c1, hs1, -, -⟩ := hT.shape
        subst hs1
        have h1' : Below wr.heap.size wr w1 := more_below (Below.refl _ _).drew h1
        have HBD1 := hide (hbd.out.later h1')
        have HX1 := hide ((h1'.block _ (Array.getElem?_eq_some_iff.1 hx1.out).1).trans hx1.out)
        have HX0 := hide ((h1'.block _ (Array.getElem?_eq_some_iff.1 hx0.out).1).trans hx0.out)
        have hbl : bo ≤ wr.heap.size := by have := hbd.out.lt; have := hbd.out.base; omega
        have HC1 := hide (h1'.mono hbl)
        have HOL := hide HBD1.out.base
        obtain ⟨-, -, v1, -, -⟩ := box2 HBD1.out.box
        have hblt : bo < w1.heap.size := by have := HBD1.out.lt; have := HBD1.out.base; omega
        refine hK.out _ _ (HCL.out _ HC1.out) v1 ?_
        clear hK K h1 h1' hbd hx0 hx1 hwd
        refine v_do2 rfl (by rfl) ?_
        intro K hK
        go_simp
        refine hK.out _ _ (HCL.out _ (HC1.out.alloc (by omega) _)) ((World.cell?_alloc_lt _ _ _ (by show bo < _; omega)).trans v1) ?_
        clear hK K
        refine v_do3 rfl (by rfl) ?_
        intro K hK
        refine app_op (.tmp 16) (.tmp 23) 22 rfl (bo + 1) 24 (.agg #[.int .i64 0, .slice none 0 0]) 32 Tryd.underlying22 (by kernel_rfl) rfl (v := .slice av k cv) (d := t.args[k].d) rfl rfl HBD1.out.own (repTm.2 ⟨_, rfl, hT⟩) rfl rfl (by rw [HLK.out]; have := HNB.out; unfold maxLen; omega) (by rw [HLK.out]; exact HNB.out) HOL.out ?_
        intro v' w2 o1 k1 o2
        obtain ⟨av', cv', o2⟩ := o2
        rw [HLK.out] at o2
        subst o2
        have HC2 := hide (HC1.out.trans ((HBD1.out.grow k1).mono (by omega)))
        have hbd2 := HBD1.out.step k1 o1
        rw [HTK.out] at hbd2
        have HBD2 := hide hbd2
        have hb2 := k1.obj (fun e => by have := HBD1.out.ownlt _ e; omega) HBD1.out.box
        obtain ⟨-, -, v3, -, v4⟩ := box2 hb2
        have HX2 := hide (show (w2.setCell ⟨bo, 1, none⟩ (.slice av' (k + 1) cv')).heap[w.heap.size + 1]? = _ from (Below.heap_setCell _ _ _ _ (by show w.heap.size + 1 ≠ bo; have := HBO.out; omega)).trans ((k1.obj (fun e => by have := HBD1.out.ownlt _ e; have := HBO.out; omega) HX1.out)))
        have HX3 := hide (show (w2.setCell ⟨bo, 1, none⟩ (.slice av' (k + 1) cv')).heap[w.heap.size]? = _ from (Below.heap_setCell _ _ _ _ (by show w.heap.size ≠ bo; have := HBO.out; omega)).trans ((k1.obj (fun e => by have := HBD1.out.ownlt _ e; have := HBO.out; omega) HX0.out)))
        refine hK.out _ _ (HCL.out _ HC2.out) ?_
        clear hK K hbd2 hb2 o1 k1
        iterate 1 (refine v_take (v := ?_) rfl (by rfl) ?_ ?_; rotate_left; (intro w hS; go_simp; try with_reducible rfl); simp only [Act.put, List.setIfInBounds_toArray, List.set_cons_zero, List.set_cons_succ])
        refine v_do3 rfl (by rfl) ?_
        intro K hK
        go_simp
        refine hK.out _ _ (HCL.out _ (HC2.out.setCell (p := ⟨bo, 1, none⟩) (Nat.le_refl _) _)) ?_
        clear hK K
        refine v_done ?_
        clear v3 v4 v1 u1 HBD1 HX1 HX0 HC1 HC2 HOL hT HCL y0 y1
        go_wp2
        go_roundw
        case rel => exact ⟨k + 1, _, by omega, by go_num, HBD2, HX2, HX3⟩
        case measure => simp [intOf]; omega
      · obtain rfl : k = t.args.length := by omega
        have hb := hbd.out
        rw [List.take_length] at hb
        have hT := hb.terms (fun b h => by have := HBO.out; rcases h with h | h; (have := HHB.out b h; omega); omega)
        obtain ⟨av, cv, hv⟩ := hb.own.shape
        rw [List.length_map] at hv
        subst hv
        obtain ⟨-, u0, u1, -, -⟩ := box2 hb.box
        obtain ⟨x9, z0, z1, z2, z3⟩ := box2 hx1.out
        have HBE := hide (set2_below (b := w.heap.size + 1) hb.below (Nat.le_succ _) (.int .i64 t.h) (.slice av t.args.length cv))
        have HTE := hide (hT.keep (S := fun b => b ≠ w.heap.size + 1) (((Keep.refl _ wr).setCell (p := ⟨w.heap.size + 1, 0, none⟩) (by simp) (.int .i64 t.h)).setCell (p := ⟨w.heap.size + 1, 1, none⟩) (by simp) (.slice av t.args.length cv)) (fun b _ hb' e => hb' (.inr e)))
        obtain ⟨-, r0, r1, -, -⟩ := box2 (box2_set hx1.out (.int .i64 t.h) (.slice av t.args.length cv))
        clear hb hT hbd hx0 hx1
        go_wp2
        exact bodyPost_ret (v := .agg #[.int .i64 t.h, .slice av t.args.length cv]) (by simp [results, Tryd.results42, go_sem, r0, r1]) rfl ⟨_, rfl, HTE.out.bar (fun _ _ h => .inl h), HBE.out⟩
end Go.Proofs.YtneecjikdghchaaDoor
