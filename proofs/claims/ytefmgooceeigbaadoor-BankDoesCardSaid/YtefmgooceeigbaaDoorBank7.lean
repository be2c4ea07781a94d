/- bank: build, Term. -/
import Derived.Test.YtefmgooceeigbaaDoorBank6
import Derived.Test.YtefmgooceeigbaaDoorDraw2
set_option linter.unusedSimpArgs false
set_option linter.unusedVariables false
namespace Go.Proofs.YtefmgooceeigbaaDoor
open Go.RowKit

theorem isAt_row {R : List Rw} {t : Tm} {i : Nat} (h : IsAt R t i) : ∃ hi : i < R.length, (R[i]).1 = t.h ∧ AreAt R t.args (R[i]).2 := by
  cases t with
  | node hd l =>
    simp only [IsAt] at h
    obtain ⟨ns, h1, h2⟩ := h
    obtain ⟨h3, h4⟩ := List.getElem?_eq_some_iff.1 h1
    exact ⟨h3, by rw [h4]; rfl, by rw [h4]; exact h2⟩
theorem box2_row {w : World} {b off : Nat} {x y : Value} (h0 : w.cell? ⟨b, off, none⟩ = some x) (h1 : w.cell? ⟨b, off + 1, none⟩ = some y) : b < w.heap.size := World.block_lt_of_cell? _ _ h0
set_option maxHeartbeats 8000000 in
set_option maxRecDepth 100000 in
theorem build_calls (xb mb base : Nat) (n0 : Nat) : ∀ (B A : Nat → Prop) (t : Tm) (i : Nat) (R : List Rw) (rv : Value) (f : Value → Option Value) (w : World), t.size ≤ n0 → t.size ≤ 1000000 → (∀ b, B b → b < w.heap.size) → BankAt w A xb mb R rv f base → IsAt R t i →
    Calls Tryd.prog 30 #[.pointer (some ⟨xb, 0, none⟩), .int .i64 i] w (GivesB B w t) := by
  induction n0 with
  | zero => intro _ _ t _ _ _ _ _ ht; have := t.size_eq; omega
  | succ n0 ih =>
    rintro B A t i R rv f w ht hm hB hx hat
    obtain ⟨hi, hrh, hra⟩ := isAt_row hat
    obtain ⟨a, c, hrv, hrow⟩ := hx.row
    obtain ⟨hxl, q0, q1, -, -⟩ := box2 hx.x
    rw [hrv] at q0
    have hfit := hx.fit
    obtain ⟨b, s, rfl, g0, g1, g2⟩ := hrow i hi
    have hbl : b < w.heap.size := World.block_lt_of_cell? _ _ g0
    obtain ⟨sa, sc, rfl, hsc, hsl⟩ := g2.shape
    have hlen := AreAt.length _ _ hra
    have hnl : (zs (R[i]).2).length = t.args.length := by rw [zs_length, hlen]
    have HSZ := hide t.size_eq
    have hl := Tm.sizes_length t.args
    rw [hnl] at g1 hsc hsl g2
    rw [hrh] at g0
    have HRA := hide hra
    have HLEN := hide hlen
    have HHB := hide hB
    have HM := hide hm
    have HG2 := hide g2
    have HX := hide hx
    have hgen : ∀ os : List Obj, Below w.heap.size w (allocs w os) := fun os => allocs_below w os
    have HW := hide (allocs_below w [.cells #[.int .i64 0, .slice none 0 0] 26, .cells #[.int .i64 t.h, .slice sa t.args.length sc] 64, .cells #[.int .i64 t.h, .slice none 0 0] 26])
    have HZ := hide (allocs_size w [.cells #[.int .i64 0, .slice none 0 0] 26, .cells #[.int .i64 t.h, .slice sa t.args.length sc] 64, .cells #[.int .i64 t.h, .slice none 0 0] 26])
    have HK0 := hide (allocs_get w [.cells #[.int .i64 0, .slice none 0 0] 26, .cells #[.int .i64 t.h, .slice sa t.args.length sc] 64, .cells #[.int .i64 t.h, .slice none 0 0] 26] 0 _ rfl)
    have HK1 := hide (allocs_get w [.cells #[.int .i64 0, .slice none 0 0] 26, .cells #[.int .i64 t.h, .slice sa t.args.length sc] 64, .cells #[.int .i64 t.h, .slice none 0 0] 26] 1 _ rfl)
    have HK2 := hide (allocs_get w [.cells #[.int .i64 0, .slice none 0 0] 26, .cells #[.int .i64 t.h, .slice sa t.args.length sc] 64, .cells #[.int .i64 t.h, .slice none 0 0] 26] 2 _ rfl)
    clear hx hra hm hB g2 hrow hat hgen hlen hnl hrh
    go_enter Tryd.func30, Tryd.ntmps30
    go_wp2
    have hgn : ((w.alloc (.cells #[.int .i64 0, .slice none 0 0] 26)).alloc (.cells #[.int .i64 t.h, .slice sa t.args.length sc] 64)).alloc (.cells #[.int .i64 t.h, .slice none 0 0] 26) = allocs w [.cells #[.int .i64 0, .slice none 0 0] 26, .cells #[.int .i64 t.h, .slice sa t.args.length sc] 64, .cells #[.int .i64 t.h, .slice none 0 0] 26] := rfl
    rw [hgn]
    clear hgn
    generalize allocs w [.cells #[.int .i64 0, .slice none 0 0] 26, .cells #[.int .i64 t.h, .slice sa t.args.length sc] 64, .cells #[.int .i64 t.h, .slice none 0 0] 26] = W at *
    have HG := hide (show ∀ j, j < t.args.length → ∃ (p o m : Nat), sa = some ⟨p, o, none⟩ ∧ p < w.heap.size ∧ w.cell? ⟨p, o + j, none⟩ = some (.int .i64 (m : Int)) ∧ ∃ h : j < t.args.length, IsAt R t.args[j] m from fun j hj => by
      have hj2 : j < (R[i]).2.length := by rw [← HLEN.out]; exact hj
      obtain ⟨p, o, e1, e2, e3, e4⟩ := HG2.out.get j (by rw [zs_length]; exact hj2)
      exact ⟨p, o, (R[i]).2[j], e1, e2, by rw [e4]; simp [zs], hj, AreAt.get _ _ HRA.out j hj hj2⟩)
    generalize hbo : w.heap.size + 1 + 1 = bo at *
    have HBO := hide hbo
    clear g0 g1 q0 q1 HG2 hbo HRA HLEN hrv
    go_loopw [23] (fun i wr => ∃ (k : Nat) (v : Value), k ≤ t.args.length ∧ i = .int .i64 k ∧ Hid (Build (fun b => B b ∨ b = w.heap.size) w wr bo (bo + 1) 26 26 t.h v ((t.args.take k).map Tm.d)) ∧ Hid (wr.heap[w.heap.size]? = some (.cells #[.int .i64 0, .slice none 0 0] 26 (0, 0)))) (fun i _ => t.args.length - (intOf i).toNat)
    case atStart =>
      have h1 := HBO.out
      have h2 := HZ.out
      simp only [List.length_cons, List.length_nil] at h2
      exact ⟨0, .slice none 0 0, by omega, rfl, hide ⟨HW.out, HK2.out, OwnD.nil _ _ _ _ _, by omega, by omega, by omega⟩, hide HK0.out⟩
    case round =>
      obtain ⟨k, v, hk, rfl, hbd, hx0⟩ := hrel
      by_cases hlt : k < t.args.length
      · obtain ⟨p, o, m, rfl, hp, hc, _, hat⟩ := HG.out k hlt
        have hts : t.args[k].size ≤ n0 := by have := HSZ.out; have := Tm.size_get t.args k hlt; omega
        have htm : t.args[k].size ≤ 1000000 := by have := HSZ.out; have := HM.out; have := Tm.size_get t.args k hlt; omega
        have hcw := (hbd.out.below.cell (p := ⟨p, o + k, none⟩) (by show p < _; exact hp)).trans hc
        have HAT := hide hat
        have HTK := hide (show (t.args.take k).map Tm.d ++ [t.args[k].d] = (t.args.take (k + 1)).map Tm.d by rw [List.take_succ_eq_append_getElem hlt, List.map_append]; rfl)
        obtain ⟨av, cv, hv⟩ := hbd.out.own.shape
        have HLK := hide (show ((t.args.take k).map Tm.d).length = k by simp; omega)
        rw [HLK.out] at hv
        subst hv
        obtain ⟨-, -, u1, -, -⟩ := box2 hbd.out.box
        have HNB := hide (show (k + 1) * 32 ≤ 140737488355328 by have := HSZ.out; have := HM.out; omega)
        clear hat hc hk hl hi hfit
        go_wp2
        refine drawn_until (fun W' => Below w.heap.size w W') (fun W' => W'.cell? ⟨bo, 1, none⟩ = some (.slice av k cv)) 6 [(0, 0), (1, 1), (2, 0), (3, 0), (4, 2), (5, 2), (6, 3), (7, 0), (8, 3)] (by kernel_rfl) (by kernel_rfl) (by kernel_rfl) (by kernel_rfl) (fun _ _ _ _ _ h => h) hbd.out.below.drew u1 ?_
        iterate 1 (refine v_take (v := ?_) rfl (by rfl) ?_ ?_; rotate_left; (intro w hS; go_simp; try with_reducible rfl); simp only [Act.put, List.setIfInBounds_toArray, List.set_cons_zero, List.set_cons_succ])
        iterate 1 (refine v_takeD (v := ?_) rfl (by rfl) ?_ ?_; rotate_left; (intro w hS; obtain ⟨-, hS1⟩ := hS; go_simp; try with_reducible rfl); simp only [Act.put, List.setIfInBounds_toArray, List.set_cons_zero, List.set_cons_succ])
        iterate 2 (refine v_take (v := ?_) rfl (by rfl) ?_ ?_; rotate_left; (intro w hS; go_simp; try with_reducible rfl); simp only [Act.put, List.setIfInBounds_toArray, List.set_cons_zero, List.set_cons_succ])
        refine v_do2 rfl (by rfl) ?_
        intro K hK
        go_simp
        have hwd : Below w.heap.size w wr.drew := hbd.out.below.drew
        refine (ih (fun b => ((B b ∨ b = w.heap.size) ∨ b = bo) ∨ (Value.slice av k cv).ownBlock = some b) A t.args[k] m R rv f wr.drew hts htm (fun b hb => ?_) (HX.out.below hwd) HAT.out).mono ?_
        · have := hbd.out.lt; have := hbd.out.base; have := hbd.out.old
          show b < wr.heap.size
          rcases hb with ((hb | hb) | hb) | hb
          · have := HHB.out b hb; omega
          · omega
          · omega
          · exact (hbd.out.ownlt b hb).2
        rintro e w1 ⟨s1, rfl, hT, h1⟩
        obtain ⟨a1, c1, hs1, -, -⟩ := hT.shape
        subst hs1
        have h1' : Below wr.heap.size wr w1 := more_below (Below.refl _ _).drew h1
        have HBD1 := hide (hbd.out.later h1')
        have HX1 := hide ((h1'.block _ (Array.getElem?_eq_some_iff.1 hx0.out).1).trans hx0.out)
        have hwr : w.heap.size ≤ wr.heap.size := hbd.out.below.size
        have HC1 := hide (hbd.out.below.trans (h1'.mono hwr))
        have HOL := hide HBD1.out.base
        obtain ⟨-, -, v1, -, -⟩ := box2 HBD1.out.box
        have hblt : bo < w1.heap.size := by have := HBD1.out.lt; have := HBD1.out.base; omega
        refine hK.out _ _ HC1.out v1 ?_
        clear hK K h1 h1' hbd hx0 hwd
        refine v_do2 rfl (by rfl) ?_
        intro K hK
        go_simp
        refine hK.out _ _ (HC1.out.alloc (by have := HC1.out.size; omega) _) ((World.cell?_alloc_lt _ _ _ (by show bo < _; omega)).trans v1) ?_
        clear hK K
        refine v_do3 rfl (by rfl) ?_
        intro K hK
        refine app_op (.tmp 28) (.tmp 32) 24 rfl (bo + 1) 26 (.agg #[.int .i64 0, .slice none 0 0]) 32 Tryd.underlying24 (by kernel_rfl) rfl (v := .slice av k cv) (d := t.args[k].d) rfl rfl HBD1.out.own (repTm.2 ⟨_, rfl, hT⟩) rfl rfl (by rw [HLK.out]; have := HNB.out; unfold maxLen; omega) (by rw [HLK.out]; exact HNB.out) HOL.out ?_
        intro v' w2 o1 k1 o2
        obtain ⟨av', cv', o2⟩ := o2
        rw [HLK.out] at o2
        subst o2
        have HC2 := hide (HC1.out.trans ((HBD1.out.grow k1).mono (by have := HBO.out; omega)))
        have hbd2 := HBD1.out.step k1 o1
        rw [HTK.out] at hbd2
        have HBD2 := hide hbd2
        have hb2 := k1.obj (fun e => by have := HBD1.out.ownlt _ e; omega) HBD1.out.box
        obtain ⟨-, -, v3, -, v4⟩ := box2 hb2
        have HX2 := hide (show (w2.setCell ⟨bo, 1, none⟩ (.slice av' (k + 1) cv')).heap[w.heap.size]? = _ from (Below.heap_setCell _ _ _ _ (by show w.heap.size ≠ bo; have := HBO.out; omega)).trans ((k1.obj (fun e => by have := HBD1.out.ownlt _ e; have := HBO.out; omega) HX1.out)))
        refine hK.out _ _ HC2.out ?_
        clear hK K hbd2 hb2 o1 k1
        iterate 1 (refine v_take (v := ?_) rfl (by rfl) ?_ ?_; rotate_left; (intro w hS; go_simp; try with_reducible rfl); simp only [Act.put, List.setIfInBounds_toArray, List.set_cons_zero, List.set_cons_succ])
        refine v_do3 rfl (by rfl) ?_
        intro K hK
        go_simp
        refine hK.out _ _ (HC2.out.setCell (p := ⟨bo, 1, none⟩) (by show w.heap.size ≤ bo; have := HBO.out; omega) _) ?_
        clear hK K
        refine v_done ?_
        clear v3 v4 v1 u1 HBD1 HX1 HC1 HC2 HOL hT
        go_wp2
        go_roundw
        case rel => exact ⟨k + 1, _, by omega, by go_num, HBD2, HX2⟩
        case measure => simp [intOf]; omega
      · obtain rfl : k = t.args.length := by omega
        have hb := hbd.out
        rw [List.take_length] at hb
        have hT := hb.terms (fun b h => by have := HBO.out; rcases h with h | h; (have := HHB.out b h; omega); omega)
        obtain ⟨av, cv, hv⟩ := hb.own.shape
        rw [List.length_map] at hv
        subst hv
        obtain ⟨-, u0, u1, -, -⟩ := box2 hb.box
        obtain ⟨x9, z0, z1, z2, z3⟩ := box2 hx0.out
        have HBE := hide (set2_below (b := w.heap.size) hb.below (Nat.le_refl _) (.int .i64 t.h) (.slice av t.args.length cv))
        have HTE := hide (hT.keep (S := fun b => b ≠ w.heap.size) (((Keep.refl _ wr).setCell (p := ⟨w.heap.size, 0, none⟩) (by simp) (.int .i64 t.h)).setCell (p := ⟨w.heap.size, 1, none⟩) (by simp) (.slice av t.args.length cv)) (fun b _ hb' e => hb' (.inr e)))
        obtain ⟨-, r0, r1, -, -⟩ := box2 (box2_set hx0.out (.int .i64 t.h) (.slice av t.args.length cv))
        clear hb hT hbd hx0
        go_wp2
        exact bodyPost_ret (v := .agg #[.int .i64 t.h, .slice av t.args.length cv]) (by simp [results, Tryd.results30, go_sem, r0, r1]) rfl ⟨_, rfl, HTE.out.bar (fun _ _ h => .inl h), HBE.out⟩
end Go.Proofs.YtefmgooceeigbaaDoor
