/- path.Index: Drop, walked; nil indexes. -/
import Derived.Test.YtneecjikdghchaaDoorPx6
set_option linter.unusedSimpArgs false
set_option linter.unusedVariables false
namespace Go.Proofs.YtneecjikdghchaaDoor
open Go.RowKit

set_option maxHeartbeats 1000000 in
set_option maxRecDepth 100000 in
theorem pdrop_nil (id : Int) (w : World) : Calls Tryd.prog 23 #[.pointer none, .int .i64 id] w fun e w' => e = .returned (.int .i64 3) ∧ w = w' := by
  go_enter Tryd.func23, Tryd.ntmps23
  go_wp2
  go_ret
  exact ⟨rfl, rfl⟩
set_option maxHeartbeats 1000000 in
set_option maxRecDepth 100000 in
theorem pput_nil (id h : Int) (s : Value) (w : World) (hs : ∃ a n c, s = .slice a n c) : Calls Tryd.prog 12 #[.pointer none, .int .i64 id, .agg #[.int .i64 h, s]] w fun e w' => e = .returned (.int .i64 3) ∧ Below w.heap.size w w' := by
  obtain ⟨a, n, c, rfl⟩ := hs
  have HB := hide (show Below w.heap.size w (w.alloc (.cells #[.int .i64 h, .slice a n c] 24)) from (Below.refl _ _).alloc (Nat.le_refl _) _)
  go_enter Tryd.func12, Tryd.ntmps12
  go_wp2
  go_ret
  exact ⟨rfl, HB.out⟩
set_option maxHeartbeats 8000000 in
set_option maxRecDepth 100000 in
theorem pdrop_calls {A : Nat → Prop} {xb rb hb ab : Nat} {X : List (Int × Tm)} {role : Nat → Option PRole} {base : Nat} (id : Int) (w : World) (h0 : -9223372036854775808 ≤ id) (h1 : id ≤ 9223372036854775807) (hbs : base ≤ w.heap.size) (hX : ∀ q ∈ X, chk q.2 = 0)
    (hx : PxOk w A xb rb hb ab X role base) :
    Calls Tryd.prog 23 #[.pointer (some ⟨xb, 0, none⟩), .int .i64 id] w fun e w' => e = .returned (.int .i64 (pdropX X id).2) ∧ PxOk w' A xb rb hb ab (pdropX X id).1 role base ∧ PMoved role role w w' := by
  obtain ⟨fr, fh, fa, hx⟩ := hx
  have HX := hide hx
  have hlook := hx.r.look (P := Tryd.prog) (k := 3) (t := 59) (e := 64) Tryd.underlying3 Tryd.underlying59 (zeroSpots _) h0 h1
  obtain ⟨hl, q0, q1, q2⟩ := pbox3' hx.x
  clear hx
  cases hf : fr id with
  | none =>
    rw [hf] at hlook
    simp only [Option.getD_none, Option.isSome_none] at hlook
    have HP := hide (show pdropX X id = (X, 6) by
      rw [pdropX, if_neg]
      intro hi
      obtain ⟨q, hq, rfl⟩ := List.mem_map.1 hi
      obtain ⟨v, hv⟩ := HX.out.r2 q.1 q.2 hq
      rw [hf] at hv; cases hv)
    clear hf hX
    go_enter Tryd.func23, Tryd.ntmps23
    go_wp2
    go_ret
    rw [HP.out]
    exact ⟨rfl, ⟨_, _, _, HX.out⟩, PMoved.of_below (Below.refl _ _)⟩
  | some v =>
    rw [hf] at hlook
    simp only [Option.getD_some, Option.isSome_some] at hlook
    obtain ⟨t, ht, hst⟩ := HX.out.r1 id v hf
    have HF := hide hf
    have HT := hide ht
    have HP := hide (show pdropX X id = (cutX X id, 0) by rw [pdropX, if_pos (List.mem_map.2 ⟨_, ht, rfl⟩)])
    obtain ⟨hg, hz⟩ := chk_ok (t := t) (hX _ ht)
    have HOK := hide (spt_ok hg hz)
    have HND := hide (nodup_psT t [])
    have hps := psT_len t []
    have hn9 : (psT [] t).length ≤ 400 := by omega
    obtain ⟨va, vc, rfl, hvc, -⟩ := hst
    have HI := hide (show DropInv w A xb rb hb ab fr role X id t base fh fa w 0 from ⟨HX.out.congr (fun s x => by simp) (fun p x => by simp), PMoved.of_below (Below.refl _ _)⟩)
    clear hf hX ht hg hz hps
    go_enter Tryd.func23, Tryd.ntmps23
    go_wp2
    go_loopw [24] (fun i wr => ∃ k : Nat, k ≤ (psT [] t).length ∧ i = .int .i64 k ∧ Hid (DropInv w A xb rb hb ab fr role X id t base fh fa wr k)) (fun i _ => (psT [] t).length - (intOf i).toNat)
    case atStart => exact ⟨0, by omega, rfl, HI⟩
    case round =>
      obtain ⟨k, hk, rfl, hinv⟩ := hrel
      by_cases hlt : k < (psT [] t).length
      · obtain ⟨hx5, hm5⟩ := hinv.out
        obtain ⟨a2, c2, hve, -, hcl⟩ := hx5.row (id := id) (t := t) HT.out HF.out
        obtain ⟨sb, so, he, -, x0, x1, x2⟩ := hcl k hlt
        simp only [Value.slice.injEq, true_and] at hve
        obtain ⟨rfl, rfl⟩ := hve
        subst he
        have hal : Below wr.heap.size wr (wr.alloc (.cells #[.string (plB (psT [] t)[k].p), .int .i64 (psT [] t)[k].h, .int .i64 (psT [] t)[k].n] 68)) := (Below.refl _ _).alloc (Nat.le_refl _) _
        have HN6 := hide (World.alloc_heap_new wr (.cells #[.string (plB (psT [] t)[k].p), .int .i64 (psT [] t)[k].h, .int .i64 (psT [] t)[k].n] 68))
        have HX6 := hide (hx5.below hal)
        have HM6 := hide (hm5.trans (PMoved.of_below hal))
        have HEB := hide (show role wr.heap.size = none from by
          cases hr : role wr.heap.size with
          | none => rfl
          | some r => have := (hx5.z wr.heap.size (by rw [hr]; simp)).2.1; omega)
        clear hinv hx5 hm5 hcl hal
        go_wp2
        generalize wr.alloc (.cells #[.string (plB (psT [] t)[k].p), .int .i64 (psT [] t)[k].h, .int .i64 (psT [] t)[k].n] 68) = w6 at *
        have hb6 : wr.heap.size < w6.heap.size := (Array.getElem?_eq_some_iff.1 HN6.out).1
        generalize wr.heap.size = eb at *
        have hsok := HOK.out _ (List.getElem_mem hlt)
        obtain ⟨kl, hkey⟩ := spot_key hsok
        -- the spot's set
        obtain ⟨v5, hv5⟩ : ∃ v, fh (psT [] t)[k].key = some v := by
          cases hq : fh (psT [] t)[k].key with
          | some v => exact ⟨v, rfl⟩
          | none =>
            refine absurd ⟨⟨t, HT.out, List.getElem_mem hlt⟩, fun h => ?_⟩ (HX6.out.h2 _ hq id)
            exact nodup_take HND.out hlt _ h.2 rfl
        obtain ⟨p5, hp5⟩ : ∃ v, fa (placeS (psT [] t)[k].p) = some v := by
          cases hq : fa (placeS (psT [] t)[k].p) with
          | some v => exact ⟨v, rfl⟩
          | none =>
            refine absurd ⟨⟨t, HT.out, _, List.getElem_mem hlt, rfl⟩, ?_⟩ (HX6.out.a2 _ hq id)
            rintro ⟨-, s, h1, h2⟩
            exact nodup_take HND.out hlt _ h1 h2
        obtain ⟨s', ib, e1, rfl, e3, e4⟩ := HX6.out.h1 _ _ hv5
        obtain rfl := key_inj e1
        obtain ⟨p', jb, e5, rfl, e7, e8⟩ := HX6.out.a1 _ _ hp5
        obtain rfl := placeS_inj e5
        have HCD := hide (show ∀ (W' : World) Hs As, PxAt W' A xb rb hb ab fr fh fa role X Hs As base → w6.heap[eb]? = W'.heap[eb]? → W'.cell? ⟨xb, 1, none⟩ = some (.map (some hb)) ∧ W'.cell? ⟨xb, 2, none⟩ = some (.map (some ab)) ∧ W'.cell? ⟨eb, 0, none⟩ = some (.string (plB (psT [] t)[k].p)) ∧ W'.cell? ⟨eb, 1, none⟩ = some (.int .i64 (psT [] t)[k].h) ∧ W'.cell? ⟨eb, 2, none⟩ = some (.int .i64 (psT [] t)[k].n) ∧ (Instr.lookup 60 (.map (some hb)) (.agg #[.string (plB (psT [] t)[k].p), .int .i64 (psT [] t)[k].h, .int .i64 (psT [] t)[k].n]) false).run Tryd.prog W' = .ok (.map (some ib)) W' ∧ (Instr.lookup 61 (.map (some ab)) (.string (plB (psT [] t)[k].p)) false).run Tryd.prog W' = .ok (.map (some jb)) W' from fun W' Hs As hx2 h2 => by
          obtain ⟨-, -, x0, x1⟩ := pbox3' hx2.x
          obtain ⟨-, x2, x3, x4⟩ := pbox3' (h2.symm.trans HN6.out)
          have l1 := hx2.h.look spotKeyed Tryd.underlying60 (zeroSet _) hkey false
          have l2 := hx2.a.look (Maps.string_keyed Tryd.underlying9) Tryd.underlying61 (zeroSet _) (place_key hsok.p) false
          rw [hv5] at l1
          rw [hp5] at l2
          exact ⟨x0, x1, x2, x3, x4, l1, l2⟩)
        refine drawn_tree (fun W' => W'.cell? ⟨xb, 1, none⟩ = some (.map (some hb)) ∧ W'.cell? ⟨xb, 2, none⟩ = some (.map (some ab)) ∧ W'.cell? ⟨eb, 0, none⟩ = some (.string (plB (psT [] t)[k].p)) ∧ W'.cell? ⟨eb, 1, none⟩ = some (.int .i64 (psT [] t)[k].h) ∧ W'.cell? ⟨eb, 2, none⟩ = some (.int .i64 (psT [] t)[k].n) ∧ (Instr.lookup 60 (.map (some hb)) (.agg #[.string (plB (psT [] t)[k].p), .int .i64 (psT [] t)[k].h, .int .i64 (psT [] t)[k].n]) false).run Tryd.prog W' = .ok (.map (some ib)) W' ∧ (Instr.lookup 61 (.map (some ab)) (.string (plB (psT [] t)[k].p)) false).run Tryd.prog W' = .ok (.map (some jb)) W') (.take 0 (.take 1 (.take 2 (.take 3 (.take 4 (.take 5 (.take 6 (.one 7 .done)))))))) (by kernel_rfl) (by kernel_rfl) (by kernel_rfl) (by kernel_rfl) (fun _ _ _ _ _ h => h) (HCD.out _ _ _ (HX6.out.below (Below.refl w6.heap.size w6).drew) rfl) ?_
        have gd := (Below.refl w6.heap.size w6).drew
        have HX7 := hide (HX6.out.below gd)
        have HM7 := hide (HM6.out.trans (PMoved.of_below gd))
        iterate 7 (refine t_take (v := ?_) rfl (by rfl) ?_ ?_; rotate_left; (intro w hS; obtain ⟨hS1, hS2, hS3, hS4, hS5, hS6, hS7⟩ := hS; go_simp; try with_reducible rfl); simp only [Act.put, List.setIfInBounds_toArray, List.set_cons_zero, List.set_cons_succ])
        obtain ⟨W8, hdel, hm8, hk8⟩ := (e4.below gd).delete (P := Tryd.prog) (k := 3) (e := 4) (t := 78) (ty := 0) Tryd.underlying3 Tryd.underlying78 h0 h1
        refine t_one rfl (by rfl) ?_
        intro K hK
        go_simp
        have HX8 := hide (HX7.out.delS (s := (psT [] t)[k]) hv5 (id := id) hk8 hm8)
        have hn8 : W8.heap[eb]? = w6.heap[eb]? := (hk8.block eb hb6 fun e => by have := HEB.out; rw [e, e3] at this; cases this).trans rfl
        refine hK.out _ _ (HCD.out _ _ _ HX8.out.1 hn8.symm) ?_
        clear hK K
        refine t_done ?_
        have HM8 := hide (HM7.out.trans HX8.out.2)
        clear hdel hm8 hk8 HX7 HM7 e4 x0 x1 x2
        go_wp2
        refine drawn_tree (fun W' => W'.cell? ⟨xb, 1, none⟩ = some (.map (some hb)) ∧ W'.cell? ⟨xb, 2, none⟩ = some (.map (some ab)) ∧ W'.cell? ⟨eb, 0, none⟩ = some (.string (plB (psT [] t)[k].p)) ∧ W'.cell? ⟨eb, 1, none⟩ = some (.int .i64 (psT [] t)[k].h) ∧ W'.cell? ⟨eb, 2, none⟩ = some (.int .i64 (psT [] t)[k].n) ∧ (Instr.lookup 60 (.map (some hb)) (.agg #[.string (plB (psT [] t)[k].p), .int .i64 (psT [] t)[k].h, .int .i64 (psT [] t)[k].n]) false).run Tryd.prog W' = .ok (.map (some ib)) W' ∧ (Instr.lookup 61 (.map (some ab)) (.string (plB (psT [] t)[k].p)) false).run Tryd.prog W' = .ok (.map (some jb)) W') (.take 0 (.take 1 (.take 2 (.take 3 (.take 4 (.take 5 (.take 6 (.take 7 (.one 8 .done))))))))) (by kernel_rfl) (by kernel_rfl) (by kernel_rfl) (by kernel_rfl) (fun _ _ _ _ _ h => h) (HCD.out _ _ _ (HX8.out.1.below (Below.refl W8.heap.size W8).drew) hn8.symm) ?_
        have gd8 := (Below.refl W8.heap.size W8).drew
        have HX9 := hide (HX8.out.1.below gd8)
        have HM9 := hide (HM8.out.trans (PMoved.of_below gd8))
        iterate 8 (refine t_take (v := ?_) rfl (by rfl) ?_ ?_; rotate_left; (intro w hS; obtain ⟨hS1, hS2, hS3, hS4, hS5, hS6, hS7⟩ := hS; go_simp; try with_reducible rfl); simp only [Act.put, List.setIfInBounds_toArray, List.set_cons_zero, List.set_cons_succ])
        obtain ⟨p9, jb9, e9, e10, -, e12⟩ := HX9.out.a1 _ _ hp5
        obtain rfl := placeS_inj e9
        simp only [Value.map.injEq, Option.some.injEq] at e10
        subst e10
        obtain ⟨W10, hdel, hm10, hk10⟩ := e12.delete (P := Tryd.prog) (k := 3) (e := 4) (t := 78) (ty := 0) Tryd.underlying3 Tryd.underlying78 h0 h1
        refine t_one rfl (by rfl) ?_
        intro K hK
        go_simp
        have HX10 := hide (HX9.out.delA (s := (psT [] t)[k].p) hp5 (id := id) hk10 hm10)
        have hn10 : W10.heap[eb]? = w6.heap[eb]? := (hk10.block eb (by have := hb6; have := HX8.out.2.1.size; have := gd.size; have := gd8.size; omega) fun e => by have := HEB.out; rw [e, e7] at this; cases this).trans hn8
        refine hK.out _ _ (HCD.out _ _ _ HX10.out.1 hn10.symm) ?_
        clear hK K
        refine t_done ?_
        have HI2 := hide (show DropInv w A xb rb hb ab fr role X id t base fh fa W10 (k + 1) from by
          refine ⟨HX10.out.1.congr (fun s x => ?_) fun p x => ?_, HM9.out.trans HX10.out.2⟩
          · rw [List.take_succ_eq_append_getElem hlt, List.mem_append, List.mem_singleton]
            constructor
            · rintro ⟨⟨h1, h2⟩, h3⟩
              refine ⟨h1, ?_⟩
              rintro ⟨h4, h5 | h5⟩
              · exact h2 ⟨h4, h5⟩
              · exact h3 ⟨h5, h4⟩
            · rintro ⟨h1, h2⟩
              exact ⟨⟨h1, fun h => h2 ⟨h.1, .inl h.2⟩⟩, fun h => h2 ⟨h.2, .inr h.1⟩⟩
          · rw [List.take_succ_eq_append_getElem hlt]
            simp only [List.mem_append, List.mem_singleton]
            constructor
            · rintro ⟨⟨h1, h2⟩, h3⟩
              refine ⟨h1, ?_⟩
              rintro ⟨h4, s, h5 | h5, h6⟩
              · exact h2 ⟨h4, s, h5, h6⟩
              · exact h3 ⟨by rw [← h6, h5], h4⟩
            · rintro ⟨h1, h2⟩
              exact ⟨⟨h1, fun ⟨h4, s, h5, h6⟩ => h2 ⟨h4, s, .inl h5, h6⟩⟩, fun h => h2 ⟨h.2, _, .inr rfl, h.1.symm⟩⟩)
        clear hdel hm10 hk10 HX10 HX9 HM9 HX8 HM8 hn8 hn10 gd gd8 HCD HX6 HM6 HN6 HEB e12 e8 hv5 hp5
        go_wp2
        go_roundw
        case rel => exact ⟨k + 1, by omega, by go_num, HI2⟩
        case measure => simp [intOf]; omega
      · obtain rfl : k = (psT [] t).length := by omega
        obtain ⟨hx9, hm9⟩ := hinv.out
        obtain ⟨hl9, q0, q1, q2⟩ := pbox3' hx9.x
        obtain ⟨W10, hdel, hm10, hk10⟩ := hx9.r.delete (P := Tryd.prog) (k := 3) (e := 64) (t := 59) (ty := 0) Tryd.underlying3 Tryd.underlying59 h0 h1
        rw [List.take_length] at hx9
        have HX10 := hide ((hx9.congr (fun s x => hasS_cut hx9.nd HT.out s x) fun p x => hasP_cut hx9.nd HT.out p x).cut hk10 hm10)
        have HM9 := hide hm9
        clear hinv hx9 hm9 hm10 hk10
        go_wp2
        go_ret
        rw [HP.out]
        exact ⟨rfl, ⟨_, _, _, HX10.out.1⟩, HM9.out.trans HX10.out.2⟩
end Go.Proofs.YtneecjikdghchaaDoor
