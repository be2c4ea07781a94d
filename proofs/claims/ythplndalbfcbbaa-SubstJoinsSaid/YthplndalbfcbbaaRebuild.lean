/- subst.rebuild. -/
import Derived.Test.YthplndalbfcbbaaSub1
set_option linter.unusedSimpArgs false
set_option linter.unusedVariables false
namespace Go.Proofs.Ythplndalbfcbbaa
open Go.RowKit

mutual
/-- A term, something in place of each variable. -/
def rbT (g : Tm → Tm) : Tm → Tm
  | .node h l => if h < 0 then g (.node h l) else .node h (rbL g l)
def rbL (g : Tm → Tm) : List Tm → List Tm
  | [] => []
  | t :: ts => rbT g t :: rbL g ts
end
theorem rbT_neg (g : Tm → Tm) (t : Tm) (h : t.h < 0) : rbT g t = g t := by cases t; simp only [Tm.h] at h ⊢; rw [rbT, if_pos h]
theorem rbT_pos (g : Tm → Tm) (t : Tm) (h : ¬ t.h < 0) : rbT g t = .node t.h (rbL g t.args) := by cases t; simp only [Tm.h, Tm.args] at h ⊢; rw [rbT, if_neg h]
theorem rbL_map (g : Tm → Tm) (l : List Tm) : rbL g l = l.map (rbT g) := by induction l <;> simp_all [rbL]

/-- A function with one value captured, that gives for a variable's term the term g. -/
structure Serves (F : Nat) (x : Value) (g : Tm → Tm) (OK : (Nat → Prop) → World → Prop) : Prop where
  enters : ∀ args w, (callFunc F args).run Try.prog w = .ok (.enter F args) w
  below : ∀ A w w', OK A w → Below w.heap.size w w' → OK A w'
  bar : ∀ A B w, OK A w → (∀ b, b < w.heap.size → B b → A b) → OK B w
  gives : ∀ (v : Tm) (A : Nat → Prop) (h : Int) (s : Value) (w : World), (∀ b, A b → b < w.heap.size) → v.good = true → v.h < 0 → OK A w → IsTm A w h s v → Calls Try.prog F #[x, .agg #[.int .i64 h, s]] w fun e w' => Gives A w (g v) e w'

set_option maxHeartbeats 2000000 in
theorem rebuild_calls {F : Nat} {x : Value} {g : Tm → Tm} {OK : (Nat → Prop) → World → Prop} (hF : Serves F x g OK) (n0 : Nat) : ∀ (t : Tm) (A : Nat → Prop) (h : Int) (s : Value) (w : World), t.size ≤ n0 → (∀ b, A b → b < w.heap.size) → t.good = true → OK A w → IsTm A w h s t →
    Calls Try.prog 83 #[.agg #[.int .i64 h, s], .func (.func F) #[x] #[]] w fun e w' => Gives A w (rbT g t) e w' := by
  induction n0 with
  | zero => intro t; cases t; intro A h s w ht; simp [Tm.size] at ht
  | succ n0 ih =>
    rintro t A h s w ht hA hgood hok hs
    obtain ⟨rfl, a, c, rfl, hlc, hc⟩ := hs.shape
    obtain ⟨hh, hl8, hkids⟩ := good_args hgood
    have hsz := hide t.size_eq
    have hl : t.args.length ≤ 9223372036854775807 := by omega
    go_enter Try.func83, Try.ntmps83
    refine seq_cut (fun a' w' => a' = { tmps := #[.agg #[.int .i64 t.h, .slice a t.args.length c], .func (.func F) #[x] #[], .pointer (some ⟨w.heap.size, 0, none⟩), undef, .pointer (some ⟨w.heap.size + 1, 0, none⟩), undef, undef, undef, undef, undef, undef, undef, undef, undef, undef, undef, undef, undef, undef, undef, undef, undef, undef, undef, undef, undef, undef, undef, undef, undef, undef, undef, undef, undef], defers := [] } ∧ w' = (w.alloc (.cells #[.int .i64 t.h, .slice a t.args.length c] 25)).alloc (.cells #[.int .i64 0, .slice none 0 0] 25)) ?_ ?_
    · go_wp2
      first | done | exact ⟨rfl, rfl⟩ | exact ⟨trivial, trivial⟩
    rintro _ W ⟨rfl, HW⟩
    have hWa : W = allocs w [.cells #[.int .i64 t.h, .slice a t.args.length c] 25, .cells #[.int .i64 0, .slice none 0 0] 25] := HW
    have hB : Below w.heap.size w W := by rw [hWa]; exact allocs_below _ _
    have hsW : W.heap.size = w.heap.size + 2 := by rw [hWa]; exact allocs_size _ _
    have b0 : W.heap[w.heap.size]? = some (.cells #[.int .i64 t.h, .slice a t.args.length c] 25 (0, 0)) := by rw [hWa]; exact allocs_get _ _ 0 _ rfl
    have b1 : W.heap[w.heap.size + 1]? = some (.cells #[.int .i64 0, .slice none 0 0] 25 (0, 0)) := by rw [hWa]; exact allocs_get _ _ 1 _ rfl
    clear HW hWa
    have HsW := hide hsW
    clear hsW
    obtain ⟨-, z0, z1, -, -⟩ := box2 b0
    by_cases hneg : t.h < 0
    · have HP := hide (rbT_neg g t hneg)
      have henter := hF.enters
      go_wp2_with fail
      refine (hF.gives t (fun b => A b ∨ b = w.heap.size + 1) _ _ _ (fun b hb => ?_) hgood hneg (hF.below _ _ _ (hF.bar _ _ _ hok (fun b hb h => ?_)) hB) (IsTm.below (A := fun b => A b ∨ b = w.heap.size + 1) (hs.bar (fun b hb h => ?_)) hB)).mono ?_
      · have := HsW.out
        rcases hb with hb | hb
        · have := hA b hb; omega
        · omega
      · rcases h with h | h
        · exact h
        · omega
      · rcases h with h | h
        · exact h
        · omega
      rintro e w1 ⟨s1, rfl, hT, h1⟩
      obtain ⟨a1, c1, rfl, -, -⟩ := hT.shape
      have b1' := (h1.block _ (by have := HsW.out; omega)).trans b1
      obtain ⟨-, y0, y1, y2, y3⟩ := box2 b1'
      have hB1 := more_below hB h1
      obtain ⟨-, q0, q1, -, -⟩ := box2 (box2_set b1' (.int .i64 (g t).h) (.slice a1 (g t).args.length c1))
      have hBe := set2_below (b := w.heap.size + 1) hB1 (by omega) (.int .i64 (g t).h) (.slice a1 (g t).args.length c1)
      have hTe := hT.keep (S := fun b => b ≠ w.heap.size + 1) (((Keep.refl _ w1).setCell (p := ⟨w.heap.size + 1, 0, none⟩) (by simp) (.int .i64 (g t).h)).setCell (p := ⟨w.heap.size + 1, 1, none⟩) (by simp) (.slice a1 (g t).args.length c1)) (fun b _ hb' e => hb' (.inr e))
      clear z0 z1 b0 b1 henter
      go_wp2
      exact bodyPost_ret (v := .agg #[.int .i64 (g t).h, .slice a1 (g t).args.length c1]) (by simp [results, Try.results83, go_sem, q0, q1]) rfl (by rw [HP.out]; exact ⟨_, rfl, hTe.bar (fun _ _ h => .inl h), hBe⟩)
    · have HP := hide (rbT_pos g t hneg)
      have hl2 : (rbL g t.args).length = t.args.length := by rw [rbL_map]; simp
      have HL2 := hide hl2
      clear hl2
      have hlt0 : w.heap.size < W.heap.size := by have := HsW.out; omega
      go_wp2
      go_loopw [20] (fun i wr => ∃ k v, k ≤ t.args.length ∧ i = .int .i64 k ∧ Build (fun b => A b ∨ b = w.heap.size + 1) w wr W.heap.size (W.heap.size + 1) 25 25 t.h v (((rbL g t.args).take k).map Tm.d) ∧ wr.heap[w.heap.size]? = some (.cells #[.int .i64 t.h, .slice a t.args.length c] 25 (0, 0)) ∧ wr.heap[w.heap.size + 1]? = some (.cells #[.int .i64 0, .slice none 0 0] 25 (0, 0))) (fun i _ => t.args.length - (intOf i).toNat)
      case atStart =>
        have := HsW.out
        exact ⟨0, .slice none 0 0, by omega, rfl, ⟨hB.alloc hB.size _, World.alloc_heap_new _ _, OwnD.nil _ _ _ _ _, by omega, by omega, by simp⟩, (Below.heap_alloc _ _ _ (by omega)).trans b0, (Below.heap_alloc _ _ _ (by omega)).trans b1⟩
      case round =>
        obtain ⟨k, v, hk, rfl, hbd, x0, x1⟩ := hrel
        obtain ⟨xw, y0, y1, -, -⟩ := box2 x0
        by_cases hlt : k < t.args.length
        · obtain ⟨b, off, a', c', rfl, hbs, hbA, g0, g1, g2⟩ := hs.2.get k hlt
          have hts : t.args[k].size ≤ n0 := by have := hsz.out; have := Tm.size_get t.args k hlt; omega
          have hkg := hkids k hlt
          have hlenk : (((rbL g t.args).take k).map Tm.d).length = k := by have := HL2.out; simp; omega
          have HLK := hide hlenk
          obtain ⟨av, cv, hv⟩ := hbd.own.shape
          rw [hlenk] at hv
          clear hlenk
          have HSW := hide HsW.out
          have l0 := (hbd.below.cell (p := ⟨b, off + k * 2, none⟩) hbs).trans g0
          have l1 := (hbd.below.cell (p := ⟨b, off + k * 2 + 1, none⟩) hbs).trans g1
          subst hv
          clear g0 g1 y0 y1
          go_wp2
          have hal : Below wr.heap.size wr (wr.alloc (.cells #[.int .i64 t.args[k].h, .slice a' t.args[k].args.length c'] 25)) := (Below.refl _ _).alloc (Nat.le_refl _) _
          have hbA := hbd.later hal
          have heb : (wr.alloc (.cells #[.int .i64 t.args[k].h, .slice a' t.args[k].args.length c'] 25)).heap[wr.heap.size]? = some (.cells #[.int .i64 t.args[k].h, .slice a' t.args[k].args.length c'] 25 (0, 0)) := World.alloc_heap_new _ _
          have xA0 := (hal.block _ (by have := HSW.out; have := hbd.lt; have := hbd.base; omega)).trans x0
          have xA1 := (hal.block _ (by have := HSW.out; have := hbd.lt; have := hbd.base; omega)).trans x1
          have hown : ∀ c, (Value.slice av k cv).ownBlock = some c → W.heap.size + 1 ≤ c ∧ c < wr.heap.size := hbd.ownlt
          have hwb : W.heap.size + 1 ≤ wr.heap.size := hbd.base
          generalize (wr.alloc (.cells #[.int .i64 t.args[k].h, .slice a' t.args[k].args.length c'] 25)) = WA at *
          clear hbd x0 x1 l0 l1 hal
          obtain ⟨-, u0, u1, u2, u3⟩ := box2 hbA.box
          obtain ⟨heA, i0, i1, -, -⟩ := box2 heb
          have CL : ∀ W', Below w.heap.size w W' → W'.heap[wr.heap.size]? = some (.cells #[.int .i64 t.args[k].h, .slice a' t.args[k].args.length c'] 25 (0, 0)) → Below w.heap.size w W' ∧ W'.cell? ⟨wr.heap.size, 0, none⟩ = some (.int .i64 t.args[k].h) ∧ W'.cell? ⟨wr.heap.size, 1, none⟩ = some (.slice a' t.args[k].args.length c') := by
            intro W' h1 h2
            obtain ⟨-, h3, h4, -, -⟩ := box2 h2
            exact ⟨h1, h3, h4⟩
          refine drawn_until (fun W' => Below w.heap.size w W' ∧ W'.cell? ⟨wr.heap.size, 0, none⟩ = some (.int .i64 t.args[k].h) ∧ W'.cell? ⟨wr.heap.size, 1, none⟩ = some (.slice a' t.args[k].args.length c'))
            (fun W' => W'.cell? ⟨W.heap.size, 1, none⟩ = some (.slice av k cv)) 6 [(0, 0), (1, 1), (2, 0), (3, 0), (4, 2), (5, 2), (6, 3), (7, 0), (8, 3)] (by kernel_rfl) (by kernel_rfl) (by kernel_rfl) (by kernel_rfl) (fun _ _ _ _ _ h => h) (CL _ hbA.below.drew heb) u1 ?_
          iterate 1 (refine v_take (v := ?_) rfl (by rfl) ?_ ?_; rotate_left; (intro w hS; obtain ⟨-, hS1, hS2⟩ := hS; go_simp; try with_reducible rfl); simp only [Act.put, List.setIfInBounds_toArray, List.set_cons_zero, List.set_cons_succ])
          iterate 1 (refine v_takeD (v := ?_) rfl (by rfl) ?_ ?_; rotate_left; (intro w hS; obtain ⟨-, hS1⟩ := hS; go_simp; try with_reducible rfl); simp only [Act.put, List.setIfInBounds_toArray, List.set_cons_zero, List.set_cons_succ])
          iterate 2 (refine v_take (v := ?_) rfl (by rfl) ?_ ?_; rotate_left; (intro w hS; obtain ⟨-, hS1, hS2⟩ := hS; go_simp; try with_reducible rfl); simp only [Act.put, List.setIfInBounds_toArray, List.set_cons_zero, List.set_cons_succ])
          refine v_do2 rfl (by rfl) ?_
          intro K hK
          go_simp
          refine (ih t.args[k] (fun b => ((A b ∨ b = w.heap.size + 1) ∨ b = W.heap.size) ∨ (Value.slice av k cv).ownBlock = some b) _ _ _ hts (fun b hb => ?_) hkg (hF.below _ _ _ (hF.bar _ _ _ hok (fun b hb h => ?_)) hbA.below.drew) (IsTm.below (A := fun b => ((A b ∨ b = w.heap.size + 1) ∨ b = W.heap.size) ∨ (Value.slice av k cv).ownBlock = some b) (IsTm.bar (⟨rfl, g2⟩ : IsTm A w _ _ _) (fun b hb h => ?_)) hbA.below.drew)).mono ?_
          · have := HSW.out
            show b < WA.heap.size
            rcases hb with ((hb | hb) | hb) | hb
            · have := hA b hb; omega
            · omega
            · omega
            · have := hown b hb; omega
          · have := HSW.out
            rcases h with ((h | h) | h) | h
            · exact h
            · omega
            · omega
            · have := hown b h; omega
          · have := HSW.out
            rcases h with ((h | h) | h) | h
            · exact h
            · omega
            · omega
            · have := hown b h; omega
          rintro e w1 ⟨s1, rfl, hT, h1⟩
          obtain ⟨a1, c1, hs1, -, -⟩ := hT.shape
          subst hs1
          have h1' : Below WA.heap.size WA w1 := more_below (Below.refl _ _).drew h1
          clear h1
          have hbd1 := hbA.later h1'
          obtain ⟨-, v0, v1, -, -⟩ := box2 hbd1.box
          have hba : W.heap.size + 1 ≤ w1.heap.size := hbd1.base
          have he1 := (h1'.block _ heA).trans heb
          have hl1 := h1'.size
          refine hK.out _ _ (CL _ hbd1.below he1) v1 ?_
          clear hK K
          refine v_do2 rfl (by rfl) ?_
          intro K hK
          go_simp
          refine hK.out _ _ (CL _ (hbd1.below.alloc hbd1.below.size _) ((Below.heap_alloc _ _ _ (by omega)).trans he1)) ((World.cell?_alloc_lt _ _ _ (by show W.heap.size < _; omega)).trans v1) ?_
          clear hK K
          refine v_do3 rfl (by rfl) ?_
          intro K hK
          refine app_op (.tmp 25) (.tmp 29) 23 rfl (W.heap.size + 1) 25 (.agg #[.int .i64 0, .slice none 0 0]) 32 Try.underlying23 (by kernel_rfl) rfl (v := .slice av k cv) (d := (rbT g t.args[k]).d) rfl rfl hbd1.own (repTm.2 ⟨_, rfl, hT⟩) rfl rfl (by rw [HLK.out]; unfold maxLen; omega) (by rw [HLK.out]; omega) hba ?_
          intro v' w2 o1 k1 o2
          obtain ⟨av', cv', o2⟩ := o2
          rw [HLK.out] at o2
          subst o2
          have hbw2 : Below w.heap.size w w2 := hbd1.below.trans ((hbd1.grow k1).mono (by have := HSW.out; omega))
          have he2 := k1.obj (fun e => by have := hown _ e; omega) he1
          have hbd2 := hbd1.step k1 o1
          obtain ⟨-, -, v3, -, v4⟩ := box2 (k1.obj (fun e => by have := hown _ e; omega) hbd1.box)
          refine hK.out _ _ (CL _ hbw2 he2) ?_
          clear hK K
          iterate 1 (refine v_take (v := ?_) rfl (by rfl) ?_ ?_; rotate_left; (intro w hS; obtain ⟨-, hS1, hS2⟩ := hS; go_simp; try with_reducible rfl); simp only [Act.put, List.setIfInBounds_toArray, List.set_cons_zero, List.set_cons_succ])
          refine v_do3 rfl (by rfl) ?_
          intro K hK
          go_simp
          refine hK.out _ _ (CL _ (hbw2.setCell (p := ⟨W.heap.size, 1, none⟩) (by show w.heap.size ≤ W.heap.size; have := HSW.out; omega) _) ((Below.heap_setCell _ _ _ _ (by show wr.heap.size ≠ W.heap.size; omega)).trans he2)) ?_
          clear hK K CL
          refine v_done ?_
          have hds : ((rbL g t.args).take k).map Tm.d ++ [(rbT g t.args[k]).d] = ((rbL g t.args).take (k + 1)).map Tm.d := by
            rw [rbL_map, List.take_succ_eq_append_getElem (by simpa using hlt)]; simp
          rw [hds] at hbd2
          have hk12 : ∀ c, c < W.heap.size + 1 → w2.heap[c]? = WA.heap[c]? := fun c hc => ((hbd1.grow k1).block c hc).trans (h1'.block c (by omega))
          have x0' : (w2.setCell ⟨W.heap.size, 1, none⟩ (.slice av' (k + 1) cv')).heap[w.heap.size]? = _ := (Below.heap_setCell _ _ _ _ (by show w.heap.size ≠ W.heap.size; have := HSW.out; omega)).trans ((hk12 _ (by have := HSW.out; omega)).trans xA0)
          have x1' : (w2.setCell ⟨W.heap.size, 1, none⟩ (.slice av' (k + 1) cv')).heap[w.heap.size + 1]? = _ := (Below.heap_setCell _ _ _ _ (by show w.heap.size + 1 ≠ W.heap.size; have := HSW.out; omega)).trans ((hk12 _ (by have := HSW.out; omega)).trans xA1)
          clear hds v3 v4 v0 v1 u0 u1 u2 u3 i0 i1
          go_wp2
          go_roundw
          case rel => exact ⟨k + 1, _, by omega, by go_num, hbd2, x0', x1'⟩
          case measure => simp [intOf]; omega
        · have hk2 : k = t.args.length := by omega
          have HT := hide (show Terms (fun b => A b ∨ b = w.heap.size + 1) wr v (rbT g t).args by
            rw [HP.out]
            have h9 := hbd.terms (fun b h => by have := HsW.out; rcases h with h | h; (have := hA b h; omega); omega)
            rwa [List.take_of_length_le (by rw [HL2.out]; omega)] at h9)
          have hlenk : (((rbL g t.args).take k).map Tm.d).length = k := by have := HL2.out; simp; omega
          obtain ⟨av, cv, hv⟩ := hbd.own.shape
          rw [hlenk] at hv
          subst hv
          obtain ⟨-, u0, u1, u2, u3⟩ := box2 hbd.box
          obtain ⟨-, q0, q1, q2, q3⟩ := box2 x1
          have hBe := set2_below (b := w.heap.size + 1) hbd.below (by omega) (.int .i64 t.h) (.slice av k cv)
          have hTe := HT.out.keep (S := fun b => b ≠ w.heap.size + 1) (((Keep.refl _ wr).setCell (p := ⟨w.heap.size + 1, 0, none⟩) (by simp) (.int .i64 t.h)).setCell (p := ⟨w.heap.size + 1, 1, none⟩) (by simp) (.slice av k cv)) (fun b _ hb' e => hb' (.inr e))
          obtain ⟨-, r0, r1, -, -⟩ := box2 (box2_set x1 (.int .i64 t.h) (.slice av k cv))
          clear hk2 hlenk
          go_wp2
          exact bodyPost_ret (v := .agg #[.int .i64 t.h, .slice av k cv]) (by simp [results, Try.results83, go_sem, r0, r1]) rfl ⟨_, by rw [HP.out]; rfl, hTe.bar (fun _ _ h => .inl h), hBe⟩
end Go.Proofs.Ythplndalbfcbbaa
