/- term.Same, walked. -/
import Derived.Deep.LoopGhost
import Derived.WalkSmall
import Derived.Test.YtneecjikdghchaaDoorRef1p
import Derived.Test.YtneecjikdghchaaDoorJoin
import Derived.Test.YtneecjikdghchaaDoorBox
import Derived.Test.YtneecjikdghchaaDoorDraw3
set_option linter.unusedSimpArgs false
set_option linter.unusedVariables false
namespace Go.Proofs.YtneecjikdghchaaDoor
open Go.RowKit

section
variable {A : Nat → Prop} {W : World} {base e k : Nat}
theorem OwnD.lit2 {b : Nat} {x y : Value} {d : D} (hb : W.heap[b]? = some (.cells #[x, y] e (0, 0))) (hbase : base ≤ b) (hd : RepD (fun c => A c ∨ c = b) W d [x, y]) : OwnD A W base e 2 (.slice (some ⟨b, 0, none⟩) 1 1) [d] := by
  refine ⟨[[x, y]], ⟨by simp, .inr ⟨b, 1, #[x, y], rfl, hbase, hb, Nat.le_refl _, by simp [maxLen], rfl, by simp⟩⟩, by simp, .cons ?_ .nil⟩
  refine hd.bar fun c _ h => ?_
  rcases h with h | h
  · exact .inl h
  · exact .inr (by simpa [Value.ownBlock] using h.symm)
theorem All2.unsnoc {β γ : Type} {R : β → γ → Prop} {a : List β} {c : List γ} {y : γ} (h : All2 R a (c ++ [y])) : ∃ a' x, a = a' ++ [x] ∧ All2 R a' c ∧ R x y := by
  induction c generalizing a with
  | nil =>
    cases h with
    | cons h1 h2 => cases h2; exact ⟨[], _, rfl, .nil, h1⟩
  | cons z c ih =>
    cases h with
    | cons h1 h2 =>
      obtain ⟨a', x, rfl, h3, h4⟩ := ih h2
      exact ⟨_ :: a', x, rfl, .cons h1 h3, h4⟩
/-- The last of a row of the call's own. -/
theorem OwnD.last {v : Value} {ds : List D} {d : D} (hk : 0 < k) (h : OwnD A W base e k v (ds ++ [d])) : ∃ g cap cs, v = .slice (some ⟨g, 0, none⟩) (ds.length + 1) cap ∧ base ≤ g ∧ g < W.heap.size ∧ ds.length + 1 ≤ cap ∧ cap ≤ 9223372036854775807 ∧ cs.length = k ∧ (∀ j, j < k → W.cell? ⟨g, ds.length * k + j, none⟩ = cs[j]?) ∧
    RepD (fun b => A b ∨ b = g) W d cs ∧ OwnD A W base e k (.slice (some ⟨g, 0, none⟩) ds.length cap) ds := by
  obtain ⟨css, h1, h2, h3⟩ := h
  obtain ⟨css', cs, rfl, h4, h5⟩ := h3.unsnoc
  have hlen : css'.length = ds.length := h4.length
  have hl' : ∀ c, c ∈ css' → c.length = k := fun c hc => h2 c (by simp [hc])
  have hcs : cs.length = k := h2 cs (by simp)
  have hfl : css'.flatten.length = ds.length * k := by rw [flat_length hl', hlen]
  have h1' := h1
  rcases h1.2 with ⟨_, h0⟩ | ⟨g, cap, cur, rfl, hg, hh, hn, hm, hs, ht⟩
  · simp at h0
  · rw [List.length_append, List.length_singleton] at hn
    refine ⟨g, cap, cs, by simp, hg, (Array.getElem?_eq_some_iff.1 hh).1, hn, by simpa [maxLen] using hm, hcs, fun j hj => ?_, ?_, ?_⟩
    · have := h1'.cells (g := g) rfl (ds.length * k + j) (cs[j]) (by simp [List.getElem?_append_right, hfl])
      rw [add_plain] at this
      rw [this]; simp
    · exact h5.bar fun b _ h => by
        rcases h with h | h
        · exact .inl h
        · exact .inr (by simp [Value.ownBlock, h])
    · refine ⟨css', ownsRow_pop (last := cs) hfl (by simpa using h1'), hl', h4.imp fun c d hd => hd.bar fun b _ h => ?_⟩
      rcases h with h | h
      · exact .inl h
      · exact .inr (by simpa [Value.ownBlock] using h)
end

theorem unsnoc {α : Type} (l : List α) : l = [] ∨ ∃ a x, l = a ++ [x] := by
  rcases List.eq_nil_or_concat l with h | ⟨a, x, h⟩
  · exact .inl h
  · exact .inr ⟨a, x, by rw [h, List.concat_eq_append]⟩
theorem cut_end {P : Program} {c : Code} {Q : Exit → Act → World → Prop} {a : Act} {w : World} (R : Act → World → Prop)
    (h : c.wp P (Exit.then R (fun _ _ _ => False)) a w) (k : ∀ a' w', R a' w' → Q .normal a' w') : c.wp P Q a w := by
  refine wp_mono h ?_
  intro e a' w' hq
  cases e <;> first | exact k _ _ hq | exact hq.elim
/-- Neither row is the other one. -/
def Apart (v u : Value) : Prop := ∀ b, v.ownBlock = some b → u.ownBlock ≠ some b
structure Stk (w W : World) (v u : Value) (ls rs : List Tm) : Prop where
  below : Below w.heap.size w W
  left : OwnD (fun b => w.heap.size ≤ b) W w.heap.size 24 2 v (ls.map Tm.d)
  right : OwnD (fun b => w.heap.size ≤ b) W w.heap.size 24 2 u (rs.map Tm.d)
  apart : Apart v u
  len : ls.length = rs.length
  size : Tm.sizes ls ≤ 1000000000

set_option maxHeartbeats 4000000 in
set_option maxRecDepth 100000 in
theorem tsame_calls (t u : Tm) (A A2 : Nat → Prop) (h h2 : Int) (s s2 : Value) (w : World) (ht : t.size ≤ 1000000000) (hs : IsTm A w h s t) (hu : IsTm A2 w h2 s2 u) :
    Calls Tryd.prog 66 #[.agg #[.int .i64 h, s], .agg #[.int .i64 h2, s2]] w fun e w' => e = .returned (.bool (sameB t u)) ∧ Below w.heap.size w w' := by
  obtain ⟨rfl, a, c, rfl, hlc, hc⟩ := hs.shape
  obtain ⟨rfl, a2, c2, rfl, hlc2, hc2⟩ := hu.shape
  go_enter Tryd.func66, Tryd.ntmps66
  go_wp2
  refine cut_pl (fun a' w' => ∃ b1 b2 u10 u11 u12 u13, a' = { tmps := #[.agg #[.int .i64 t.h, .slice a t.args.length c], .agg #[.int .i64 u.h, .slice a2 u.args.length c2], .pointer (some ⟨w.heap.size, 0, none⟩), .pointer (some ⟨w.heap.size + 1, 0, none⟩), .bool false, .slice (some ⟨b1, 0, none⟩) 1 1, .slice (some ⟨b2, 0, none⟩) 1 1, undef, undef, undef, u10, u11, u12, u13, undef, undef, undef, undef, undef, undef, undef, undef, undef, undef, undef, undef, undef, undef, undef, undef, undef, undef, undef, undef, undef, undef, undef, undef, undef, undef, undef, undef, undef, undef, undef, undef, undef, undef, undef, undef, undef, undef, undef, undef, undef, undef], defers := [] } ∧ w.heap.size ≤ b1 ∧ w.heap.size ≤ b2 ∧ b1 ≠ b2 ∧ w'.heap[b1]? = some (.cells #[.int .i64 t.h, .slice a t.args.length c] 24 (0, 0)) ∧ w'.heap[b2]? = some (.cells #[.int .i64 u.h, .slice a2 u.args.length c2] 24 (0, 0)) ∧ Below w.heap.size w w') ?_ ?_
  · go_region
    · have hWa : ∀ k o, [Obj.cells #[.int .i64 t.h, .slice a t.args.length c] 24, .cells #[.int .i64 u.h, .slice a2 u.args.length c2] 24, .cells #[.int .i64 t.h, .slice a t.args.length c] 24, .cells #[.int .i64 u.h, .slice a2 u.args.length c2] 24][k]? = some o → _ := fun k o h => allocs_get w _ k o h
      exact ⟨_, _, _, _, _, _, rfl, by omega, by omega, by omega, hWa 2 _ rfl, hWa 3 _ rfl, (allocs_below w [Obj.cells #[.int .i64 t.h, .slice a t.args.length c] 24, .cells #[.int .i64 u.h, .slice a2 u.args.length c2] 24, .cells #[.int .i64 t.h, .slice a t.args.length c] 24, .cells #[.int .i64 u.h, .slice a2 u.args.length c2] 24]).drew⟩
    · have hWa : ∀ k o, [Obj.cells #[.int .i64 t.h, .slice a t.args.length c] 24, .cells #[.int .i64 u.h, .slice a2 u.args.length c2] 24, .cells #[.int .i64 u.h, .slice a2 u.args.length c2] 24, .cells #[.int .i64 t.h, .slice a t.args.length c] 24][k]? = some o → _ := fun k o h => allocs_get w _ k o h
      exact ⟨_, _, _, _, _, _, rfl, by omega, by omega, by omega, hWa 3 _ rfl, hWa 2 _ rfl, (allocs_below w [Obj.cells #[.int .i64 t.h, .slice a t.args.length c] 24, .cells #[.int .i64 u.h, .slice a2 u.args.length c2] 24, .cells #[.int .i64 u.h, .slice a2 u.args.length c2] 24, .cells #[.int .i64 t.h, .slice a t.args.length c] 24]).drew⟩
  rintro _ W ⟨b1, b2, u10, u11, u12, u13, rfl, hb1, hb2, hne, k1, k2, hB⟩
  have hb : Below w.heap.size w W := hB
  have T1 : Terms (fun b => w.heap.size ≤ b) W (.slice a t.args.length c) t.args := RepD.frame (fun b hb hlt => hB.block b hlt) (fun b hb h => by omega) _ _ hs.2
  have T2 : Terms (fun b => w.heap.size ≤ b) W (.slice a2 u.args.length c2) u.args := RepD.frame (fun b hb hlt => hB.block b hlt) (fun b hb h => by omega) _ _ hu.2
  have O1 : OwnD (fun b => w.heap.size ≤ b) W w.heap.size 24 2 (.slice (some ⟨b1, 0, none⟩) 1 1) [t.d] := OwnD.lit2 k1 hb1 (repTm.2 ⟨_, rfl, T1.bar fun b _ h => by omega⟩)
  have O2 : OwnD (fun b => w.heap.size ≤ b) W w.heap.size 24 2 (.slice (some ⟨b2, 0, none⟩) 1 1) [u.d] := OwnD.lit2 k2 hb2 (repTm.2 ⟨_, rfl, T2.bar fun b _ h => by omega⟩)
  have HS : Stk w W (.slice (some ⟨b1, 0, none⟩) 1 1) (.slice (some ⟨b2, 0, none⟩) 1 1) [t] [u] := ⟨hB, O1, O2, fun b h1 h2 => by simp [Value.ownBlock] at h1 h2; omega, rfl, by simp [Tm.sizes]; omega⟩
  have HG := hide (show sameB t u = true ↔ [t] = [u] by rw [sameB_iff]; simp)
  clear T1 T2 O1 O2 k1 k2 hb hB hs hu
  go_wp2
  go_loopg [5, 6] (t.size + 1) (fun k v x wr => ∃ ls rs, k = Tm.sizes ls + 1 ∧ Stk w wr v x ls rs ∧ Hid (sameB t u = true ↔ ls = rs))
  case atStart => exact ⟨[t], [u], by simp [Tm.sizes], HS, HG⟩
  case round =>
    obtain ⟨ls, rs, rfl, hst, hg⟩ := hrel
    rcases unsnoc ls with rfl | ⟨ls, x, rfl⟩
    · obtain ⟨ad, cp, rfl⟩ := hst.left.shape
      have hr0 : rs = [] := List.eq_nil_of_length_eq_zero (by have := hst.len; simpa using this.symm)
      have HX := hide (show sameB t u = true by rw [hg.out]; exact hr0.symm)
      have hB := hst.below
      clear hg hst hr0 HS HG
      go_wp2
      go_ret
      rw [HX.out]
      exact ⟨rfl, hB⟩
    · rcases unsnoc rs with rfl | ⟨rs, y, rfl⟩
      · exact absurd hst.len (by simp)
      have hlen : ls.length = rs.length := by have := hst.len; simpa using this
      have hszs := hst.size
      rw [Tm.sizes_append] at hszs
      have hx1 := x.size_eq
      simp only [Tm.sizes] at hszs
      have hls : ls.length ≤ 1000000000 := by have := Tm.sizes_length ls; omega
      have hO1 := hst.left
      have hO2 := hst.right
      have hap := hst.apart
      have hB := hst.below
      rw [List.map_append, List.map_cons, List.map_nil] at hO1 hO2
      obtain ⟨g1, cap1, cs1, rfl, hg1, hg1', hc1, hc1', hk1, e1, d1, P1⟩ := hO1.last (by omega)
      obtain ⟨g2, cap2, cs2, rfl, hg2, hg2', hc2', hc2'', hk2, e2, d2, P2⟩ := hO2.last (by omega)
      simp only [List.length_map] at hc1 hc2' e1 e2 P1 P2 hst hap ⊢
      simp only [← hlen] at hc2' e2 P2 hst hap ⊢
      obtain ⟨sx, rfl, tx⟩ := repTm.1 d1
      obtain ⟨sy, rfl, ty⟩ := repTm.1 d2
      obtain ⟨ax, cx, rfl, hcx, hcx'⟩ := tx.shape
      obtain ⟨ay, cy, rfl, hcy, hcy'⟩ := ty.shape
      have p0 := e1 0 (by omega)
      have p1 := e1 1 (by omega)
      have q0 := e2 0 (by omega)
      have q1 := e2 1 (by omega)
      simp only [Nat.add_zero, List.getElem?_cons_zero, List.getElem?_cons_succ] at p0 p1 q0 q1
      clear e1 e2 d1 d2 hO1 hO2 HS HG
      have HST := hide hst
      clear hst
      have HLEN := hide hlen
      clear hlen
      have HAP := hide hap
      clear hap
      have HP1 := hide P1
      have HP2 := hide P2
      clear P1 P2
      have HX1 := hide hx1
      clear hx1
      go_wp2
      refine cut_pl (fun a' w' => ∃ B1 B2 u14 u15 u16 u17 u18 u19 u20 u21 u22 u23 u24 u25 u26 u27 u28 u29 u30 u31 u32 u33 u34 u35 u36 u37 u38 u39 u40 u41 u42 u43 u44 u45 u46 u47 u48 u49 u50 u51 u52 u53 u54 u55, a' = { tmps := #[.agg #[.int .i64 t.h, .slice a t.args.length c], .agg #[.int .i64 u.h, .slice a2 u.args.length c2], .pointer (some ⟨w.heap.size, 0, none⟩), .pointer (some ⟨w.heap.size + 1, 0, none⟩), u4, .slice (some ⟨g1, 0, none⟩) (ls.length + 1) cap1, .slice (some ⟨g2, 0, none⟩) (ls.length + 1) cap2, .int .i64 ls.length, .pointer (some ⟨B1, 0, none⟩), .pointer (some ⟨B2, 0, none⟩), u10, u11, u12, u13, u14, u15, u16, u17, u18, u19, u20, u21, u22, u23, u24, u25, u26, u27, u28, u29, u30, u31, u32, u33, u34, u35, u36, u37, u38, u39, u40, u41, u42, u43, u44, u45, u46, u47, u48, u49, u50, u51, u52, u53, u54, u55], defers := [] } ∧ wr.heap.size ≤ B1 ∧ wr.heap.size ≤ B2 ∧ B1 ≠ B2 ∧ w'.heap[B1]? = some (.cells #[.int .i64 x.h, .slice ax x.args.length cx] 24 (0, 0)) ∧ w'.heap[B2]? = some (.cells #[.int .i64 y.h, .slice ay y.args.length cy] 24 (0, 0)) ∧ Below wr.heap.size wr w') ?_ ?_
      · have hS : ∀ W', Below wr.heap.size wr W' → Below wr.heap.size wr W' ∧ W'.cell? ⟨g1, ls.length * 2, none⟩ = some (.int .i64 x.h) ∧ W'.cell? ⟨g1, ls.length * 2 + 1, none⟩ = some (.slice ax x.args.length cx) ∧ W'.cell? ⟨g2, ls.length * 2, none⟩ = some (.int .i64 y.h) ∧ W'.cell? ⟨g2, ls.length * 2 + 1, none⟩ = some (.slice ay y.args.length cy) := fun W' hW =>
          ⟨hW, (hW.cell (p := ⟨g1, ls.length * 2, none⟩) hg1').trans p0, (hW.cell (p := ⟨g1, ls.length * 2 + 1, none⟩) hg1').trans p1, (hW.cell (p := ⟨g2, ls.length * 2, none⟩) hg2').trans q0, (hW.cell (p := ⟨g2, ls.length * 2 + 1, none⟩) hg2').trans q1⟩
        refine drawn_two (fun W' => Below wr.heap.size wr W' ∧ W'.cell? ⟨g1, ls.length * 2, none⟩ = some (.int .i64 x.h) ∧ W'.cell? ⟨g1, ls.length * 2 + 1, none⟩ = some (.slice ax x.args.length cx) ∧ W'.cell? ⟨g2, ls.length * 2, none⟩ = some (.int .i64 y.h) ∧ W'.cell? ⟨g2, ls.length * 2 + 1, none⟩ = some (.slice ay y.args.length cy)) [.take 0, .take 1, .take 2, .take 3, .take 4, .take 5, .take 6, .take 7, .two 8 9, .one 10, .one 11] (by kernel_rfl) (by kernel_rfl) (by kernel_rfl) (by kernel_rfl) (fun _ _ _ _ _ h => h) (hS _ (Below.refl _ _).drew) ?_
        have hi0 : (ls.length : Int) < (ls.length : Int) + 1 := by omega
        iterate 8 (refine p_take (v := ?_) rfl (by rfl) ?_ ?_; rotate_left; (intro w hS; obtain ⟨-, S1, S2, S3, S4⟩ := hS; go_simp; try with_reducible rfl); simp only [Act.put, List.setIfInBounds_toArray, List.set_cons_zero, List.set_cons_succ])
        refine p_two rfl rfl (by rfl) (by rfl) ?_ ?_
        · intro K hK
          go_simp
          refine hK.out _ _ (hS _ ((Below.refl _ _).drew.alloc (Nat.le_refl _) _)) ?_
          refine p_then rfl (by rfl) ?_
          clear hK K
          intro K hK
          go_simp
          have hW3 : Below wr.heap.size wr (((wr.alloc (.cells #[.int .i64 0, .slice none 0 0] 24)).alloc (.cells #[.int .i64 0, .slice none 0 0] 24)).drew) := (((Below.refl wr.heap.size wr).alloc (Nat.le_refl _) (.cells #[.int .i64 0, .slice none 0 0] 24)).alloc (by simp) (.cells #[.int .i64 0, .slice none 0 0] 24)).drew
          refine hK.out _ _ (hS _ hW3) ?_
          clear hK K
          have b0 := World.alloc_heap_new wr (.cells #[.int .i64 0, .slice none 0 0] 24)
          have b9 : (((wr.alloc (.cells #[.int .i64 0, .slice none 0 0] 24)).alloc (.cells #[.int .i64 0, .slice none 0 0] 24)).drew).heap[wr.heap.size + 1]? = some (.cells #[.int .i64 0, .slice none 0 0] 24 (0, 0)) := by
            have h := World.alloc_heap_new (wr.alloc (.cells #[.int .i64 0, .slice none 0 0] 24)) (.cells #[.int .i64 0, .slice none 0 0] 24)
            rw [World.size_alloc] at h
            exact h
          have b8 : (((wr.alloc (.cells #[.int .i64 0, .slice none 0 0] 24)).alloc (.cells #[.int .i64 0, .slice none 0 0] 24)).drew).heap[wr.heap.size]? = some (.cells #[.int .i64 0, .slice none 0 0] 24 (0, 0)) := (Below.heap_alloc (wr.alloc (.cells #[.int .i64 0, .slice none 0 0] 24)) (.cells #[.int .i64 0, .slice none 0 0] 24) _ (by simp)).trans b0
          generalize (((wr.alloc (.cells #[.int .i64 0, .slice none 0 0] 24)).alloc (.cells #[.int .i64 0, .slice none 0 0] 24)).drew) = W3 at *
          clear b0
          obtain ⟨l8, z0, z1, z2, z3⟩ := box2 b8
          obtain ⟨l9, y0, y1, y2, y3⟩ := box2 b9
          refine p_one rfl (by rfl) ?_
          intro K hK
          go_simp
          have hW4 := set2_below (b := wr.heap.size) hW3 (by omega) (.int .i64 x.h) (.slice ax x.args.length cx)
          have c8 := box2_set b8 (.int .i64 x.h) (.slice ax x.args.length cx)
          have c9 := (Keep.refl (fun b => b ≠ wr.heap.size) W3).setCell (p := ⟨wr.heap.size, 0, none⟩) (by simp) (.int .i64 x.h) |>.setCell (p := ⟨wr.heap.size, 1, none⟩) (by simp) (.slice ax x.args.length cx) |>.obj (by omega) b9
          refine hK.out _ _ (hS _ hW4) ?_
          clear hK K
          generalize ((W3.setCell ⟨wr.heap.size, 0, none⟩ (.int .i64 x.h)).setCell ⟨wr.heap.size, 1, none⟩ (.slice ax x.args.length cx)) = W4 at *
          clear l8 l9 z0 z1 z2 z3 y0 y1 y2 y3 b8 b9
          obtain ⟨l9, y0, y1, y2, y3⟩ := box2 c9
          refine p_one rfl (by rfl) ?_
          intro K hK
          go_simp
          have hW5 := set2_below (b := wr.heap.size + 1) hW4 (by omega) (.int .i64 y.h) (.slice ay y.args.length cy)
          have d9 := box2_set c9 (.int .i64 y.h) (.slice ay y.args.length cy)
          have d8 := (Keep.refl (fun b => b ≠ wr.heap.size + 1) W4).setCell (p := ⟨wr.heap.size + 1, 0, none⟩) (by simp) (.int .i64 y.h) |>.setCell (p := ⟨wr.heap.size + 1, 1, none⟩) (by simp) (.slice ay y.args.length cy) |>.obj (by omega) c8
          refine hK.out _ _ (hS _ hW5) ?_
          clear hK K
          refine p_done ?_
          exact ⟨_, _, _, _, _, _, _, _, _, _, _, _, _, _, _, _, _, _, _, _, _, _, _, _, _, _, _, _, _, _, _, _, _, _, _, _, _, _, _, _, _, _, _, _, rfl, by omega, by omega, by omega, d8, d9, hW5⟩
        · intro K hK
          go_simp
          refine hK.out _ _ (hS _ ((Below.refl _ _).drew.alloc (Nat.le_refl _) _)) ?_
          refine p_then rfl (by rfl) ?_
          clear hK K
          intro K hK
          go_simp
          have hW3 : Below wr.heap.size wr (((wr.alloc (.cells #[.int .i64 0, .slice none 0 0] 24)).alloc (.cells #[.int .i64 0, .slice none 0 0] 24)).drew) := (((Below.refl wr.heap.size wr).alloc (Nat.le_refl _) (.cells #[.int .i64 0, .slice none 0 0] 24)).alloc (by simp) (.cells #[.int .i64 0, .slice none 0 0] 24)).drew
          refine hK.out _ _ (hS _ hW3) ?_
          clear hK K
          have b0 := World.alloc_heap_new wr (.cells #[.int .i64 0, .slice none 0 0] 24)
          have b8 : (((wr.alloc (.cells #[.int .i64 0, .slice none 0 0] 24)).alloc (.cells #[.int .i64 0, .slice none 0 0] 24)).drew).heap[wr.heap.size + 1]? = some (.cells #[.int .i64 0, .slice none 0 0] 24 (0, 0)) := by
            have h := World.alloc_heap_new (wr.alloc (.cells #[.int .i64 0, .slice none 0 0] 24)) (.cells #[.int .i64 0, .slice none 0 0] 24)
            rw [World.size_alloc] at h
            exact h
          have b9 : (((wr.alloc (.cells #[.int .i64 0, .slice none 0 0] 24)).alloc (.cells #[.int .i64 0, .slice none 0 0] 24)).drew).heap[wr.heap.size]? = some (.cells #[.int .i64 0, .slice none 0 0] 24 (0, 0)) := (Below.heap_alloc (wr.alloc (.cells #[.int .i64 0, .slice none 0 0] 24)) (.cells #[.int .i64 0, .slice none 0 0] 24) _ (by simp)).trans b0
          generalize (((wr.alloc (.cells #[.int .i64 0, .slice none 0 0] 24)).alloc (.cells #[.int .i64 0, .slice none 0 0] 24)).drew) = W3 at *
          clear b0
          obtain ⟨l8, z0, z1, z2, z3⟩ := box2 b8
          obtain ⟨l9, y0, y1, y2, y3⟩ := box2 b9
          refine p_one rfl (by rfl) ?_
          intro K hK
          go_simp
          have hW4 := set2_below (b := wr.heap.size + 1) hW3 (by omega) (.int .i64 x.h) (.slice ax x.args.length cx)
          have c8 := box2_set b8 (.int .i64 x.h) (.slice ax x.args.length cx)
          have c9 := (Keep.refl (fun b => b ≠ wr.heap.size + 1) W3).setCell (p := ⟨wr.heap.size + 1, 0, none⟩) (by simp) (.int .i64 x.h) |>.setCell (p := ⟨wr.heap.size + 1, 1, none⟩) (by simp) (.slice ax x.args.length cx) |>.obj (by omega) b9
          refine hK.out _ _ (hS _ hW4) ?_
          clear hK K
          generalize ((W3.setCell ⟨wr.heap.size + 1, 0, none⟩ (.int .i64 x.h)).setCell ⟨wr.heap.size + 1, 1, none⟩ (.slice ax x.args.length cx)) = W4 at *
          clear l8 l9 z0 z1 z2 z3 y0 y1 y2 y3 b8 b9
          obtain ⟨l9, y0, y1, y2, y3⟩ := box2 c9
          refine p_one rfl (by rfl) ?_
          intro K hK
          go_simp
          have hW5 := set2_below (b := wr.heap.size) hW4 (by omega) (.int .i64 y.h) (.slice ay y.args.length cy)
          have d9 := box2_set c9 (.int .i64 y.h) (.slice ay y.args.length cy)
          have d8 := (Keep.refl (fun b => b ≠ wr.heap.size) W4).setCell (p := ⟨wr.heap.size, 0, none⟩) (by simp) (.int .i64 y.h) |>.setCell (p := ⟨wr.heap.size, 1, none⟩) (by simp) (.slice ay y.args.length cy) |>.obj (by omega) c8
          refine hK.out _ _ (hS _ hW5) ?_
          clear hK K
          refine p_done ?_
          exact ⟨_, _, _, _, _, _, _, _, _, _, _, _, _, _, _, _, _, _, _, _, _, _, _, _, _, _, _, _, _, _, _, _, _, _, _, _, _, _, _, _, _, _, _, _, rfl, by omega, by omega, by omega, d8, d9, hW5⟩
      rintro _ W2 ⟨B1, B2, u14, u15, u16, u17, u18, u19, u20, u21, u22, u23, u24, u25, u26, u27, u28, u29, u30, u31, u32, u33, u34, u35, u36, u37, u38, u39, u40, u41, u42, u43, u44, u45, u46, u47, u48, u49, u50, u51, u52, u53, u54, u55, rfl, hB1, hB2, hne2, k1, k2, hW2⟩
      go_wp2
      refine cut_pl (fun a' w' => ∃ u14 u15 u16 u17 u18 u19 u20 u21 u22 u23 u24 u25 u26 u27 u28 u29 u30 u31 u32 u33 u34 u35 u36 u37 u38 u39 u40 u41 u42 u43 u44 u45 u46 u47 u48 u49 u50 u51 u52 u53 u54 u55, a' = { tmps := #[.agg #[.int .i64 t.h, .slice a t.args.length c], .agg #[.int .i64 u.h, .slice a2 u.args.length c2], .pointer (some ⟨w.heap.size, 0, none⟩), .pointer (some ⟨w.heap.size + 1, 0, none⟩), u4, .slice (some ⟨g1, 0, none⟩) ls.length cap1, .slice (some ⟨g2, 0, none⟩) ls.length cap2, .int .i64 ls.length, .pointer (some ⟨B1, 0, none⟩), .pointer (some ⟨B2, 0, none⟩), u10, u11, u12, u13, u14, u15, u16, u17, u18, u19, u20, u21, u22, u23, u24, u25, u26, u27, u28, u29, u30, u31, u32, u33, u34, u35, u36, u37, u38, u39, u40, u41, u42, u43, u44, u45, u46, u47, u48, u49, u50, u51, u52, u53, u54, u55], defers := [] } ∧ w' = W2.drew) ?_ ?_
      · refine drawn_two (fun _ => True) [.take 0, .take 1, .take 2, .take 3, .take 4, .take 5, .take 6, .take 7] (by kernel_rfl) (by kernel_rfl) (by kernel_rfl) (by kernel_rfl) (fun _ _ _ _ _ h => h) trivial ?_
        have hi1 : ls.length ≤ cap1 := by omega
        have hi2 : ls.length ≤ cap2 := by omega
        iterate 8 (refine p_take (v := ?_) rfl (by rfl) ?_ ?_; rotate_left; (intro w _; go_simp; try with_reducible rfl); simp only [Act.put, List.setIfInBounds_toArray, List.set_cons_zero, List.set_cons_succ])
        exact p_done ⟨_, _, _, _, _, _, _, _, _, _, _, _, _, _, _, _, _, _, _, _, _, _, _, _, _, _, _, _, _, _, _, _, _, _, _, _, _, _, _, _, _, _, rfl, rfl⟩
      rintro _ _ ⟨u14, u15, u16, u17, u18, u19, u20, u21, u22, u23, u24, u25, u26, u27, u28, u29, u30, u31, u32, u33, u34, u35, u36, u37, u38, u39, u40, u41, u42, u43, u44, u45, u46, u47, u48, u49, u50, u51, u52, u53, u54, u55, rfl, rfl⟩
      have hW3 := hW2.drew
      have k1' : W2.drew.heap[B1]? = _ := k1
      have k2' : W2.drew.heap[B2]? = _ := k2
      generalize W2.drew = W3 at *
      clear k1 k2 hW2 p0 p1 q0 q1
      obtain ⟨-, z0, z1, -, -⟩ := box2 k1'
      obtain ⟨-, y0, y1, -, -⟩ := box2 k2'
      by_cases hh : x.h = y.h ∧ x.args.length = y.args.length
      · obtain ⟨h1, h2⟩ := hh
        have HXY := hide (show x.h = y.h ∧ x.args.length = y.args.length from ⟨h1, h2⟩)
        have hal : x.args.length ≤ Tm.sizes x.args := Tm.sizes_length _
        have hx1 := HX1.out
        have hlls : ls.length ≤ Tm.sizes ls := Tm.sizes_length _
        have hbd : ls.length + x.args.length ≤ 1000000000 := by omega
        clear hx1 hal hlls
        have l1 : x.h ≤ y.h := by omega
        have l2 : y.h ≤ x.h := by omega
        have l3 : x.args.length ≤ y.args.length := by omega
        have l4 : y.args.length ≤ x.args.length := by omega
        clear h1 h2
        go_wp2
        refine cut_end (fun a' w' => ∃ v1 v2 u14 u15 u16 u17 u18 u19 u20 u21 u22 u23 u24 u25 u26 u27 u28 u29 u30 u31 u32 u33 u34 u35 u36 u37 u38 u39 u40 u41 u42 u43 u44 u45 u46 u47 u48 u49 u50 u51 u52 u53 u54 u55, a' = { tmps := #[.agg #[.int .i64 t.h, .slice a t.args.length c], .agg #[.int .i64 u.h, .slice a2 u.args.length c2], .pointer (some ⟨w.heap.size, 0, none⟩), .pointer (some ⟨w.heap.size + 1, 0, none⟩), u4, v1, v2, .int .i64 ls.length, .pointer (some ⟨B1, 0, none⟩), .pointer (some ⟨B2, 0, none⟩), u10, u11, u12, u13, u14, u15, u16, u17, u18, u19, u20, u21, u22, u23, u24, u25, u26, u27, u28, u29, u30, u31, u32, u33, u34, u35, u36, u37, u38, u39, u40, u41, u42, u43, u44, u45, u46, u47, u48, u49, u50, u51, u52, u53, u54, u55], defers := [] } ∧ Stk w w' v1 v2 (ls ++ x.args) (rs ++ y.args)) ?_ ?_
        · have kk1 := (Array.getElem?_eq_some_iff.1 k1').1
          have kk2 := (Array.getElem?_eq_some_iff.1 k2').1
          have hS : ∀ W' : World, W'.heap[B1]? = W3.heap[B1]? → W'.heap[B2]? = W3.heap[B2]? → W'.cell? ⟨B1, 1, none⟩ = some (.slice ax x.args.length cx) ∧ W'.cell? ⟨B2, 1, none⟩ = some (.slice ay y.args.length cy) := fun W' e1 e2 => by
            obtain ⟨-, -, z1, -, -⟩ := box2 (e1.trans k1')
            obtain ⟨-, -, y1, -, -⟩ := box2 (e2.trans k2')
            exact ⟨z1, y1⟩
          refine drawn_two (fun W' => W'.cell? ⟨B1, 1, none⟩ = some (.slice ax x.args.length cx) ∧ W'.cell? ⟨B2, 1, none⟩ = some (.slice ay y.args.length cy)) [.take 0, .take 1, .take 2, .take 4, .take 5, .take 6, .one 3, .one 7, .take 8, .take 9] (by kernel_rfl) (by kernel_rfl) (by kernel_rfl) (by kernel_rfl) (fun _ _ _ _ _ h => h) (hS _ rfl rfl) ?_
          iterate 6 (refine p_take (v := ?_) rfl (by rfl) ?_ ?_; rotate_left; (intro w hS; obtain ⟨S1, S2⟩ := hS; go_simp; try with_reducible rfl); simp only [Act.put, List.setIfInBounds_toArray, List.set_cons_zero, List.set_cons_succ])
          have hWd := hW3.drew
          generalize hV : W3.drew = V at *
          have eB : ∀ b : Nat, V.heap[b]? = W3.heap[b]? := fun b => by rw [← hV]; rfl
          have P1 := HP1.out.below hWd
          have P2 := HP2.out.below hWd
          have hap : g1 ≠ g2 := fun h => HAP.out g1 rfl (by simp [Value.ownBlock, h])
          have tx' : RepD (fun b => w.heap.size ≤ b ∨ (Value.slice (some ⟨g1, 0, none⟩) ls.length cap1).ownBlock = some b) V (.row 2 (x.args.map Tm.d)) [.slice ax x.args.length cx] := by
            have := (tx.below hWd).bar (B := fun b => w.heap.size ≤ b ∨ (Value.slice (some ⟨g1, 0, none⟩) ls.length cap1).ownBlock = some b) fun b _ h => by
              rcases h with h | h
              · exact .inl h
              · exact .inl (by simp [Value.ownBlock] at h; omega)
            simpa only [Terms, Tm.ds_eq] using this
          have ty' : Terms (fun b => w.heap.size ≤ b) V (.slice ay y.args.length cy) y.args := (ty.below hWd).bar fun b _ h => .inl h
          have hVs := hWd.size
          refine p_one rfl (by rfl) ?_
          intro K hK
          refine wp_app_all (.tmp 48) (.tmp 50) 22 rfl w.heap.size 24 (.agg #[.int .i64 0, .slice none 0 0]) 2 32 Tryd.underlying22 (by kernel_rfl) rfl (by decide) (v := .slice (some ⟨g1, 0, none⟩) ls.length cap1) (xv := .slice ax x.args.length cx) rfl rfl P1 tx' (fun d hd => by obtain ⟨z, -, rfl⟩ := List.mem_map.1 hd; exact Tm.oneD z) (by simp [maxLen]; omega) (by simp; omega) (by omega) ?_
          intro v1 w1 o1 kp1 ob1 ⟨ad1, cp1, hv1⟩
          have nB1 : V.heap.size ≤ w1.heap.size := kp1.size
          have kB1 : ∀ b, b < V.heap.size → b ≠ g1 → w1.heap[b]? = V.heap[b]? := fun b hb hne => kp1.block b hb (by simp [Value.ownBlock]; omega)
          have lt1 := o1.lt
          subst hv1
          have lB1 : B1 < V.heap.size := by rw [← hV]; exact kk1
          have lB2 : B2 < V.heap.size := by rw [← hV]; exact kk2
          refine hK.out _ _ (hS _ ((kB1 _ lB1 (by omega)).trans (eB _)) ((kB1 _ lB2 (by omega)).trans (eB _))) ?_
          clear hK K
          simp only [Act.put, List.setIfInBounds_toArray, List.set_cons_zero, List.set_cons_succ]
          have P2' := P2.keep kp1 (fun b _ hb h => by simp [Value.ownBlock] at h; omega) (fun b hb h => by simp [Value.ownBlock] at h hb; omega)
          have ty2 : RepD (fun b => w.heap.size ≤ b ∨ (Value.slice (some ⟨g2, 0, none⟩) ls.length cap2).ownBlock = some b) w1 (.row 2 (y.args.map Tm.d)) [.slice ay y.args.length cy] := by
            have := (ty'.keep kp1 (fun b _ hb h => by simp [Value.ownBlock] at h; omega)).bar (B := fun b => w.heap.size ≤ b ∨ (Value.slice (some ⟨g2, 0, none⟩) ls.length cap2).ownBlock = some b) fun b _ h => by
              rcases h with h | h
              · exact h
              · simp [Value.ownBlock] at h; omega
            simpa only [Terms, Tm.ds_eq] using this
          refine p_one rfl (by rfl) ?_
          intro K hK
          refine wp_app_all (.tmp 52) (.tmp 54) 22 rfl w.heap.size 24 (.agg #[.int .i64 0, .slice none 0 0]) 2 32 Tryd.underlying22 (by kernel_rfl) rfl (by decide) (v := .slice (some ⟨g2, 0, none⟩) ls.length cap2) (xv := .slice ay y.args.length cy) rfl rfl P2' ty2 (fun d hd => by obtain ⟨z, -, rfl⟩ := List.mem_map.1 hd; exact Tm.oneD z) (by have := HLEN.out; simp [maxLen]; omega) (by have := HLEN.out; simp; omega) (by omega) ?_
          intro v2 w2 o2 kp2 ob2 ⟨ad2, cp2, hv2⟩
          subst hv2
          have kB2 : ∀ b, b < w1.heap.size → b ≠ g2 → w2.heap[b]? = w1.heap[b]? := fun b hb hne => kp2.block b hb (by simp [Value.ownBlock]; omega)
          refine hK.out _ _ (hS _ ((kB2 _ (by omega) (by omega)).trans ((kB1 _ lB1 (by omega)).trans (eB _))) ((kB2 _ (by omega) (by omega)).trans ((kB1 _ lB2 (by omega)).trans (eB _)))) ?_
          clear hK K
          simp only [Act.put, List.setIfInBounds_toArray, List.set_cons_zero, List.set_cons_succ]
          have hfin : Stk w w2 _ _ (ls ++ x.args) (rs ++ y.args) := {
            below := ((more_below hB hWd).trans (kp1.below (fun b hb h => by simp [Value.ownBlock] at h; omega) (by omega))).trans (kp2.below (fun b hb h => by simp [Value.ownBlock] at h; omega) (by omega))
            left := by
              rw [List.map_append]
              exact o1.keep kp2 (fun b _ hb h => by simp [Value.ownBlock] at h; omega) (fun b hb h => by
                have := ob1 b hb
                have := lt1 b hb
                simp [Value.ownBlock] at h this
                rcases ob1 b hb with h9 | h9
                · simp [Value.ownBlock] at h9; omega
                · omega)
            right := by rw [List.map_append]; exact o2
            apart := fun b hb1 hb2 => by
              have l1 := lt1 b hb1
              rcases ob1 b hb1 with h9 | h9
              · simp [Value.ownBlock] at h9
                rcases ob2 b hb2 with h8 | h8
                · simp [Value.ownBlock] at h8; omega
                · omega
              · rcases ob2 b hb2 with h8 | h8
                · simp [Value.ownBlock] at h8; omega
                · omega
            len := by rw [List.length_append, List.length_append, HLEN.out, HXY.out.2]
            size := by rw [Tm.sizes_append]; have := HX1.out; omega }
          simp only [List.length_map] at hfin
          iterate 2 (refine p_take (v := ?_) rfl (by rfl) ?_ ?_; rotate_left; (intro w hS; obtain ⟨S1, S2⟩ := hS; go_simp; try with_reducible rfl); simp only [Act.put, List.setIfInBounds_toArray, List.set_cons_zero, List.set_cons_succ])
          exact p_done ⟨_, _, _, _, _, _, _, _, _, _, _, _, _, _, _, _, _, _, _, _, _, _, _, _, _, _, _, _, _, _, _, _, _, _, _, _, _, _, _, _, _, _, _, _, rfl, hfin⟩
        rintro _ W5 ⟨v1, v2, u14, u15, u16, u17, u18, u19, u20, u21, u22, u23, u24, u25, u26, u27, u28, u29, u30, u31, u32, u33, u34, u35, u36, u37, u38, u39, u40, u41, u42, u43, u44, u45, u46, u47, u48, u49, u50, u51, u52, u53, u54, u55, rfl, hst5⟩
        have HG5 := hide (show sameB t u = true ↔ ls ++ x.args = rs ++ y.args by
          rw [hg.out]
          have hl9 := HLEN.out
          have hxy := HXY.out
          constructor
          · intro h
            obtain ⟨h3, h4⟩ := List.append_inj h hl9
            simp only [List.cons.injEq, and_true] at h4
            rw [h3, h4]
          · intro h
            obtain ⟨h3, h4⟩ := List.append_inj h hl9
            have : x = y := by
              cases x; cases y
              simp only [Tm.h, Tm.args] at hxy h4
              rw [hxy.1, h4]
            rw [h3, this])
        go_wp2
        go_roundg (Tm.sizes (ls ++ x.args) + 1)
        case measure => rw [Tm.sizes_append, Tm.sizes_append]; have := HX1.out; simp only [Tm.sizes]; omega
        case rel => exact ⟨_, _, rfl, hst5, HG5⟩
      · have HX := hide (show sameB t u = false by
          cases hb : sameB t u with
          | false => rfl
          | true =>
            have := hg.out.1 hb
            have h9 := List.append_inj_right' this rfl
            simp only [List.cons.injEq, and_true] at h9
            exact absurd (by rw [h9]; exact ⟨rfl, rfl⟩) hh)
        have hB9 := more_below hB hW3
        clear hg
        by_cases h1 : x.h = y.h
        · have h2 : ¬ x.args.length = y.args.length := fun h => hh ⟨h1, h⟩
          clear hh
          go_wp2
          go_ret
          rw [HX.out]
          exact ⟨rfl, hB9⟩
        · clear hh
          go_wp2
          go_ret
          rw [HX.out]
          exact ⟨rfl, hB9⟩
end Go.Proofs.YtneecjikdghchaaDoor
