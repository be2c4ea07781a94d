/- elenchusref06.Bank in memory; Find, Copy, walked. -/
import Derived.Test.YtefmgooceeigbaaDoorBank8
import Derived.Laws.OwnMore
set_option linter.unusedSimpArgs false
set_option linter.unusedVariables false
namespace Go.Proofs.YtefmgooceeigbaaDoor
open Go.RowKit

/-- The last of a row of the call's own, written anew. -/
theorem OwnD.put2 {A : Nat → Prop} {W : World} {base e g n cap : Nat} {ds : List D} {d0 d : D} {c0 c1 : Value} (h : OwnD A W base e 2 (.slice (some ⟨g, 0, none⟩) (n + 1) cap) (ds ++ [d0])) (hn : ds.length = n) (hd : RepD (fun b => A b ∨ b = g) W d [c0, c1]) :
    OwnD A ((W.setCell ⟨g, n * 2, none⟩ c0).setCell ⟨g, n * 2 + 1, none⟩ c1) base e 2 (.slice (some ⟨g, 0, none⟩) (n + 1) cap) (ds ++ [d]) := by
  obtain ⟨css, h1, h2, h3⟩ := h
  obtain ⟨css', cs, rfl, h4, h5⟩ := h3.unsnoc
  have hlen : css'.length = ds.length := h4.length
  have hl' : ∀ c, c ∈ css' → c.length = 2 := fun c hc => h2 c (by simp [hc])
  have hcs : cs.length = 2 := h2 cs (by simp)
  have hfl : css'.flatten.length = n * 2 := by rw [flat_length hl', hlen, hn]
  have hl9 : (ds ++ [d0]).length = n + 1 := by simp [hn]
  rw [hl9] at h1
  have s1 := ((h1.stored (n * 2) c0).1.stored (n * 2 + 1) c1).1
  have hset : ((css' ++ [cs]).flatten.set (n * 2) c0).set (n * 2 + 1) c1 = (css' ++ [[c0, c1]]).flatten := by
    match cs, hcs with
    | [x, y], _ =>
      simp only [List.flatten_append, List.flatten_cons, List.flatten_nil, List.append_nil]
      rw [List.set_append_right _ _ (by omega), List.set_append_right _ _ (by omega), hfl]
      simp
  rw [hset] at s1
  have hk : Keep (fun b => b ≠ g) W ((W.setCell ⟨g, n * 2, none⟩ c0).setCell ⟨g, n * 2 + 1, none⟩ c1) := ((Keep.refl _ _).setCell (p := ⟨g, n * 2, none⟩) (by simp) c0).setCell (p := ⟨g, n * 2 + 1, none⟩) (by simp) c1
  have hf : ∀ c q, RepD (fun b => A b ∨ b = g) W q c → RepD (fun b => A b ∨ (Value.slice (some ⟨g, 0, none⟩) (n + 1) cap).ownBlock = some b) ((W.setCell ⟨g, n * 2, none⟩ c0).setCell ⟨g, n * 2 + 1, none⟩ c1) q c := fun c q h => h.frame (fun b hb hlt => hk.block b hlt fun e => hb (.inr e)) fun b hlt h => by
    rcases h with h | h
    · exact .inl h
    · simp only [Value.ownBlock, Option.some.injEq] at h; exact .inr h.symm
  refine ⟨css' ++ [[c0, c1]], by simpa [hn] using s1, fun c hc => ?_, (h4.imp fun c q h => hf c q (h.bar fun b _ hb => ?_)).append (.cons (hf _ _ hd) .nil)⟩
  · rcases List.mem_append.1 hc with h | h
    · exact hl' c h
    · simp at h; rw [h]; rfl
  · rcases hb with hb | rfl
    · exact .inl hb
    · exact .inr (by simp [Value.ownBlock])

/-- The blocks that the reference's bank is written in. -/
def RZ (yb : Nat) (lv : Value) : Nat → Prop := fun b => b = yb ∨ lv.ownBlock = some b
structure RBk (w : World) (A : Nat → Prop) (yb : Nat) (L : List Tm) (lv : Value) (base : Nat) : Prop where
  x : w.heap[yb]? = some (.cells #[lv] 45 (0, 0))
  r : OwnD (fun b => A b ∨ b = yb) w base 26 2 lv (L.map Tm.d)
  yb0 : base ≤ yb
  ne : lv.ownBlock ≠ some yb
  na : ∀ b, RZ yb lv b → ¬ A b
  la : ∀ b, A b → b < w.heap.size
section
variable {w w' : World} {A A' : Nat → Prop} {yb : Nat} {L : List Tm} {lv : Value} {base : Nat}
theorem box1 {w : World} {b : Nat} {x : Value} {t : TypeId} (h : w.heap[b]? = some (.cells #[x] t (0, 0))) : b < w.heap.size ∧ w.cell? ⟨b, 0, none⟩ = some x ∧ w.frozen? ⟨b, 0, none⟩ = false :=
  ⟨(Array.getElem?_eq_some_iff.1 h).1, by simp [World.cell?, h], by simp [World.frozen?, h]⟩
theorem box1_set {w : World} {b : Nat} {x v : Value} {t : TypeId} (h : w.heap[b]? = some (.cells #[x] t (0, 0))) : (w.setCell ⟨b, 0, none⟩ v).heap[b]? = some (.cells #[v] t (0, 0)) := by
  simp [World.setCell, Array.getElem?_modify, h]
theorem RBk.lt (h : RBk w A yb L lv base) : ∀ b, RZ yb lv b → base ≤ b ∧ b < w.heap.size := by
  rintro b (rfl | hb)
  · exact ⟨h.yb0, (Array.getElem?_eq_some_iff.1 h.x).1⟩
  · exact h.r.lt b hb
theorem RBk.below (h : RBk w A yb L lv base) (hB : Below w.heap.size w w') : RBk w' A yb L lv base :=
  { h with
    x := (hB.block yb (Array.getElem?_eq_some_iff.1 h.x).1).trans h.x
    r := h.r.below hB
    la := fun b hb => Nat.lt_of_lt_of_le (h.la b hb) hB.size }
theorem RBk.step (h : RBk w A yb L lv base) (hs : Moved A A' w w') (la : ∀ b, A' b → b < w'.heap.size) : RBk w' A' yb L lv base :=
  { h with
    x := hs.1.obj (h.na yb (.inl rfl)) h.x
    r := h.r.step hs.1 (fun b _ hb hz => hb (.inl hz)) (fun b hb => h.na b (.inr hb)) fun b hlt hb => by
      rcases hb with hb | hb
      · rcases hs.2 b hb with h9 | h9
        · exact .inl h9
        · omega
      · exact .inr hb
    na := fun b hb hz => by
      rcases hs.2 b hz with h9 | h9
      · exact h.na b hb h9
      · have := (h.lt b hb).2; omega
    la := la }
theorem RBk.bar {B : Nat → Prop} (h : RBk w A yb L lv base) (hB : ∀ b, B b → A b) : RBk w B yb L lv base :=
  { h with
    r := h.r.bar fun b _ hb => by
      rcases hb with hb | hb
      · exact .inl (hB b hb)
      · exact .inr hb
    na := fun b hb hz => h.na b hb (hB b hz)
    la := fun b hb => h.la b (hB b hb) }
/-- Term i as it lies in memory. -/
theorem RBk.row (h : RBk w A yb L lv base) : ∃ a c, lv = .slice a L.length c ∧ ∀ i (hi : i < L.length), ∃ b s, a = some ⟨b, 0, none⟩ ∧ w.cell? ⟨b, i * 2, none⟩ = some (.int .i64 (L[i]).h) ∧ w.cell? ⟨b, i * 2 + 1, none⟩ = some s ∧ Terms (fun b => A b ∨ RZ yb lv b) w s (L[i]).args := by
  obtain ⟨a, c, hv⟩ := h.r.shape
  rw [List.length_map] at hv
  refine ⟨a, c, hv, fun i hi => ?_⟩
  obtain ⟨css, h1, h2, h3⟩ := h.r
  rcases h1.2 with ⟨h0, h0'⟩ | ⟨g, cap, cur, q1, hg, hh, hn, hm, hs, ht⟩
  · rw [List.length_map] at h0'; omega
  · rw [q1] at hv
    simp only [Value.slice.injEq] at hv
    have hR : RepR (fun b => (A b ∨ b = yb) ∨ lv.ownBlock = some b) w g 2 0 (L.map Tm.d) := RepR.of css (L.map Tm.d) 0 h2 (fun j hj => by
      have := h1.cells (g := g) (by rw [q1]; rfl) j (css.flatten[j]) (by simp)
      rw [add_plain] at this
      rw [Nat.zero_add, this]; simp) h3
    obtain ⟨cs, e1, e2, e3⟩ := hR.at i (by simpa using hi)
    simp only [List.getElem_map] at e3
    obtain ⟨s, rfl, e4⟩ := repTm.1 e3
    refine ⟨g, s, hv.1.symm, by simpa using e2 0 (by omega), by simpa using e2 1 (by omega), e4.bar fun b _ hb => ?_⟩
    rcases hb with hb | hb | hb
    · exact .inl (.inl hb)
    · exact .inl (.inr hb)
    · exact .inr hb
end

set_option maxHeartbeats 4000000 in
set_option maxRecDepth 100000 in
theorem rfind_calls (A B : Nat → Prop) (yb : Nat) (L : List Tm) (lv : Value) (base : Nat) (t : Tm) (h : Int) (s : Value) (w : World) (hm : ∀ u, u ∈ L → u.size ≤ 1000000000) (ht : t.size ≤ 1000000000) (hl : L.length ≤ 1000000) (hx : RBk w A yb L lv base) (hs : IsTm B w h s t) :
    Calls Tryd.prog 19 #[.pointer (some ⟨yb, 0, none⟩), .agg #[.int .i64 h, s]] w fun e w' => e = .returned (.tuple #[.int .i64 (numV (rfind L t)), .bool (rfind L t).isSome]) ∧ Below w.heap.size w w' := by
  obtain ⟨rfl, a, c, rfl, hlc, hc⟩ := hs.shape
  have h0 : Below w.heap.size w (w.alloc (.cells #[.int .i64 t.h, .slice a t.args.length c] 26)) := (Below.refl _ _).alloc (Nat.le_refl _) _
  have HK := hide (World.alloc_heap_new w (.cells #[.int .i64 t.h, .slice a t.args.length c] 26))
  have HX := hide (hx.below h0)
  have HS := hide (hs.2.below h0)
  have HB := hide h0
  have HM := hide hm
  have HTZ := hide ht
  clear hx hs h0 hm ht
  go_enter Tryd.func19, Tryd.ntmps19
  go_wp2
  generalize w.alloc (.cells #[.int .i64 t.h, .slice a t.args.length c] 26) = W at *
  obtain ⟨la, lc, hlv, hrow⟩ := HX.out.row
  have HR := hide hrow
  subst hlv
  clear hrow
  go_loopw [6] (fun i wr => ∃ j : Nat, j ≤ L.length ∧ i = .int .i64 j ∧ Hid (∀ k (hk : k < L.length), k < j → sameB L[k] t = false) ∧ Hid (Below W.heap.size W wr)) (fun i _ => L.length - (intOf i).toNat)
  case atStart => exact ⟨0, by omega, rfl, hide (fun k _ h => by omega), hide (Below.refl _ _)⟩
  case round =>
    obtain ⟨j, hj, rfl, HN, HW⟩ := hrel
    have HXr := hide (HX.out.below HW.out)
    obtain ⟨xl, y0, -⟩ := box1 HXr.out.x
    by_cases hlt : j < L.length
    · obtain ⟨b, s, rfl, g0, g1, g2⟩ := HR.out j hlt
      obtain ⟨sa, sc, rfl, -, -⟩ := g2.shape
      have HC := hide (show ∀ W', Below wr.heap.size wr W' → W'.cell? ⟨yb, 0, none⟩ = some (.slice (some ⟨b, 0, none⟩) L.length lc) ∧ W'.cell? ⟨b, j * 2, none⟩ = some (.int .i64 (L[j]).h) ∧ W'.cell? ⟨b, j * 2 + 1, none⟩ = some (.slice sa (L[j]).args.length sc) ∧ W'.cell? ⟨w.heap.size, 0, none⟩ = some (.int .i64 t.h) ∧ W'.cell? ⟨w.heap.size, 1, none⟩ = some (.slice a t.args.length c) from fun W' hW => by
        have hww := more_below HW.out hW
        obtain ⟨-, z0, -⟩ := box1 ((hW.block _ (Array.getElem?_eq_some_iff.1 HXr.out.x).1).trans HXr.out.x)
        obtain ⟨-, z1, z2, -, -⟩ := box2 ((hww.block _ (Array.getElem?_eq_some_iff.1 HK.out).1).trans HK.out)
        exact ⟨z0, (hww.cell (p := ⟨b, j * 2, none⟩) (World.block_lt_of_cell? _ _ g0)).trans g0, (hww.cell (p := ⟨b, j * 2 + 1, none⟩) (World.block_lt_of_cell? _ _ g1)).trans g1, z1, z2⟩)
      have HG2 := hide g2
      clear g0 g1 g2
      go_wp2
      refine drawn_tree (fun W' => W'.cell? ⟨yb, 0, none⟩ = some (.slice (some ⟨b, 0, none⟩) L.length lc) ∧ W'.cell? ⟨b, j * 2, none⟩ = some (.int .i64 (L[j]).h) ∧ W'.cell? ⟨b, j * 2 + 1, none⟩ = some (.slice sa (L[j]).args.length sc) ∧ W'.cell? ⟨w.heap.size, 0, none⟩ = some (.int .i64 t.h) ∧ W'.cell? ⟨w.heap.size, 1, none⟩ = some (.slice a t.args.length c)) (.take 0 (.take 1 (.take 2 (.take 3 (.take 4 (.take 5 (.take 6 (.take 7 (.one 8 .done))))))))) (by kernel_rfl) (by kernel_rfl) (by kernel_rfl) (by kernel_rfl) (fun _ _ _ _ _ h => h) (HC.out _ (Below.refl _ _).drew) ?_
      have gd := (Below.refl wr.heap.size wr).drew
      have HWD := hide (more_below HW.out gd)
      have HCD := hide (show ∀ W', Below wr.drew.heap.size wr.drew W' → _ from fun W' hW => HC.out W' (gd.trans hW))
      clear gd HC HW HXr y0 xl
      generalize wr.drew = wd at *
      iterate 8 (refine t_take (v := ?_) rfl (by rfl) ?_ ?_; rotate_left; (intro w hS; obtain ⟨hS1, hS2, hS3, hS4, hS5⟩ := hS; go_simp; try with_reducible rfl); simp only [Act.put, List.setIfInBounds_toArray, List.set_cons_zero, List.set_cons_succ])
      refine t_one rfl (by rfl) ?_
      intro K hK
      go_simp
      refine (same_calls L[j] t _ _ _ _ _ _ wd (HM.out _ (List.getElem_mem hlt)) HTZ.out ⟨rfl, HG2.out.below HWD.out⟩ ⟨rfl, HS.out.below HWD.out⟩).mono ?_
      rintro e we ⟨rfl, be⟩
      have HWE := hide (more_below HWD.out be)
      have HSA := hide (HCD.out _ be)
      refine hK.out _ _ HSA.out ?_
      clear hK K be HCD HWD
      refine t_done ?_
      cases hsm : sameB L[j] t with
      | true =>
        have HF := hide (show rfind L t = some j from by
          simp only [rfind, List.findIdx?_eq_some_iff_getElem]
          exact ⟨hlt, hsm, fun k hk => by rw [HN.out k (by omega) hk]; simp⟩)
        clear hsm
        go_wp2
        go_ret2
        rw [HF.out]
        exact ⟨rfl, HB.out.trans (HWE.out.mono HB.out.size)⟩
      | false =>
        have HN2 := hide (show ∀ k (hk : k < L.length), k < j + 1 → sameB L[k] t = false from fun k hk h => by
          by_cases h2 : k < j
          · exact HN.out k hk h2
          · obtain rfl : k = j := by omega
            exact hsm)
        clear hsm
        go_wp2
        go_roundw
        case rel => exact ⟨j + 1, by omega, by go_num, HN2, HWE⟩
        case measure => simp [intOf]; omega
    · have HF := hide (show rfind L t = none from by
        simp only [rfind, List.findIdx?_eq_none_iff]
        intro u hu
        obtain ⟨k, hk, rfl⟩ := List.getElem_of_mem hu
        exact HN.out k hk (by omega))
      go_wp2
      go_ret2
      rw [HF.out]
      exact ⟨rfl, HB.out.trans (HW.out.mono HB.out.size)⟩
end Go.Proofs.YtefmgooceeigbaaDoor
