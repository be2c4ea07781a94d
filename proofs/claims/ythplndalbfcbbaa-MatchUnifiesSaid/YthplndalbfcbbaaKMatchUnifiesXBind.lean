/- What the proof of the law rests on: contracts of the functions, plain laws, and words. -/
import Derived.Test.YthplndalbfcbbaaKMatchUnifiesXLook
set_option linter.unusedSimpArgs false
set_option linter.unusedVariables false
namespace Go.Proofs.Ythplndalbfcbbaa
open Go.RowKit
set_option maxHeartbeats 4000000 in
set_option maxRecDepth 100000 in
theorem has_calls (A : Nat → Prop) (sb ss : Nat) (f : Env) (S : Sub) (hS : Solved f S) (v : Int) (h0 : 0 ≤ v) (h1 : v ≤ 255) (hfv : f v = none) (t : Tm) (hg : t.good = true) (h : Int) (s : Value) (w : World) (hsol : SolAt A w sb ss f) (ht : IsTm (OldA sb A) w h s t) :
    Calls Try.prog 182 #[.pointer (some ⟨ss, 0, none⟩), .agg #[.int .i64 h, s], .int .i64 v] w fun e w' => e = .returned (.bool (occB v (app S t))) ∧ Below w.heap.size w w' := by
  obtain ⟨rfl, a, c, rfl, hlc, hcc⟩ := ht.shape
  have hssl := hsol.lt_size
  have hWL : Hid (∀ W, W = allocs w [.cells #[.pointer (some ⟨ss, 0, none⟩)] 129, .cells #[.int .i64 t.h, .slice a t.args.length c] 25, .cells #[.int .i64 v] 3, .cells #[.map none] 236, .cells #[.func (.func 201) #[] #[.pointer (some ⟨w.heap.size + 1 + 1, 0, none⟩), .pointer (some ⟨w.heap.size, 0, none⟩), .pointer (some ⟨w.heap.size + 1 + 1 + 1, 0, none⟩), .pointer (some ⟨w.heap.size + 1 + 1 + 1 + 1, 0, none⟩)]] 27] →
      Below w.heap.size w W ∧ HCtx A sb ss f S v (w.heap.size + 1 + 1) w.heap.size (w.heap.size + 1 + 1 + 1 + 1) (w.heap.size + 1 + 1 + 1) W (fun _ => none) ∧ IsTm (OldA sb A) W t.h (.slice a t.args.length c) t ∧ W.cell? ⟨w.heap.size + 1 + 1 + 1, 0, none⟩ = some (.map none)) := by
    refine hide ?_
    rintro W rfl
    have hB := allocs_below w [.cells #[.pointer (some ⟨ss, 0, none⟩)] 129, .cells #[.int .i64 t.h, .slice a t.args.length c] 25, .cells #[.int .i64 v] 3, .cells #[.map none] 236, .cells #[.func (.func 201) #[] #[.pointer (some ⟨w.heap.size + 1 + 1, 0, none⟩), .pointer (some ⟨w.heap.size, 0, none⟩), .pointer (some ⟨w.heap.size + 1 + 1 + 1, 0, none⟩), .pointer (some ⟨w.heap.size + 1 + 1 + 1 + 1, 0, none⟩)]] 27]
    have hk : ∀ (W : World), W.heap[w.heap.size + 3]? = some (.cells #[.map none] 236 (0, 0)) → W.cell? ⟨w.heap.size + 1 + 1 + 1, 0, none⟩ = some (.map none) := fun W e => (box1 e).2.1
    have e3 := allocs_get w [.cells #[.pointer (some ⟨ss, 0, none⟩)] 129, .cells #[.int .i64 t.h, .slice a t.args.length c] 25, .cells #[.int .i64 v] 3, .cells #[.map none] 236, .cells #[.func (.func 201) #[] #[.pointer (some ⟨w.heap.size + 1 + 1, 0, none⟩), .pointer (some ⟨w.heap.size, 0, none⟩), .pointer (some ⟨w.heap.size + 1 + 1 + 1, 0, none⟩), .pointer (some ⟨w.heap.size + 1 + 1 + 1 + 1, 0, none⟩)]] 27] 3 _ rfl
    have hkc := hk _ e3
    refine ⟨hB, ⟨⟨allocs_get _ _ 2 _ rfl, by omega, fun e => ?_⟩, ⟨allocs_get _ _ 0 _ rfl, by omega, fun e => ?_⟩, ⟨allocs_get _ _ 4 _ rfl, by omega, fun e => ?_⟩, hsol.below hB, ⟨none, e3, fun _ _ => rfl, fun mb e => by cases e⟩, by omega, fun x u e => by cases e⟩, ht.below hB, hkc⟩
    · rw [hkc] at e; simp at e
    · rw [hkc] at e; simp at e
    · rw [hkc] at e; simp at e
  clear hsol ht
  go_enter Try.func182, Try.ntmps182
  go_wp2_with fail
  obtain ⟨hB, hc, ht, hkc⟩ := hWL.out _ rfl
  refine (look_calls A sb ss f S hS v h0 h1 hfv _ _ _ _ (1000000 + (app S t).size * 1000) t.size t (Nat.le_refl _) hg (fun u hu => ?_) _ _ _ _ hc ht).mono ?_
  · have hr := occ_range hg hu
    have := (occ_size (S := S) t hg hu).1
    unfold rankU
    omega
  rintro e w1 ⟨rfl, F', h1, h2⟩
  have HB := hide (show Below w.heap.size w w1 from hB.trans (h2.keep.below (fun b hb => ⟨by omega, fun e => by rw [hkc] at e; simp at e⟩) hB.size))
  clear hWL hB hc ht hkc h1 h2
  go_wp2
  go_ret
  exact ⟨rfl, HB.out⟩
def boundF (r : Bool) (f : Env) (v : Int) (t : Tm) : Env := if r then f else upd f v t
set_option maxHeartbeats 4000000 in
set_option maxRecDepth 100000 in
theorem bind_calls (A : Nat → Prop) (sb ss : Nat) (f : Env) (S : Sub) (hS : Solved f S) (v : Int) (h0 : 0 ≤ v) (h1 : v ≤ 255) (hfv : f v = none) (t : Tm) (hg : t.good = true) (h : Int) (s : Value) (w : World) (hsol : SolAt A w sb ss f) (ht : IsTm (OldA sb A) w h s t) :
    Calls Try.prog 154 #[.pointer (some ⟨ss, 0, none⟩), .int .i64 v, .agg #[.int .i64 h, s]] w fun e w' => e = .returned (.bool (!occB v (app S t))) ∧ Keep (fun b => b ≠ sb) w w' ∧ SolAt A w' sb ss (boundF (occB v (app S t)) f v t) := by
  obtain ⟨rfl, a, c, rfl, hlc, hcc⟩ := ht.shape
  have hB0 : Below w.heap.size w (w.alloc (.cells #[.int .i64 t.h, .slice a t.args.length c] 25)) := (Below.refl _ _).alloc (Nat.le_refl _) _
  have hb0 : (w.alloc (.cells #[.int .i64 t.h, .slice a t.args.length c] 25)).heap[w.heap.size]? = some (.cells #[.int .i64 t.h, .slice a t.args.length c] 25 (0, 0)) := World.alloc_heap_new _ _
  obtain ⟨-, z0, z1, -, -⟩ := box2 hb0
  have hh := has_calls A sb ss f S hS v h0 h1 hfv t hg t.h (.slice a t.args.length c) _ (hsol.below hB0) (ht.below hB0)
  have HSO := hide hsol
  have HT := hide ht
  clear hsol ht
  go_enter Try.func154, Try.ntmps154
  go_wp2_with fail
  refine hh.mono ?_
  rintro e w1 ⟨rfl, hB1⟩
  have HB := hide (more_below hB0 hB1)
  have hb1 := (hB1.block _ (Array.getElem?_eq_some_iff.1 hb0).1).trans hb0
  obtain ⟨-, y0, y1, -, -⟩ := box2 hb1
  clear hh hB0 hb0 hB1 z0 z1
  cases ho : occB v (app S t)
  · have HO := hide ho
    have HS1 := hide (HSO.out.below HB.out)
    have y2 := HS1.out.load
    clear ho
    go_wp2
    obtain ⟨F, m1, m2⟩ := HS1.out.env
    have HMA := hide m1
    have HME := hide m2
    clear m1 m2
    refine drawn_text (fun W' => W'.cell? ⟨ss, 0, none⟩ = some (.map (some sb)) ∧ W'.cell? ⟨w.heap.size, 0, none⟩ = some (.int .i64 t.h) ∧ W'.cell? ⟨w.heap.size, 1, none⟩ = some (.slice a t.args.length c)) [false, false, false, false, false, false, true] [some 11, some 12, some 13, some 14, some 15, some 16, none] (by kernel_rfl) rfl (by kernel_rfl) (by kernel_rfl) (by kernel_rfl) (fun _ _ _ _ _ h => h) ⟨y2, y0, y1⟩ ?_
    iterate 6 (refine txt_take (v := ?_) rfl ?_ ?_; rotate_left; (intro w hS; obtain ⟨hS0, hS1, hS2⟩ := hS; go_simp; try with_reducible rfl); simp only [Act.put, List.setIfInBounds_toArray, List.set_cons_zero, List.set_cons_succ])
    refine txt_do rfl ?_
    intro K hK
    refine store_op (.tmp 14) (.tmp 15) (.tmp 16) 97 rfl Try.underlying3 Try.underlying97 sb F rfl (HMA.out.keep (S := fun _ => True) (.of_below (Below.refl _ _).drew) trivial) v rfl (by omega) (by omega) (.agg #[.int .i64 t.h, .slice a t.args.length c]) rfl ?_
    intro W9 hm9 hk9
    have hk9' : Keep (fun c => c ≠ sb) w1 W9 := Keep.trans ((Keep.refl _ _).drew) hk9
    have hlt := HS1.out.lt
    have hlt2 := HSO.out.lt_size
    refine hK.out _ _ ⟨hk9'.cell (p := ⟨ss, 0, none⟩) (by show ss ≠ sb; omega) y2, hk9'.cell (p := ⟨w.heap.size, 0, none⟩) (by show w.heap.size ≠ sb; omega) y0, hk9'.cell (p := ⟨w.heap.size, 1, none⟩) (by show w.heap.size ≠ sb; omega) y1⟩ ?_
    clear hK K
    refine txt_done ?_
    have HK := hide (show Keep (fun b => b ≠ sb) w W9 from Keep.trans (.of_below HB.out) hk9')
    have HS9 := hide (show SolAt A W9 sb ss (upd f v t) from ⟨hk9'.obj (by omega) HS1.out.cell, ⟨_, hm9, fun x => ⟨fun hx => by
        by_cases e : x = v
        · subst e; simp [upd] at hx
        · simp only [if_neg e]; exact (HME.out x).1 (by simpa [upd, e] using hx), fun u hu => by
        by_cases e : x = v
        · subst e
          simp only [upd, if_true, Option.some.injEq] at hu
          subst hu
          exact ⟨_, by simp, ((HT.out.below HB.out).2.keep hk9' fun b _ hb => fun e => hb (.inl (by omega)))⟩
        · simp only [upd, if_neg e] at hu
          obtain ⟨s2, e1, e2⟩ := (HME.out x).2 u hu
          exact ⟨s2, by simp only [if_neg e]; exact e1, e2.keep hk9' fun b _ hb => fun e => hb (.inl (by omega))⟩⟩⟩, hlt⟩)
    clear hm9 hk9 hk9' y0 y1 y2
    go_wp2
    go_ret
    exact ⟨by rw [HO.out]; rfl, HK.out, by rw [HO.out]; exact HS9.out⟩
  · have HO := hide ho
    have HS1 := hide (HSO.out.below HB.out)
    clear ho
    go_wp2
    go_ret
    exact ⟨by rw [HO.out]; rfl, .of_below HB.out, by rw [HO.out]; exact HS1.out⟩
end Go.Proofs.Ythplndalbfcbbaa
