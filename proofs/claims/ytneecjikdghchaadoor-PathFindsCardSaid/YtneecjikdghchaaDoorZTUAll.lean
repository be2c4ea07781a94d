/- unify.All, unify.Mgu. -/
import Derived.Test.YtneecjikdghchaaDoorZTUniFun
import Derived.Test.YtneecjikdghchaaDoorZTEnd
import Derived.Test.YtneecjikdghchaaDoorZTMatch
import Derived.Test.YtneecjikdghchaaDoorDraw3
import Derived.Deep.LoopGhost
set_option linter.unusedSimpArgs false
set_option linter.unusedVariables false
namespace Go.Proofs.YtneecjikdghchaaDoor
section
open Go.RowKit

def movesS (S : Sub) (v : Int) : Bool := (S v).h != -1 - v
def tidyS (S : Sub) : List Bd × Int := endL S ((upto 256).filter (movesS S)) []
def fuelU (ps ts : List Tm) : Nat := meas (nsubsL (ps ++ ts)) noE varT (ps.zip ts) + 1
def unifyT (ps ts : List Tm) : List Bd × Bool × Int :=
  if ps.length = ts.length ∧ ps.all rightB = true ∧ ts.all rightB = true then
    match unS (fuelU ps ts) varT (ps.zip ts) with
    | some (some S) => ((tidyS S).1, (tidyS S).2 == 0, (tidyS S).2)
    | _ => ([], false, 0)
  else ([], false, 1)
theorem endL_congr {S S' : Sub} : ∀ (vs : List Int) (acc : List Bd), (∀ v, v ∈ vs → S v = S' v) → endL S vs acc = endL S' vs acc
  | [], _, _ => rfl
  | v :: vs, acc, h => by
    simp only [endL]
    rw [h v (by simp), endL_congr vs _ fun u hu => h u (by simp [hu])]
theorem moves_iff {f : Env} {S : Sub} (hS : Solved f S) {v : Int} (h0 : 0 ≤ v) (h1 : v ≤ 255) : movesS S v = (f v).isSome := by
  unfold movesS
  cases hf : f v with
  | none => rw [hS.free v hf]; simp [varT, Tm.h]
  | some t =>
    have hne : (S v).h ≠ -1 - v := fun e => by
      have := hS.idem v v h0 h1 ⟨h0, by rw [← e, Tm.heads_eq]; exact List.mem_cons_self⟩
      rw [hf] at this; cases this
    simpa using hne
theorem dom_moves {f : Env} {S : Sub} (hS : Solved f S) : domL f = (upto 256).filter (movesS S) := by
  unfold domL
  refine List.filter_congr fun v hv => ?_
  have := mem_upto.1 hv
  exact (moves_iff hS this.1 (by omega)).symm
theorem tidyS_congr {S S' : Sub} (h : ∀ v, 0 ≤ v → S v = S' v) : tidyS S = tidyS S' := by
  unfold tidyS
  have e : (upto 256).filter (movesS S) = (upto 256).filter (movesS S') := List.filter_congr fun v hv => by unfold movesS; rw [h v (mem_upto.1 hv).1]
  rw [e]
  exact endL_congr _ _ fun v hv => h v (mem_upto.1 (List.mem_filter.1 hv).1).1
section
variable {ps ts : List Tm}
theorem goods_pair (hp : ps.all rightB = true) (ht : ts.all rightB = true) : Tm.goods (ps ++ ts) = true := goods_of_mem fun t h => by
  rcases List.mem_append.1 h with h | h
  · exact goods_mem (goods_of_right hp) t h
  · exact goods_mem (goods_of_right ht) t h
theorem unify_start (hl : ps.length = ts.length) (h10 : ps.length ≤ 10) (hp : ps.all rightB = true) (ht : ts.all rightB = true) : SState (nsubsL (ps ++ ts)) (ps.zip ts) noE varT (ps.zip ts) :=
  sstate_start (closedL (goods_pair hp ht)) hl h10 (fun t h => inD_nsubsL (goods_pair hp ht) (by simp [h])) (fun t h => inD_nsubsL (goods_pair hp ht) (by simp [h]))
theorem unify_ends (hl : ps.length = ts.length) (h10 : ps.length ≤ 10) (hp : ps.all rightB = true) (ht : ts.all rightB = true) : ∃ r, unS (fuelU ps ts) varT (ps.zip ts) = some r ∧ Ends (nsubsL (ps ++ ts)) (ps.zip ts) r :=
  unS_law (closedL (goods_pair hp ht)) _ _ _ _ _ (unify_start hl h10 hp ht) (RelL.refl _) (Nat.lt_succ_self _)
/-- There is a unifier: it is this one. -/
theorem unify_some (hl : ps.length = ts.length) (h10 : ps.length ≤ 10) (hp : ps.all rightB = true) (ht : ts.all rightB = true) {S : Sub} (hS : Mgu (ps.zip ts) S) : unifyT ps ts = ((tidyS S).1, (tidyS S).2 == 0, (tidyS S).2) := by
  obtain ⟨r, h1, h2⟩ := unify_ends hl h10 hp ht
  unfold unifyT
  rw [if_pos ⟨hl, hp, ht⟩, h1]
  cases r with
  | none => exact absurd hS.sol (h2 S)
  | some S' =>
    obtain ⟨f, g1, g2, g3⟩ := h2
    have e := tidyS_congr (mgu_unique (mgu_of g1 g2) hS)
    simp only [e]
theorem unify_none (hl : ps.length = ts.length) (h10 : ps.length ≤ 10) (hp : ps.all rightB = true) (ht : ts.all rightB = true) (hS : ∀ τ, ¬ Sol τ (ps.zip ts)) : unifyT ps ts = ([], false, 0) := by
  obtain ⟨r, h1, h2⟩ := unify_ends hl h10 hp ht
  unfold unifyT
  rw [if_pos ⟨hl, hp, ht⟩, h1]
  cases r with
  | none => rfl
  | some S' =>
    obtain ⟨f, g1, g2, g3⟩ := h2
    exact absurd (mgu_of g1 g2).sol (hS S')
theorem unify_wrong (h : ¬ (ps.length = ts.length ∧ ps.all rightB = true ∧ ts.all rightB = true)) : unifyT ps ts = ([], false, 1) := by
  unfold unifyT; rw [if_neg h]
end
end
section
open Go.RowKit

theorem uwrong1_calls (t : Tm) (A : Nat → Prop) (h : Int) (s : Value) (w : World) (hs : IsTm A w h s t) (hsz : t.size ≤ 1000000000) :
    Calls Tryd.prog 55 #[.agg #[.int .i64 h, s]] w fun e w' => e = .returned (.bool (chk t != 0)) ∧ Below w.heap.size w w' := by
  obtain ⟨rfl, a, c, rfl, hc1, hc2⟩ := hs.shape
  go_enter Tryd.func55, Tryd.ntmps55
  have B0 : Below w.heap.size w (w.alloc (.cells #[.int .i64 t.h, .slice a t.args.length c] 24)) := (Below.refl _ _).alloc (Nat.le_refl _) _
  go_wp2_with fail
  refine (check_calls t A _ _ _ (hs.below B0) hsz).mono ?_
  rintro e w1 ⟨rfl, h1⟩
  have B1 := more_below B0 h1
  generalize hx : chk t = x at *
  have HX := hide hx
  clear hx
  go_wp2
  go_ret
  rw [HX.out]
  exact ⟨rfl, B1⟩

set_option maxHeartbeats 2000000 in
set_option maxRecDepth 100000 in
theorem uindexf_calls (ts : List Tm) (A : Nat → Prop) (s : Value) (w : World) (hs : Terms A w s ts) (hsz : ∀ t, t ∈ ts → t.size ≤ 1000000000) :
    Calls Tryd.prog 69 #[s, .func (.func 55) #[] #[]] w fun e w' => e = .returned (.int .i64 (badI ts 0)) ∧ Below w.heap.size w w' := by
  obtain ⟨a, c, rfl, hlc, hc⟩ := hs.shape
  have hl : ts.length ≤ 9223372036854775807 := by omega
  have HSZ := hide hsz
  clear hsz
  have HG := hide (show badI (ts.drop 0) ((0 : Nat) : Int) = badI ts 0 by simp)
  go_enter Tryd.func69, Tryd.ntmps69
  go_wp2
  go_loopw [8] (fun i wr => ∃ (k : Nat), k ≤ ts.length ∧ i = .int .i64 k ∧ Hid (badI (ts.drop k) k = badI ts 0) ∧ Below w.heap.size w wr) (fun i _ => ts.length - (intOf i).toNat)
  case atStart => exact ⟨0, by omega, rfl, HG, Below.refl _ _⟩
  case round =>
    obtain ⟨k, hk, rfl, hx, hB⟩ := hrel
    by_cases hlt : k < ts.length
    · obtain ⟨b, off, a', c', rfl, g0, g1, gt⟩ := hs.getW hB k hlt
      have hz := HSZ.out ts[k] (List.getElem_mem hlt)
      have HX2 := hide (hx.out.symm.trans (badI_drop _ _ hlt))
      clear hx
      go_wp2_with fail
      refine (uwrong1_calls ts[k] A _ _ _ gt hz).mono ?_
      rintro e w4 ⟨rfl, h4⟩
      have hB4 := more_below hB h4
      generalize chk ts[k] = x at *
      clear h4 hB g0 g1 gt
      by_cases hx : x = 0
      · have HX := hide (show badI (ts.drop (k + 1)) ((k + 1 : Nat) : Int) = badI ts 0 by rw [HX2.out, if_pos hx])
        subst hx
        clear HX2
        go_wp2
        go_roundw
        case rel => exact ⟨k + 1, by omega, by go_num, HX, hB4⟩
        case measure => simp [intOf]; omega
      · have HX := hide (show (k : Int) = badI ts 0 by rw [HX2.out, if_neg hx])
        have hne : (x != 0) = true := by simpa using hx
        clear hx HX2
        go_wp2
        go_ret
        rw [← HX.out]
        exact ⟨rfl, hB4⟩
    · have HX := hide (show -1 = badI ts 0 by have := hx.out; rw [List.drop_of_length_le (by omega)] at this; simpa [badI] using this)
      clear hx
      go_wp2
      go_ret
      rw [← HX.out]
      exact ⟨rfl, hB⟩
theorem ucontains_calls (ts : List Tm) (A : Nat → Prop) (s : Value) (w : World) (hs : Terms A w s ts) (hsz : ∀ t, t ∈ ts → t.size ≤ 1000000000) :
    Calls Tryd.prog 56 #[s, .func (.func 55) #[] #[]] w fun e w' => e = .returned (.bool (!ts.all rightB)) ∧ Below w.heap.size w w' := by
  obtain ⟨a, c, rfl, hlc, hc⟩ := hs.shape
  have HSZ := hide hsz
  have H9 := hide (badI_all ts 0 (by omega))
  clear hsz
  go_enter Tryd.func56, Tryd.ntmps56
  go_wp2_with fail
  refine (uindexf_calls ts A _ _ hs HSZ.out).mono ?_
  rintro e w1 ⟨rfl, h1⟩
  generalize badI ts 0 = x at *
  by_cases h0 : 0 ≤ x
  · have HY := hide (show true = !ts.all rightB by rw [← H9.out]; simp [h0])
    clear H9
    go_wp2
    go_ret
    rw [← HY.out]
    exact ⟨rfl, h1⟩
  · have HY := hide (show false = !ts.all rightB by rw [← H9.out]; simp [h0])
    clear H9
    go_wp2
    go_ret
    rw [← HY.out]
    exact ⟨by simp [h0], h1⟩
end
section
open Go.RowKit

set_option maxHeartbeats 4000000 in
set_option maxRecDepth 100000 in
theorem has_calls (A : Nat → Prop) (sb ss : Nat) (f : Env) (S : Sub) (hS : Solved f S) (v : Int) (h0 : 0 ≤ v) (h1 : v ≤ 255) (hfv : f v = none) (t : Tm) (hg : t.good = true) (h : Int) (s : Value) (w : World) (hsol : SolAt A w sb ss f) (ht : IsTm (OldA sb A) w h s t) :
    Calls Tryd.prog 91 #[.pointer (some ⟨ss, 0, none⟩), .agg #[.int .i64 h, s], .int .i64 v] w fun e w' => e = .returned (.bool (occB v (app S t))) ∧ Below w.heap.size w w' := by
  obtain ⟨rfl, a, c, rfl, hlc, hcc⟩ := ht.shape
  have hssl := hsol.lt_size
  have hWL : Hid (∀ W, W = allocs w [.cells #[.pointer (some ⟨ss, 0, none⟩)] 100, .cells #[.int .i64 t.h, .slice a t.args.length c] 24, .cells #[.int .i64 v] 3, .cells #[.map none] 152, .cells #[.func (.func 104) #[] #[.pointer (some ⟨w.heap.size + 1 + 1, 0, none⟩), .pointer (some ⟨w.heap.size, 0, none⟩), .pointer (some ⟨w.heap.size + 1 + 1 + 1, 0, none⟩), .pointer (some ⟨w.heap.size + 1 + 1 + 1 + 1, 0, none⟩)]] 26] →
      Below w.heap.size w W ∧ HCtx A sb ss f S v (w.heap.size + 1 + 1) w.heap.size (w.heap.size + 1 + 1 + 1 + 1) (w.heap.size + 1 + 1 + 1) W (fun _ => none) ∧ IsTm (OldA sb A) W t.h (.slice a t.args.length c) t ∧ W.cell? ⟨w.heap.size + 1 + 1 + 1, 0, none⟩ = some (.map none)) := by
    refine hide ?_
    rintro W rfl
    have hB := allocs_below w [.cells #[.pointer (some ⟨ss, 0, none⟩)] 100, .cells #[.int .i64 t.h, .slice a t.args.length c] 24, .cells #[.int .i64 v] 3, .cells #[.map none] 152, .cells #[.func (.func 104) #[] #[.pointer (some ⟨w.heap.size + 1 + 1, 0, none⟩), .pointer (some ⟨w.heap.size, 0, none⟩), .pointer (some ⟨w.heap.size + 1 + 1 + 1, 0, none⟩), .pointer (some ⟨w.heap.size + 1 + 1 + 1 + 1, 0, none⟩)]] 26]
    have hk : ∀ (W : World), W.heap[w.heap.size + 3]? = some (.cells #[.map none] 152 (0, 0)) → W.cell? ⟨w.heap.size + 1 + 1 + 1, 0, none⟩ = some (.map none) := fun W e => (box1 e).2.1
    have e3 := allocs_get w [.cells #[.pointer (some ⟨ss, 0, none⟩)] 100, .cells #[.int .i64 t.h, .slice a t.args.length c] 24, .cells #[.int .i64 v] 3, .cells #[.map none] 152, .cells #[.func (.func 104) #[] #[.pointer (some ⟨w.heap.size + 1 + 1, 0, none⟩), .pointer (some ⟨w.heap.size, 0, none⟩), .pointer (some ⟨w.heap.size + 1 + 1 + 1, 0, none⟩), .pointer (some ⟨w.heap.size + 1 + 1 + 1 + 1, 0, none⟩)]] 26] 3 _ rfl
    have hkc := hk _ e3
    refine ⟨hB, ⟨⟨allocs_get _ _ 2 _ rfl, by omega, fun e => ?_⟩, ⟨allocs_get _ _ 0 _ rfl, by omega, fun e => ?_⟩, ⟨allocs_get _ _ 4 _ rfl, by omega, fun e => ?_⟩, hsol.below hB, ⟨none, e3, fun _ _ => rfl, fun mb e => by cases e⟩, by omega, fun x u e => by cases e⟩, ht.below hB, hkc⟩
    · rw [hkc] at e; simp at e
    · rw [hkc] at e; simp at e
    · rw [hkc] at e; simp at e
  clear hsol ht
  go_enter Tryd.func91, Tryd.ntmps91
  go_wp2_with fail
  obtain ⟨hB, hc, ht, hkc⟩ := hWL.out _ rfl
  refine (look_calls A sb ss f S hS v h0 h1 hfv _ _ _ _ (1000000 + (app S t).size * 1000) t.size t (Nat.le_refl _) hg (fun u hu => ?_) _ _ _ _ hc ht).mono ?_
  · have hr := occ_range hg hu
    have := (occ_size (S := S) t hg hu).1
    unfold rankU
    omega
  rintro e w1 ⟨rfl, F', h1, h2⟩
  have HB := hide (show Below w.heap.size w w1 from hB.trans (h2.keep.below (fun b hb => ⟨by omega, fun e => by rw [hkc] at e; simp at e⟩) hB.size))
  clear hWL hB hc ht hkc h1 h2
  go_wp2
  go_ret
  exact ⟨rfl, HB.out⟩
/-- What is bound behind a binding, that may be refused. -/
def boundF (r : Bool) (f : Env) (v : Int) (t : Tm) : Env := if r then f else upd f v t
set_option maxHeartbeats 4000000 in
set_option maxRecDepth 100000 in
theorem bind_calls (A : Nat → Prop) (sb ss : Nat) (f : Env) (S : Sub) (hS : Solved f S) (v : Int) (h0 : 0 ≤ v) (h1 : v ≤ 255) (hfv : f v = none) (t : Tm) (hg : t.good = true) (h : Int) (s : Value) (w : World) (hsol : SolAt A w sb ss f) (ht : IsTm (OldA sb A) w h s t) :
    Calls Tryd.prog 72 #[.pointer (some ⟨ss, 0, none⟩), .int .i64 v, .agg #[.int .i64 h, s]] w fun e w' => e = .returned (.bool (!occB v (app S t))) ∧ Keep (fun b => b ≠ sb) w w' ∧ SolAt A w' sb ss (boundF (occB v (app S t)) f v t) := by
  obtain ⟨rfl, a, c, rfl, hlc, hcc⟩ := ht.shape
  have hB0 : Below w.heap.size w (w.alloc (.cells #[.int .i64 t.h, .slice a t.args.length c] 24)) := (Below.refl _ _).alloc (Nat.le_refl _) _
  have hb0 : (w.alloc (.cells #[.int .i64 t.h, .slice a t.args.length c] 24)).heap[w.heap.size]? = some (.cells #[.int .i64 t.h, .slice a t.args.length c] 24 (0, 0)) := World.alloc_heap_new _ _
  obtain ⟨-, z0, z1, -, -⟩ := box2 hb0
  have hh := has_calls A sb ss f S hS v h0 h1 hfv t hg t.h (.slice a t.args.length c) _ (hsol.below hB0) (ht.below hB0)
  have HSO := hide hsol
  have HT := hide ht
  clear hsol ht
  go_enter Tryd.func72, Tryd.ntmps72
  go_wp2_with fail
  refine hh.mono ?_
  rintro e w1 ⟨rfl, hB1⟩
  have HB := hide (more_below hB0 hB1)
  have hb1 := (hB1.block _ (Array.getElem?_eq_some_iff.1 hb0).1).trans hb0
  obtain ⟨-, y0, y1, -, -⟩ := box2 hb1
  clear hh hB0 hb0 hB1 z0 z1
  cases ho : occB v (app S t)
  · have HO := hide ho
    have HS1 := hide (HSO.out.below HB.out)
    have y2 := HS1.out.load
    clear ho
    go_wp2
    obtain ⟨F, m1, m2⟩ := HS1.out.env
    have HMA := hide m1
    have HME := hide m2
    clear m1 m2
    refine drawn_text (fun W' => W'.cell? ⟨ss, 0, none⟩ = some (.map (some sb)) ∧ W'.cell? ⟨w.heap.size, 0, none⟩ = some (.int .i64 t.h) ∧ W'.cell? ⟨w.heap.size, 1, none⟩ = some (.slice a t.args.length c)) [false, false, false, false, false, false, true] [some 11, some 12, some 13, some 14, some 15, some 16, none] (by kernel_rfl) rfl (by kernel_rfl) (by kernel_rfl) (by kernel_rfl) (fun _ _ _ _ _ h => h) ⟨y2, y0, y1⟩ ?_
    iterate 6 (refine txt_take (v := ?_) rfl ?_ ?_; rotate_left; (intro w hS; obtain ⟨hS0, hS1, hS2⟩ := hS; go_simp; try with_reducible rfl); simp only [Act.put, List.setIfInBounds_toArray, List.set_cons_zero, List.set_cons_succ])
    refine txt_do rfl ?_
    intro K hK
    refine store_op (.tmp 14) (.tmp 15) (.tmp 16) 91 rfl Tryd.underlying3 Tryd.underlying91 sb F rfl (HMA.out.keep (S := fun _ => True) (.of_below (Below.refl _ _).drew) trivial) v rfl (by omega) (by omega) (.agg #[.int .i64 t.h, .slice a t.args.length c]) rfl ?_
    intro W9 hm9 hk9
    have hk9' : Keep (fun c => c ≠ sb) w1 W9 := Keep.trans ((Keep.refl _ _).drew) hk9
    have hlt := HS1.out.lt
    have hlt2 := HSO.out.lt_size
    refine hK.out _ _ ⟨hk9'.cell (p := ⟨ss, 0, none⟩) (by show ss ≠ sb; omega) y2, hk9'.cell (p := ⟨w.heap.size, 0, none⟩) (by show w.heap.size ≠ sb; omega) y0, hk9'.cell (p := ⟨w.heap.size, 1, none⟩) (by show w.heap.size ≠ sb; omega) y1⟩ ?_
    clear hK K
    refine txt_done ?_
    have HK := hide (show Keep (fun b => b ≠ sb) w W9 from Keep.trans (.of_below HB.out) hk9')
    have HS9 := hide (show SolAt A W9 sb ss (upd f v t) from ⟨hk9'.obj (by omega) HS1.out.cell, ⟨_, hm9, fun x => ⟨fun hx => by
        by_cases e : x = v
        · subst e; simp [upd] at hx
        · simp only [if_neg e]; exact (HME.out x).1 (by simpa [upd, e] using hx), fun u hu => by
        by_cases e : x = v
        · subst e
          simp only [upd, if_true, Option.some.injEq] at hu
          subst hu
          exact ⟨_, by simp, ((HT.out.below HB.out).2.keep hk9' fun b _ hb => fun e => hb (.inl (by omega)))⟩
        · simp only [upd, if_neg e] at hu
          obtain ⟨s2, e1, e2⟩ := (HME.out x).2 u hu
          exact ⟨s2, by simp only [if_neg e]; exact e1, e2.keep hk9' fun b _ hb => fun e => hb (.inl (by omega))⟩⟩⟩, hlt⟩)
    clear hm9 hk9 hk9' y0 y1 y2
    go_wp2
    go_ret
    exact ⟨by rw [HO.out]; rfl, HK.out, by rw [HO.out]; exact HS9.out⟩
  · have HO := hide ho
    have HS1 := hide (HSO.out.below HB.out)
    clear ho
    go_wp2
    go_ret
    exact ⟨by rw [HO.out]; rfl, .of_below HB.out, by rw [HO.out]; exact HS1.out⟩
end
section
open Go.RowKit

def Pd (p : Tm × Tm) : D := .agg [p.1.d, p.2.d]
theorem repPd {A : Nat → Prop} {w : World} {p : Tm × Tm} {cs : List Value} : RepD A w (Pd p) cs ↔ ∃ s1 s2, cs = [.int .i64 p.1.h, s1, .int .i64 p.2.h, s2] ∧ Terms A w s1 p.1.args ∧ Terms A w s2 p.2.args := by
  simp only [Pd, RepD, RepL]
  constructor
  · rintro ⟨c1, c2, rfl, h1, c3, c4, rfl, h2, rfl⟩
    obtain ⟨s1, rfl, h3⟩ := repTm.1 h1
    obtain ⟨s2, rfl, h4⟩ := repTm.1 h2
    exact ⟨s1, s2, by simp, h3, h4⟩
  · rintro ⟨s1, s2, rfl, h1, h2⟩
    exact ⟨[.int .i64 p.1.h, s1], [.int .i64 p.2.h, s2], rfl, repTm.2 ⟨s1, rfl, h1⟩, [.int .i64 p.2.h, s2], [], by simp, repTm.2 ⟨s2, rfl, h2⟩, rfl⟩
theorem Pd.oneD (p : Tm × Tm) : OneD (Pd p) := by
  intro A w cs h u hu
  obtain ⟨s1, s2, rfl, h1, h2⟩ := repPd.1 h
  obtain ⟨a1, c1, rfl, _⟩ := h1.shape
  obtain ⟨a2, c2, rfl, _⟩ := h2.shape
  simp at hu
  rcases hu with rfl | rfl | rfl | rfl <;> rfl
section
variable {P : Program} {W : World} {o : Oper} {a : Act} {K : Act → World → Prop} {Q : Exit → Act → World → Prop} {A : Nat → Prop}
/-- Append of one that was just built, of four cells. -/
theorem app_op4 (s x : Operand) (t : TypeId) (ho : o.op = .call { callee := .builtin .append, args := #[s, x], argTypes := #[t, t] }) (base : Nat) (e : TypeId) (z : Value) (bytes : Nat)
    (ht : P.underlying t = some (.slice e)) (hinfo : (P.info? e).map (fun i => (i.zero, i.size, i.bytes)) = some (some z, 4, bytes)) (hzs : z.cells.size = 4)
    {v : Value} {ds : List D} {d : D} {c1 c2 c3 c4 : Value} (hs : a.eval s = v) (hx : a.eval x = .slice (some ⟨W.heap.size, 0, none⟩) 1 1) (hown : OwnD A W base e 4 v ds) (hd : RepD (fun b => A b ∨ v.ownBlock = some b) W d [c1, c2, c3, c4])
    (h1 : c1.oneCell' = true) (h2 : c2.oneCell' = true) (h3 : c3.oneCell' = true) (h4 : c4.oneCell' = true) (hn : ds.length + 1 ≤ maxLen) (hbytes : (ds.length + 1) * bytes ≤ 140737488355328) (hbase : base ≤ W.heap.size)
    (h : ∀ v' w', OwnD A w' base e 4 v' (ds ++ [d]) → Keep (fun b => v.ownBlock ≠ some b) W w' → (∀ b, v'.ownBlock = some b → v.ownBlock = some b ∨ W.heap.size ≤ b) → K (a.put o.dst v') w') :
    Oper.wp P o a (W.alloc (.cells #[c1, c2, c3, c4] e)) K Q := by
  obtain ⟨i, hi, hz⟩ := Option.map_eq_some_iff.1 hinfo
  simp only [Prod.mk.injEq] at hz
  obtain ⟨hz0, hz1, hz2⟩ := hz
  obtain ⟨css, g1, g2, g3⟩ := hown
  refine wp_append_lies _ s x t ho base e i z 4 bytes ht hi hz0 hz1 hz2 hzs (by omega) v ds.length css.flatten hs (g1.alloc _) ⟨W.heap.size, 0, none⟩ 1 1 [c1, c2, c3, c4] hx rfl
    (World.news_of_block (cs := #[c1, c2, c3, c4]) (World.alloc_heap_new _ _)) (by simp [h1, h2, h3, h4]) (by omega) hn hbytes (by simp; omega) (W.heap.size + 1) (by simp) ?_
  intro g cap w' r1 r2 r3 r4
  have hk : Keep (fun b => v.ownBlock ≠ some b) W w' := ((Keep.refl _ _).alloc _).grown r2 (fun k hk h => h hk)
  have hf : ∀ c d, RepD (fun b => A b ∨ v.ownBlock = some b) W d c → RepD (fun b => A b ∨ (Value.slice (some ⟨g, 0, none⟩) (ds.length + 1) cap).ownBlock = some b) w' d c := fun c d h => h.frame (fun b hb hlt => hk.block b hlt (fun h => hb (.inr h))) (fun b hb h => by
    rcases h with h | h
    · exact .inl h
    · have e1 : g = b := by simpa [Value.ownBlock] using h
      rcases r3 with r3 | r3
      · exact .inr (by rw [r3, e1])
      · omega)
  refine h _ w' ⟨css ++ [[c1, c2, c3, c4]], by simpa using r1, fun c hc => ?_, (g3.imp hf).append (.cons (hf _ _ hd) .nil)⟩ hk (fun b hb => ?_)
  · rcases List.mem_append.1 hc with h | h
    · exact g2 c h
    · simp at h; rw [h]; rfl
  · have e1 : g = b := by simpa [Value.ownBlock] using hb
    rcases r3 with r3 | r3
    · exact .inl (by rw [r3, e1])
    · exact .inr (by omega)
end
/-- The stack: its cell, its row (the top is last). -/
structure StackAt (A : Nat → Prop) (sb stb : Nat) (w : World) (v : Value) (ps : List (Tm × Tm)) : Prop where
  cell : w.heap[stb]? = some (.cells #[v] 113 (0, 0))
  own : OwnD (OldA sb A) w (stb + 1) 115 4 v (ps.map Pd)
theorem StackAt.keep {A S : Nat → Prop} {sb stb : Nat} {w w' : World} {v : Value} {ps : List (Tm × Tm)} (h : StackAt A sb stb w v ps) (hk : Keep S w w') (h1 : S stb) (h2 : ∀ b, b < sb → S b) (h3 : ∀ b, v.ownBlock = some b → S b) : StackAt A sb stb w' v ps :=
  ⟨hk.obj h1 h.cell, h.own.keep hk (fun b _ hb => h2 b (by simp only [OldA, not_or] at hb; omega)) h3⟩
theorem StackAt.below {A : Nat → Prop} {sb stb : Nat} {w w' : World} {v : Value} {ps : List (Tm × Tm)} (h : StackAt A sb stb w v ps) (hB : Below w.heap.size w w') : StackAt A sb stb w' v ps :=
  h.keep (S := fun _ => True) (.of_below hB) trivial (fun _ _ => trivial) (fun _ _ => trivial)
def PutPost (A : Nat → Prop) (sb stb : Nat) (v : Value) (ps : List (Tm × Tm)) (xs ys : List Tm) (w : World) (e : Ending) (w' : World) : Prop :=
  e = .returned (.tuple #[]) ∧ ∃ v', StackAt A sb stb w' v' (ps ++ (xs.zip ys).reverse) ∧ Keep (fun b => b ≠ stb ∧ v.ownBlock ≠ some b) w w'
theorem zip_drop {xs ys : List Tm} {k : Nat} (h : k < xs.length) (hl : xs.length = ys.length) : ((xs.zip ys).drop k).reverse = ((xs.zip ys).drop (k + 1)).reverse ++ [(xs[k], ys[k])] := by
  have hk : k < (xs.zip ys).length := by simp; omega
  rw [List.drop_eq_getElem_cons hk, List.reverse_cons, List.getElem_zip]

set_option maxHeartbeats 4000000 in
set_option maxRecDepth 100000 in
theorem putp_calls (A : Nat → Prop) (sb stb : Nat) (v : Value) (ps : List (Tm × Tm)) (xs ys : List Tm) (s1 s2 : Value) (w : World) (hsb : sb ≤ stb) (hl : xs.length = ys.length) (hn : ps.length + xs.length ≤ 1000000000) (hst : StackAt A sb stb w v ps) (ha : Terms (OldA sb A) w s1 xs) (hb : Terms (OldA sb A) w s2 ys) :
    Calls Tryd.prog 70 #[s1, s2, .pointer (some ⟨stb, 0, none⟩)] w fun e w' => PutPost A sb stb v ps xs ys w e w' := by
  obtain ⟨a1, c1, rfl, hc1, hc1'⟩ := ha.shape
  obtain ⟨a2, c2, rfl, hc2, hc2'⟩ := hb.shape
  have HA := hide ha
  have HB := hide hb
  have HL := hide hl
  have HST0 := hide hst
  clear ha hb hl hst
  have hstl : stb < w.heap.size := (Array.getElem?_eq_some_iff.1 HST0.out.cell).1
  go_enter Tryd.func70, Tryd.ntmps70
  go_wp2
  go_loopw [5] (fun i wr => ∃ (k : Nat) (v' : Value), k ≤ xs.length ∧ i = .int .i64 ((k : Int) - 1) ∧ StackAt A sb stb wr v' (ps ++ ((xs.zip ys).drop k).reverse) ∧ Keep (fun b => b ≠ stb ∧ v.ownBlock ≠ some b) w wr ∧ (∀ b, v'.ownBlock = some b → v.ownBlock = some b ∨ w.heap.size ≤ b)) (fun i _ => (intOf i + 1).toNat)
  case atStart => exact ⟨xs.length, v, Nat.le_refl _, rfl, by rw [List.drop_eq_nil_of_le (by rw [List.length_zip, HL.out]; omega)]; simpa using HST0.out, Keep.refl _ _, fun b h => .inl h⟩
  case round =>
    obtain ⟨k, v', hk, rfl, hso, hkp, hob⟩ := hrel
    have hsl := hso.cell
    obtain ⟨hlw, y0, y1⟩ := box1 hsl
    have HSO := hide hso
    have HKP := hide hkp
    have HOB := hide hob
    clear hso hkp hob
    by_cases h0 : 0 < k
    · obtain ⟨k, rfl⟩ : ∃ m, k = m + 1 := ⟨k - 1, by omega⟩
      have hlt : k < xs.length := by omega
      have hlt2 : k < ys.length := by have := HL.out; omega
      obtain ⟨bx, ox, ax, cx, rfl, hbx, hbxA, g0, g1, g2⟩ := HA.out.get k hlt
      obtain ⟨by_, oy, ay, cy, rfl, hby, hbyA, e0, e1, e2⟩ := HB.out.get k hlt2
      have hbx1 : bx < sb := by simp only [OldA, not_or] at hbxA; omega
      have hby1 : by_ < sb := by simp only [OldA, not_or] at hbyA; omega
      have HKK := hide (show Keep (fun b => b < sb) w wr from HKP.out.mono fun b _ hb => ⟨by omega, fun e => by
        have := (HST0.out.own.lt b e).1; omega⟩)
      have l0 := HKK.out.cell (p := ⟨bx, ox + k * 2, none⟩) hbx1 g0
      have l1 := HKK.out.cell (p := ⟨bx, ox + k * 2 + 1, none⟩) hbx1 g1
      have m0 := HKK.out.cell (p := ⟨by_, oy + k * 2, none⟩) hby1 e0
      have m1 := HKK.out.cell (p := ⟨by_, oy + k * 2 + 1, none⟩) hby1 e1
      have tx : IsTm (OldA sb A) wr xs[k].h (.slice ax xs[k].args.length cx) xs[k] := IsTm.keep9 (⟨rfl, g2⟩ : IsTm (OldA sb A) w _ _ _) HKK.out (fun b _ hb => by simp only [OldA, not_or] at hb; omega)
      have ty : IsTm (OldA sb A) wr ys[k].h (.slice ay ys[k].args.length cy) ys[k] := IsTm.keep9 (⟨rfl, e2⟩ : IsTm (OldA sb A) w _ _ _) HKK.out (fun b _ hb => by simp only [OldA, not_or] at hb; omega)
      have HTX := hide tx
      have HTY := hide ty
      have hkn : ((k + 1 : Nat) : Int) - 1 = (k : Int) := by omega
      rw [hkn]
      have hlenp : (ps ++ ((xs.zip ys).drop (k + 1)).reverse).length = ps.length + (xs.length - (k + 1)) := by simp [HL.out.symm]
      have HLP := hide hlenp
      obtain ⟨av, cv, hv⟩ := HSO.out.own.shape
      rw [List.length_map, hlenp] at hv
      have hvk := hide hv
      clear g0 g1 g2 e0 e1 e2 tx ty hkn hlenp
      subst hv
      go_wp2
      have CL : ∀ W' : World, Keep (fun b => b < sb) wr W' → W'.cell? ⟨bx, ox + k * 2, none⟩ = some (.int .i64 xs[k].h) ∧ W'.cell? ⟨bx, ox + k * 2 + 1, none⟩ = some (.slice ax xs[k].args.length cx) ∧ W'.cell? ⟨by_, oy + k * 2, none⟩ = some (.int .i64 ys[k].h) ∧ W'.cell? ⟨by_, oy + k * 2 + 1, none⟩ = some (.slice ay ys[k].args.length cy) := fun W' hW =>
        ⟨hW.cell (p := ⟨bx, ox + k * 2, none⟩) hbx1 l0, hW.cell (p := ⟨bx, ox + k * 2 + 1, none⟩) hbx1 l1, hW.cell (p := ⟨by_, oy + k * 2, none⟩) hby1 m0, hW.cell (p := ⟨by_, oy + k * 2 + 1, none⟩) hby1 m1⟩
      refine drawn_until (fun W' => W'.cell? ⟨bx, ox + k * 2, none⟩ = some (.int .i64 xs[k].h) ∧ W'.cell? ⟨bx, ox + k * 2 + 1, none⟩ = some (.slice ax xs[k].args.length cx) ∧ W'.cell? ⟨by_, oy + k * 2, none⟩ = some (.int .i64 ys[k].h) ∧ W'.cell? ⟨by_, oy + k * 2 + 1, none⟩ = some (.slice ay ys[k].args.length cy))
        (fun W' => W'.cell? ⟨stb, 0, none⟩ = some (.slice av (ps.length + (xs.length - (k + 1))) cv)) 11 [(0, 1), (1, 0), (2, 0), (3, 0), (4, 0), (5, 0), (6, 0), (7, 0), (8, 0), (9, 0), (10, 2), (11, 3), (12, 3)] (by kernel_rfl) (by kernel_rfl) (by kernel_rfl) (by kernel_rfl) (fun _ _ _ _ _ h => h) (CL _ (Keep.refl _ _).drew) y0 ?_
      iterate 1 (refine v_takeD (v := ?_) rfl (by rfl) ?_ ?_; rotate_left; (intro w hS; obtain ⟨-, hS1⟩ := hS; go_simp; try with_reducible rfl); simp only [Act.put, List.setIfInBounds_toArray, List.set_cons_zero, List.set_cons_succ])
      iterate 9 (refine v_take (v := ?_) rfl (by rfl) ?_ ?_; rotate_left; (intro w hS; obtain ⟨hS1, hS2, hS3, hS4⟩ := hS; go_simp; try with_reducible rfl); simp only [Act.put, List.setIfInBounds_toArray, List.set_cons_zero, List.set_cons_succ])
      refine v_do2 rfl (by rfl) ?_
      intro K hK
      go_simp
      have hdr : Below wr.heap.size wr wr.drew := (Below.refl _ _).drew
      have hal : Below wr.heap.size wr (wr.drew.alloc (.cells #[.int .i64 xs[k].h, .slice ax xs[k].args.length cx, .int .i64 ys[k].h, .slice ay ys[k].args.length cy] 115)) := hdr.alloc (Nat.le_refl _) _
      show K _ (wr.drew.alloc (.cells #[.int .i64 xs[k].h, .slice ax xs[k].args.length cx, .int .i64 ys[k].h, .slice ay ys[k].args.length cy] 115))
      refine hK.out _ _ (CL _ (.of_below hal)) ((World.cell?_alloc_lt _ _ _ (show (⟨stb, 0, none⟩ : Addr).block < wr.drew.heap.size from hlw)).trans y0) ?_
      clear hK K
      have HO := hide (HSO.out.own.below hdr)
      have HOL := hide HSO.out.own.lt
      refine v_do3 rfl (by rfl) ?_
      intro K hK
      have hbd : stb + 1 ≤ wr.drew.heap.size := hlw
      refine app_op4 (.tmp 13) (.tmp 23) 113 rfl (stb + 1) 115 (.agg #[.int .i64 0, .slice none 0 0, .int .i64 0, .slice none 0 0]) 64 Tryd.underlying113 (by kernel_rfl) rfl (v := .slice av (ps.length + (xs.length - (k + 1))) cv) (d := Pd (xs[k], ys[k])) rfl rfl HO.out (repPd.2 ⟨_, _, rfl, ?_, ?_⟩) rfl rfl rfl rfl (by rw [List.length_map, HLP.out]; unfold maxLen; omega) (by rw [List.length_map, HLP.out]; omega) hbd ?_
      · exact ((HTX.out.below hdr).2.bar fun b _ h => h.elim id fun h => .inl (by have := (HOL.out b h).1; omega))
      · exact ((HTY.out.below hdr).2.bar fun b _ h => h.elim id fun h => .inl (by have := (HOL.out b h).1; omega))
      intro v' w2 o1 k1 ob1
      have hk2 : Keep (fun b => (Value.slice av (ps.length + (xs.length - (k + 1))) cv).ownBlock ≠ some b) wr w2 := Keep.trans (.of_below hdr) k1
      have hown : ∀ b, b ≤ stb → (Value.slice av (ps.length + (xs.length - (k + 1))) cv).ownBlock ≠ some b := fun b hb e => by have := (HOL.out b e).1; omega
      have hst2 := hk2.obj (hown _ (Nat.le_refl _)) hsl
      obtain ⟨hl2, q0, q1⟩ := box1 hst2
      obtain ⟨av', cv', hv'⟩ := o1.shape
      rw [List.length_append, List.length_map, HLP.out, List.length_singleton] at hv'
      have hkl : Keep (fun b => b < sb) wr w2 := hk2.mono fun b _ hb => hown b (by omega)
      refine hK.out _ _ (CL _ hkl) ?_
      clear hK K
      refine v_do3 rfl (by rfl) ?_
      intro K hK
      subst hv'
      go_simp
      refine hK.out _ _ (CL _ (hkl.setCell (p := ⟨stb, 0, none⟩) (by show ¬ stb < sb; omega) _)) ?_
      clear hK K CL
      refine v_done ?_
      have hcell3 : ∀ v : Value, (w2.setCell ⟨stb, 0, none⟩ v).heap[stb]? = some (.cells #[v] 113 (0, 0)) := fun v => by simp [World.setCell, Array.getElem?_modify, hst2]
      have hks : ∀ v : Value, Keep (fun b => b ≠ stb) w2 (w2.setCell ⟨stb, 0, none⟩ v) := fun v => (Keep.refl _ _).setCell (p := ⟨stb, 0, none⟩) (by simp) v
      have hlist : (ps ++ ((xs.zip ys).drop (k + 1)).reverse).map Pd ++ [Pd (xs[k], ys[k])] = (ps ++ ((xs.zip ys).drop k).reverse).map Pd := by rw [zip_drop hlt HL.out]; simp
      rw [hlist] at o1
      have HREL := hide (show StackAt A sb stb (w2.setCell ⟨stb, 0, none⟩ (.slice av' (ps.length + (xs.length - (k + 1)) + 1) cv')) (.slice av' (ps.length + (xs.length - (k + 1)) + 1) cv') (ps ++ ((xs.zip ys).drop k).reverse) ∧ Keep (fun b => b ≠ stb ∧ v.ownBlock ≠ some b) w (w2.setCell ⟨stb, 0, none⟩ (.slice av' (ps.length + (xs.length - (k + 1)) + 1) cv')) ∧ (∀ b, (Value.slice av' (ps.length + (xs.length - (k + 1)) + 1) cv').ownBlock = some b → v.ownBlock = some b ∨ w.heap.size ≤ b) from
        ⟨⟨hcell3 _, o1.keep (hks _) (fun b _ hb => by simp only [OldA, not_or] at hb; omega) (fun b hb => by have := (o1.lt b hb).1; omega)⟩,
          ⟨(hks _).os.trans (hk2.os.trans HKP.out.os), (hks _).tape.trans (hk2.tape.trans HKP.out.tape), (hks _).output.trans (hk2.output.trans HKP.out.output), Nat.le_trans HKP.out.size (Nat.le_trans hk2.size (hks _).size), fun b hb hS => ((hks _).block b (by have := HKP.out.size; have := hk2.size; omega) hS.1).trans ((hk2.block b (by have := HKP.out.size; omega) (fun e => (HOB.out b e).elim hS.2 fun h => by omega)).trans (HKP.out.block b hb hS))⟩,
          fun b hb => (ob1 b hb).elim (HOB.out b) fun h => .inr (by have := HKP.out.size; exact Nat.le_trans this h)⟩)
      go_wp2
      go_roundw
      case rel => exact ⟨k, _, by omega, by go_num, HREL.out⟩
      case measure => simp [intOf] <;> omega
    · obtain rfl : k = 0 := by omega
      have HR := hide (show StackAt A sb stb wr v' (ps ++ (xs.zip ys).reverse) by have := HSO.out; rwa [List.drop_zero] at this)
      have HE := hide (show PutPost A sb stb v ps xs ys w (.returned (.tuple #[])) wr from ⟨rfl, v', HR.out, HKP.out⟩)
      go_wp2
      exact bodyPost_end (results_none rfl _ _ _) rfl HE.out
end
section
open Go.RowKit

def mk4 (l : Array Bool) (i j k m : Nat) (b c d e : Bool) : Array Bool :=
  let l1 := if b then l.setIfInBounds i true else l
  let l2 := if c then l1.setIfInBounds j true else l1
  let l3 := if d then l2.setIfInBounds k true else l2
  if e then l3.setIfInBounds m true else l3
def rd4 (i j k m : Nat) (b c d e : Bool) : List Nat := (if b then (if c then [] else [j]) else [i]) ++ (if d then [] else [k]) ++ (if e then [] else [m])
def ok4one (md : Region.Mode) (ops : Array Oper) (l : Array Bool) (i j k m : Nat) (b c d e : Bool) : Bool :=
  (Region.ready md ops (mk4 l i j k m b c d e) == rd4 i j k m b c d e) && (b || (mk4 l i j k m b c d e).setIfInBounds i true == mk4 l i j k m true c d e) && ((!b || c) || (mk4 l i j k m b c d e).setIfInBounds j true == mk4 l i j k m b true d e) &&
    (d || (mk4 l i j k m b c d e).setIfInBounds k true == mk4 l i j k m b c true e) && (e || (mk4 l i j k m b c d e).setIfInBounds m true == mk4 l i j k m b c d true)
def ok4 (md : Region.Mode) (ops : Array Oper) (l : Array Bool) (i j k m : Nat) (rest : List Stp) : Bool :=
  [(false, false), (true, false), (true, true)].all (fun p => [(false, false), (true, false), (false, true), (true, true)].all fun q => (p.2 && q.1 && q.2) || ok4one md ops l i j k m p.1 p.2 q.1 q.2) && okTwo md ops rest (mk4 l i j k m true true true true)
theorem mem_rd4 {x i j k m : Nat} {b c d e : Bool} (h : x ∈ rd4 i j k m b c d e) : (b = false ∧ x = i) ∨ (b = true ∧ c = false ∧ x = j) ∨ (d = false ∧ x = k) ∨ (e = false ∧ x = m) := by
  cases b <;> cases c <;> cases d <;> cases e <;> simp [rd4] at h ⊢ <;> omega
def cnt4 (b c d e : Bool) : Nat := (if b then 0 else 1) + (if c then 0 else 1) + (if d then 0 else 1) + (if e then 0 else 1)
section
variable {P : Program} {md : Region.Mode} {ops : Array Oper} {Q : Exit → Act → World → Prop} {S : World → Prop}
theorem ok4_one {l : Array Bool} {i j k m : Nat} {rest : List Stp} (h : ok4 md ops l i j k m rest = true) {b c d e : Bool} (hcb : c = true → b = true) (hn : ¬ (c = true ∧ d = true ∧ e = true)) : ok4one md ops l i j k m b c d e = true := by
  simp only [ok4, Bool.and_eq_true] at h
  have h1 := h.1
  simp only [List.all_cons, List.all_nil, Bool.and_true, Bool.and_eq_true, Bool.or_eq_true, Bool.false_and, Bool.true_and, Bool.false_eq_true, false_or] at h1
  cases b <;> cases c <;> cases d <;> cases e <;> simp_all
theorem anyH_four {l : Array Bool} {i j k m : Nat} {rest : List Stp} (hsel : Region.noSelect ops = true) (hok : ok4 md ops l i j k m rest = true) (hQ : ∀ c t v a w, Q (.panic c) (a.put (some t) v) w → Q (.panic c) a w)
    (R : Bool → Bool → Bool → Bool → Act → World → Prop) (hRS : ∀ b c d e a w, R b c d e a w → S w)
    (h3 : ∀ d e a w, R false false d e a w → wpOp P ops Q i (R true false d e) a w) (h7 : ∀ d e a w, R true false d e a w → wpOp P ops Q j (R true true d e) a w)
    (h8 : ∀ b c e a w, R b c false e a w → wpOp P ops Q k (R b c true e) a w) (h9 : ∀ b c d a w, R b c d false a w → wpOp P ops Q m (R b c d true) a w)
    (hfin : ∀ a w, R true true true true a w → SeqP P ops Q S rest a w) :
    ∀ (n : Nat) (b c d e : Bool) (a : Act) (w : World), (c = true → b = true) → n = cnt4 b c d e → R b c d e a w → wpAnyH P md ops Q S (lenP rest + n) (mk4 l i j k m b c d e) a w := by
  intro n
  induction n with
  | zero =>
    intro b c d e a w hcb hn hR
    have : b = true ∧ c = true ∧ d = true ∧ e = true := by cases b <;> cases c <;> cases d <;> cases e <;> simp [cnt4] at hn ⊢
    obtain ⟨rfl, rfl, rfl, rfl⟩ := this
    simp only [ok4, Bool.and_eq_true] at hok
    exact anyH_of_seqP hsel hQ rest _ a w hok.2 (hRS _ _ _ _ _ _ hR) (hfin a w hR)
  | succ n ih =>
    intro b c d e a w hcb hn hR
    have hnn : ¬ (c = true ∧ d = true ∧ e = true) := by
      rintro ⟨rfl, rfl, rfl⟩
      have := hcb rfl
      subst this
      simp [cnt4] at hn
    have h1 := ok4_one hok hcb hnn
    simp only [ok4one, Bool.and_eq_true, beq_iff_eq, Bool.or_eq_true, Bool.not_eq_true'] at h1
    obtain ⟨⟨⟨⟨r1, r2⟩, r3⟩, r4⟩, r5⟩ := h1
    rw [← Nat.add_assoc]
    refine wpAnyH_all r1 ?_ fun x hx => ?_
    · cases b <;> cases c <;> cases d <;> cases e <;> simp [rd4] at hnn ⊢
      all_goals exact absurd (hcb rfl) (by simp)
    · rcases mem_rd4 hx with ⟨rfl, rfl⟩ | ⟨rfl, rfl, rfl⟩ | ⟨rfl, rfl⟩ | ⟨rfl, rfl⟩
      · have hc : c = false := by cases c <;> simp_all
        subst hc
        rw [r2.resolve_left (by simp)]
        exact wpOp_mono (fun a' w' h' => ⟨hRS _ _ _ _ _ _ h', ih true false d e a' w' (by simp) (by cases d <;> cases e <;> simp [cnt4] at hn ⊢ <;> omega) h'⟩) (h3 d e a w hR)
      · rw [r3.resolve_left (by simp)]
        exact wpOp_mono (fun a' w' h' => ⟨hRS _ _ _ _ _ _ h', ih true true d e a' w' (by simp) (by cases d <;> cases e <;> simp [cnt4] at hn ⊢ <;> omega) h'⟩) (h7 d e a w hR)
      · rw [r4.resolve_left (by simp)]
        exact wpOp_mono (fun a' w' h' => ⟨hRS _ _ _ _ _ _ h', ih b c true e a' w' hcb (by cases b <;> cases c <;> cases e <;> simp [cnt4] at hn ⊢ <;> omega) h'⟩) (h8 b c e a w hR)
      · rw [r5.resolve_left (by simp)]
        exact wpOp_mono (fun a' w' h' => ⟨hRS _ _ _ _ _ _ h', ih b c d true a' w' hcb (by cases b <;> cases c <;> cases d <;> simp [cnt4] at hn ⊢ <;> omega) h'⟩) (h9 b c d a w hR)

/-- What only yields, taken ahead. -/
def SeqT5 (P : Program) (ops : Array Oper) (S : World → Prop) (K : Act → Prop) : List Nat → Act → Prop
  | [], a => K a
  | i :: is, a => ∃ o v, ops[i]? = some o ∧ YieldsIf P ops S o v a ∧ SeqT5 P ops S K is (a.put o.dst v)
def setAll (l : Array Bool) : List Nat → Array Bool
  | [] => l
  | i :: is => setAll (l.setIfInBounds i true) is
def okT5 (md : Region.Mode) (ops : Array Oper) : List Nat → Array Bool → Bool
  | [], _ => true
  | i :: is, l => ((Region.ready md ops l).contains i && Region.free md ops l i) && okT5 md ops is (l.setIfInBounds i true)
theorem anyH_seqT {n : Nat} {w : World} (hsel : Region.noSelect ops = true) (hQ : ∀ c t v a w, Q (.panic c) (a.put (some t) v) w → Q (.panic c) a w) (hS : S w) : ∀ (is : List Nat) (l : Array Bool) (a : Act), okT5 md ops is l = true →
    SeqT5 P ops S (fun a' => wpAnyH P md ops Q S n (setAll l is) a' w) is a → wpAnyH P md ops Q S (n + is.length) l a w
  | [], l, a, _, h => h
  | i :: is, l, a, hok, ⟨o, v, ho, hy, h⟩ => by
    simp only [okT5, Bool.and_eq_true] at hok
    rw [List.length_cons, ← Nat.add_assoc]
    exact wpAnyH_take ho hsel hok.1.2 hok.1.1 (fun c a w h9 => by
      cases hd : o.dst with
      | none => rw [hd] at h9; exact h9
      | some t => rw [hd] at h9; exact hQ c t v a w h9) hy hS (anyH_seqT hsel hQ hS is _ _ hok.2 h)
theorem drawn_four {id : Nat} {a : Act} {w : World} (S : World → Prop) (takes : List Nat) (i j k m : Nat) (rest : List Stp) (R : Bool → Bool → Bool → Bool → Act → World → Prop) (hm : P.follows .mixedOrders = true) (hn : (lenP rest + 4 + takes.length == ops.size) = true) (hsel : Region.noSelect ops = true)
    (hok : okT5 .any ops takes (Array.replicate ops.size false) = true) (hok4 : ok4 .any ops (setAll (Array.replicate ops.size false) takes) i j k m rest = true)
    (hQ : ∀ c t v a w, Q (.panic c) (a.put (some t) v) w → Q (.panic c) a w) (hS : S w.drew)
    (hR : SeqT5 P ops S (fun a' => R false false false false a' w.drew) takes a) (hRS : ∀ b c d e a w, R b c d e a w → S w)
    (h3 : ∀ d e a w, R false false d e a w → wpOp P ops Q i (R true false d e) a w) (h7 : ∀ d e a w, R true false d e a w → wpOp P ops Q j (R true true d e) a w)
    (h8 : ∀ b c e a w, R b c false e a w → wpOp P ops Q k (R b c true e) a w) (h9 : ∀ b c d a w, R b c d false a w → wpOp P ops Q m (R b c d true) a w)
    (hfin : ∀ a w, R true true true true a w → SeqP P ops Q S rest a w) : (Code.region id ops true).wp P Q a w := by
  refine wp_region_held (S := S) hm ?_
  have hmono : ∀ (is : List Nat) (a : Act) (K K' : Act → Prop), (∀ a, K a → K' a) → SeqT5 P ops S K is a → SeqT5 P ops S K' is a := by
    intro is
    induction is with
    | nil => intro a K K' h h1; exact h a h1
    | cons i is ih => intro a K K' h ⟨o, v, h1, h2, h3⟩; exact ⟨o, v, h1, h2, ih _ K K' h h3⟩
  have := anyH_seqT (n := lenP rest + 4) (w := w.drew) hsel hQ hS takes _ a hok (hmono takes a _ _ (fun a' h' => anyH_four hsel hok4 hQ R hRS h3 h7 h8 h9 hfin 4 false false false false a' _ (by simp) rfl h') hR)
  rw [beq_iff_eq.1 hn] at this
  exact this
variable {i : Nat} {is : List Nat} {o : Oper} {v : Value} {a : Act} {w : World} {K : Act → Prop}
theorem t_take5 (ho : ops[i]? = some o) (hw : Region.wanted o (yielded ops a.tmps) = true) (hv : ∀ w, S w → (execOp a.eval o).run P w = .ok (.value v) w) (h : SeqT5 P ops S K is (a.put o.dst v)) : SeqT5 P ops S K (i :: is) a :=
  ⟨o, v, ho, .inl ⟨hw, hv⟩, h⟩
theorem wpOp_of {K : Act → World → Prop} (ho : ops[i]? = some o) (hw : Region.wanted o (yielded ops a.tmps) = true) (h : ∀ K' : Act → World → Prop, Hid (∀ a w, K a w → K' a w) → Oper.wp P o a w K' Q) : wpOp P ops Q i K a w :=
  wpOp_step ho fun K' hK => by rw [if_pos hw]; exact h K' (hide hK)
end
end
section
open Go.RowKit

/-- How a solving ends. -/
def SolvePost (A : Nat → Prop) (sb ss : Nat) (D : List Tm) (L0 : Pairs) (w : World) (e : Ending) (w' : World) : Prop :=
  ∃ r : Bool, e = .returned (.bool r) ∧ Keep (fun b => b ≠ sb) w w' ∧ (r = true → ∃ f S, SolAt A w' sb ss f ∧ Solved f S ∧ UState L0 f [] ∧ FromD D f) ∧ (r = false → ∀ τ, ¬ Sol τ L0)
/-- What (*solver).at has handed back. -/
structure AtR (A : Nat → Prop) (sb : Nat) (f : Env) (t : Tm) (w : World) (r : Tm) (s : Value) : Prop where
  tm : IsTm (OldA sb A) w r.h s r
  leads : Leads f t r
  good : r.good = true
  free : r.h < 0 → f (-1 - r.h) = none
theorem AtR.below {A : Nat → Prop} {sb : Nat} {f : Env} {t r : Tm} {w w' : World} {s : Value} (h : AtR A sb f t w r s) (hB : Below w.heap.size w w') : AtR A sb f t w' r s := ⟨h.tm.below hB, h.leads, h.good, h.free⟩
theorem AtR.old {A S : Nat → Prop} {sb : Nat} {f : Env} {t r : Tm} {w w' : World} {s : Value} (h : AtR A sb f t w r s) (hk : Keep S w w') (hS : ∀ b, b < sb → S b) : AtR A sb f t w' r s := ⟨h.tm.keep9 hk fun b _ hb => hS b (by simp only [OldA, not_or] at hb; omega), h.leads, h.good, h.free⟩
/-- What holds between two rounds. -/
structure SLoop (A : Nat → Prop) (sb ss stb : Nat) (D : List Tm) (L0 : Pairs) (w : World) (n : Nat) (wr : World) (f : Env) (S : Sub) (v : Value) (ps : Pairs) : Prop where
  st : SState D L0 f S ps.reverse
  me : meas D f S ps.reverse ≤ n
  sol : SolAt A wr sb ss f
  stk : StackAt A sb stb wr v ps
  kp : Keep (fun b => b ≠ sb) w wr
  lt : stb < wr.heap.size

theorem bind_at (A : Nat → Prop) (sb ss : Nat) (f : Env) (S : Sub) (hS : Solved f S) (x y : Nat) (v : Int) (h0 : 0 ≤ v) (h1 : v ≤ 255) (hfv : f v = none) (t t0 : Tm) (s : Value) (W5 Wx : World) (hk : Keep (fun b => b ≠ x ∧ b ≠ y) W5 Wx) (hx : ss < x) (hy : ss < y) (hsol : SolAt A W5 sb ss f) (ht : AtR A sb f t0 W5 t s) :
    Calls Tryd.prog 72 #[.pointer (some ⟨ss, 0, none⟩), .int .i64 v, .agg #[.int .i64 t.h, s]] Wx fun e w' => e = .returned (.bool (!occB v (app S t))) ∧ Keep (fun b => b ≠ sb ∧ b ≠ x ∧ b ≠ y) W5 w' ∧ SolAt A w' sb ss (boundF (occB v (app S t)) f v t) := by
  have hlt := hsol.lt
  refine (bind_calls A sb ss f S hS v h0 h1 hfv t ht.good t.h s Wx (hsol.keep hk (fun b hb => by omega)) (ht.tm.keep9 hk fun b _ hb => by simp only [OldA, not_or] at hb; omega)).mono ?_
  rintro e w' ⟨he, hk2, hs2⟩
  exact ⟨he, Keep.trans (hk.mono fun b _ hb => hb.2) (hk2.mono fun b _ hb => hb.1), hs2⟩
theorem SLoop.mk2 {A : Nat → Prop} {sb ss stb : Nat} {D : List Tm} {L0 : Pairs} {w W5 wr : World} {f' : Env} {S' : Sub} {g n0 cap x y : Nat} {qs : Pairs} (hst : SState D L0 f' S' qs.reverse) (hsol : SolAt A wr sb ss f') (hsk : StackAt A sb stb W5 (.slice (some ⟨g, 0, none⟩) n0 cap) qs) (hkp : Keep (fun b => b ≠ sb) w W5)
    (hk : Keep (fun b => b ≠ sb ∧ b ≠ x ∧ b ≠ y) W5 wr) (hw : w.heap.size = stb) (hl5 : stb < W5.heap.size) (hss : sb < stb) (hx : stb < x) (hy : stb < y) (hgs : sb < g) (hgx : g < x) (hgy : g < y) : SLoop A sb ss stb D L0 w (meas D f' S' qs.reverse) wr f' S' (.slice (some ⟨g, 0, none⟩) n0 cap) qs where
  st := hst
  me := Nat.le_refl _
  sol := hsol
  stk := hsk.keep hk ⟨by omega, by omega, by omega⟩ (fun b hb => ⟨by omega, by omega, by omega⟩) (fun b hb => by
    have : b = g := by simpa [Value.ownBlock] using hb.symm
    subst this; exact ⟨by omega, by omega, by omega⟩)
  kp := ⟨hk.os.trans hkp.os, hk.tape.trans hkp.tape, hk.output.trans hkp.output, Nat.le_trans hkp.size hk.size, fun b hb hs => (hk.block b (by have := hkp.size; omega) ⟨hs, by omega, by omega⟩).trans (hkp.block b hb hs)⟩
  lt := Nat.lt_of_lt_of_le hl5 hk.size
theorem keep_out {sb stb x y : Nat} {w W5 wr : World} (hkp : Keep (fun b => b ≠ sb) w W5) (hk : Keep (fun b => b ≠ sb ∧ b ≠ x ∧ b ≠ y) W5 wr) (hw : w.heap.size = stb) (hx : stb < x) (hy : stb < y) : Keep (fun b => b ≠ sb) w wr :=
  ⟨hk.os.trans hkp.os, hk.tape.trans hkp.tape, hk.output.trans hkp.output, Nat.le_trans hkp.size hk.size, fun b hb hs => (hk.block b (by have := hkp.size; omega) ⟨hs, by omega, by omega⟩).trans (hkp.block b hb hs)⟩

set_option maxHeartbeats 8000000 in
set_option maxRecDepth 100000 in
theorem solve_calls (A : Nat → Prop) (sb ss : Nat) (D : List Tm) (hD : Closed D) (hDl : D.length ≤ 10000) (xs ys : List Tm) (hl : xs.length = ys.length) (h10 : xs.length ≤ 10) (hx : ∀ t, t ∈ xs → InD D t) (hy : ∀ t, t ∈ ys → InD D t) (s1 s2 : Value) (w : World)
    (hsol : SolAt A w sb ss noE) (ha : Terms (OldA sb A) w s1 xs) (hb : Terms (OldA sb A) w s2 ys) :
    Calls Tryd.prog 57 #[.pointer (some ⟨ss, 0, none⟩), s1, s2] w fun e w' => SolvePost A sb ss D (xs.zip ys) w e w' := by
  obtain ⟨a1, c1, rfl, hc1, hc1'⟩ := ha.shape
  obtain ⟨a2, c2, rfl, hc2, hc2'⟩ := hb.shape
  have hssl := hsol.lt_size
  have hsbl := hsol.lt
  have HST := hide (sstate_start hD hl h10 hx hy)
  have HSO := hide hsol
  have HL := hide hl
  have HDC := hide hD
  have hal : Below w.heap.size w (w.alloc (.cells #[.slice none 0 0] 113)) := (Below.refl _ _).alloc (Nat.le_refl _) _
  have hput := putp_calls A sb w.heap.size (.slice none 0 0) [] xs ys _ _ (w.alloc (.cells #[.slice none 0 0] 113)) (by omega) hl (by simp; omega) ⟨World.alloc_heap_new _ _, OwnD.nil _ _ _ _ _⟩ (ha.below hal) (hb.below hal)
  clear hx hy hl hsol hD ha hb
  go_enter Tryd.func57, Tryd.ntmps57
  go_wp2_with fail
  refine hput.mono ?_
  rintro e w1 ⟨rfl, v1, hst1, hk1⟩
  have HK1 := hide (show Keep (fun b => b ≠ sb) w w1 from ⟨hk1.os.trans hal.os, hk1.tape.trans hal.tape, hk1.output.trans hal.output, Nat.le_trans hal.size hk1.size, fun b hb hs => (hk1.block b (by rw [World.size_alloc]; omega) ⟨by omega, by simp [Value.ownBlock]⟩).trans (hal.block b hb)⟩)
  have HS1 := hide (show SolAt A w1 sb ss noE from (HSO.out.below hal).keep hk1 (fun b hb => ⟨by omega, by simp [Value.ownBlock]⟩))
  have HLOOP := hide (show SLoop A sb ss w.heap.size D (xs.zip ys) w (meas D noE varT (xs.zip ys)) w1 noE varT v1 (xs.zip ys).reverse from
    ⟨by rw [List.reverse_reverse]; exact HST.out, by rw [List.reverse_reverse]; exact Nat.le_refl _, HS1.out, by simpa using hst1, HK1.out, by have := hk1.size; rw [World.size_alloc] at this; omega⟩)
  clear hput hst1 hk1 hal HK1 HS1 HST
  generalize hstb : w.heap.size = stb at *
  have HSTB := hide hstb
  clear hstb
  go_wp2
  go_loopg [] (meas D noE varT (xs.zip ys)) (fun n wr => ∃ f S v ps, SLoop A sb ss stb D (xs.zip ys) w n wr f S v ps)
  case atStart => exact ⟨_, _, _, _, HLOOP.out⟩
  case round =>
    obtain ⟨f, S, v, ps, hlp⟩ := hrel
    have HLP := hide hlp
    obtain ⟨av, cv, hv⟩ := hlp.stk.own.shape
    obtain ⟨-, y0, y1⟩ := box1 hlp.stk.cell
    clear hlp
    rcases List.eq_nil_or_concat ps with rfl | ⟨qs, p, hps⟩
    · simp only [List.map_nil, List.length_nil] at hv
      subst hv
      have HE := hide (show SolvePost A sb ss D (xs.zip ys) w (.returned (.bool true)) wr from ⟨true, rfl, HLP.out.kp, fun _ => ⟨f, S, HLP.out.sol, HLP.out.st.sv, HLP.out.st.us, HLP.out.st.fd⟩, fun h => by cases h⟩)
      clear HLOOP HLP
      go_wp2
      go_ret
      exact HE.out
    · rw [List.concat_eq_append] at hps
      subst hps
      have hO := HLP.out.stk.own
      rw [List.map_append, List.map_cons, List.map_nil] at hO
      obtain ⟨g, cap, cs, rfl, hg, hg1, hc, hc', hcs, e0, rp, hO2⟩ := hO.last (by omega)
      obtain ⟨t1, t2, rfl, q1, q2⟩ := repPd.1 rp
      obtain ⟨b1, d1, rfl, -, -⟩ := q1.shape
      obtain ⟨b2, d2, rfl, -, -⟩ := q2.shape
      rw [List.length_map] at *
      have l0 : wr.cell? ⟨g, qs.length * 4, none⟩ = some (.int .i64 p.1.h) := by simp
      have l1 : wr.cell? ⟨g, qs.length * 4 + 1, none⟩ = some (.slice b1 p.1.args.length d1) := by simp
      have l2 : wr.cell? ⟨g, qs.length * 4 + 2, none⟩ = some (.int .i64 p.2.h) := by simp
      have l3 : wr.cell? ⟨g, qs.length * 4 + 3, none⟩ = some (.slice b2 p.2.args.length d2) := by simp
      have HO2 := hide hO2
      have HQ1 := hide q1
      have HQ2 := hide q2
      have hqn : qs.length ≤ 100000 := by
        have := HLP.out.st.length HDC.out
        simp only [List.reverse_append, List.reverse_cons, List.reverse_nil, List.nil_append, List.length_append, List.length_cons, List.length_nil, List.length_reverse] at this
        omega
      clear e0 rp q1 q2 hO hO2 hv
      have hsl9 : stb < wr.heap.size := HLP.out.lt
      go_wp2
      have hkk : Keep (fun b => b ≠ stb) wr ((wr.setCell ⟨stb, 0, none⟩ (.slice (some ⟨g, 0, none⟩) qs.length cap)).alloc (.cells #[.int .i64 p.1.h, .slice b1 p.1.args.length d1, .int .i64 p.2.h, .slice b2 p.2.args.length d2] 115)) := ((Keep.refl _ wr).setCell (p := ⟨stb, 0, none⟩) (by simp) _).alloc _
      have hb9 : ((wr.setCell ⟨stb, 0, none⟩ (.slice (some ⟨g, 0, none⟩) qs.length cap)).alloc (.cells #[.int .i64 p.1.h, .slice b1 p.1.args.length d1, .int .i64 p.2.h, .slice b2 p.2.args.length d2] 115)).heap[wr.heap.size]? = some (.cells #[.int .i64 p.1.h, .slice b1 p.1.args.length d1, .int .i64 p.2.h, .slice b2 p.2.args.length d2] 115 (0, 0)) := by
        have := World.alloc_heap_new (wr.setCell ⟨stb, 0, none⟩ (.slice (some ⟨g, 0, none⟩) qs.length cap)) (.cells #[.int .i64 p.1.h, .slice b1 p.1.args.length d1, .int .i64 p.2.h, .slice b2 p.2.args.length d2] 115)
        simpa [World.setCell] using this
      have hcs : ((wr.setCell ⟨stb, 0, none⟩ (.slice (some ⟨g, 0, none⟩) qs.length cap)).alloc (.cells #[.int .i64 p.1.h, .slice b1 p.1.args.length d1, .int .i64 p.2.h, .slice b2 p.2.args.length d2] 115)).heap[stb]? = some (.cells #[.slice (some ⟨g, 0, none⟩) qs.length cap] 113 (0, 0)) := by
        refine (Below.heap_alloc _ _ _ (by simpa [World.setCell] using hsl9)).trans ?_
        simp [World.setCell, Array.getElem?_modify, HLP.out.stk.cell]
      have hz2 : wr.heap.size < ((wr.setCell ⟨stb, 0, none⟩ (.slice (some ⟨g, 0, none⟩) qs.length cap)).alloc (.cells #[.int .i64 p.1.h, .slice b1 p.1.args.length d1, .int .i64 p.2.h, .slice b2 p.2.args.length d2] 115)).heap.size := (Array.getElem?_eq_some_iff.1 hb9).1
      clear l0 l1 l2 l3 y0 y1
      generalize ((wr.setCell ⟨stb, 0, none⟩ (.slice (some ⟨g, 0, none⟩) qs.length cap)).alloc (.cells #[.int .i64 p.1.h, .slice b1 p.1.args.length d1, .int .i64 p.2.h, .slice b2 p.2.args.length d2] 115)) = W2 at *
      generalize wr.heap.size = pbx at *
      have hsbs := HLP.out.sol.lt
      have HSO2 := hide (HLP.out.sol.keep hkk (fun b hb => by omega))
      have HSK2 := hide (show StackAt A sb stb W2 (.slice (some ⟨g, 0, none⟩) qs.length cap) qs from ⟨hcs, HO2.out.keep hkk (fun b _ hb => by simp only [OldA, not_or] at hb; omega) (fun b hb => by have := (HO2.out.lt b hb).1; omega)⟩)
      have HKP2 := hide (show Keep (fun b => b ≠ sb) w W2 from ⟨hkk.os.trans HLP.out.kp.os, hkk.tape.trans HLP.out.kp.tape, hkk.output.trans HLP.out.kp.output, Nat.le_trans HLP.out.kp.size hkk.size, fun b hb hs => (hkk.block b (by have := HLP.out.kp.size; omega) (by have := HSTB.out; omega)).trans (HLP.out.kp.block b hb hs)⟩)
      have HT1 := hide (show IsTm (OldA sb A) W2 p.1.h (.slice b1 p.1.args.length d1) p.1 from ⟨rfl, (HQ1.out.bar fun b _ h => .inl h).keep hkk (fun b _ hb => by simp only [OldA, not_or] at hb; omega)⟩)
      have HT2 := hide (show IsTm (OldA sb A) W2 p.2.h (.slice b2 p.2.args.length d2) p.2 from ⟨rfl, (HQ2.out.bar fun b _ h => .inl h).keep hkk (fun b _ hb => by simp only [OldA, not_or] at hb; omega)⟩)
      have HIN := hide (HLP.out.st.ind p (by simp))
      have HPS := hide (show SState D (xs.zip ys) f S (p :: qs.reverse) by have := HLP.out.st; simpa using this)
      have HSV := hide HLP.out.st.sv
      have hlt2 : stb < W2.heap.size := (Array.getElem?_eq_some_iff.1 hcs).1
      have HME := hide (show meas D f S (p :: qs.reverse) ≤ gk by have := HLP.out.me; simpa using this)
      clear HLOOP HLP HO2 HQ1 HQ2 hkk hcs
      have hS : ∀ W', Below W2.heap.size W2 W' → W'.cell? ⟨pbx, 0, none⟩ = some (.int .i64 p.1.h) ∧ W'.cell? ⟨pbx, 1, none⟩ = some (.slice b1 p.1.args.length d1) ∧ W'.cell? ⟨pbx, 2, none⟩ = some (.int .i64 p.2.h) ∧ W'.cell? ⟨pbx, 3, none⟩ = some (.slice b2 p.2.args.length d2) := fun W' hW => by
        have := (hW.block pbx hz2).trans hb9
        exact ⟨by simp [World.cell?, this], by simp [World.cell?, this], by simp [World.cell?, this], by simp [World.cell?, this]⟩
      refine drawn_four (fun W' => W'.cell? ⟨pbx, 0, none⟩ = some (.int .i64 p.1.h) ∧ W'.cell? ⟨pbx, 1, none⟩ = some (.slice b1 p.1.args.length d1) ∧ W'.cell? ⟨pbx, 2, none⟩ = some (.int .i64 p.2.h) ∧ W'.cell? ⟨pbx, 3, none⟩ = some (.slice b2 p.2.args.length d2)) [0, 1, 2, 4, 5, 6] 3 7 8 9 [.one 10, .one 11]
        (fun b c d e a' w' => ∃ (t10 t11 t34 t38 : Value) (x y : Nat), a' = { tmps := #[.pointer (some ⟨ss, 0, none⟩), .slice a1 xs.length c1, .slice a2 ys.length c2, undef, undef, undef, u6, .pointer (some ⟨stb, 0, none⟩), .func (.func 70) #[] #[.pointer (some ⟨stb, 0, none⟩)], .pointer (some ⟨pbx, 0, none⟩), t10, t11, .func (.func 70) #[] #[.pointer (some ⟨stb, 0, none⟩)], .func (.func 70) #[] #[.pointer (some ⟨stb, 0, none⟩)], .slice a1 xs.length c1, .slice a2 ys.length c2, .tuple #[], .slice (some ⟨g, 0, none⟩) (qs.length + 1) cap, .int .i64 ((qs.length : Int) + 1), .bool true, .slice (some ⟨g, 0, none⟩) (qs.length + 1) cap, .slice (some ⟨g, 0, none⟩) (qs.length + 1) cap, .int .i64 ((qs.length : Int) + 1), .int .i64 qs.length, .pointer (some ⟨g, qs.length * 4, none⟩), .agg #[.int .i64 p.1.h, .slice b1 p.1.args.length d1, .int .i64 p.2.h, .slice b2 p.2.args.length d2], .slice (some ⟨g, 0, none⟩) (qs.length + 1) cap, .slice (some ⟨g, 0, none⟩) (qs.length + 1) cap, .int .i64 ((qs.length : Int) + 1), .int .i64 qs.length, .slice (some ⟨g, 0, none⟩) qs.length cap, .pointer (some ⟨ss, 0, none⟩), .pointer (some ⟨pbx, 0, none⟩), .agg #[.int .i64 p.1.h, .slice b1 p.1.args.length d1], t34, .pointer (some ⟨ss, 0, none⟩), .pointer (some ⟨pbx, 2, none⟩), .agg #[.int .i64 p.2.h, .slice b2 p.2.args.length d2], t38, u39, u40, u41, u42, u43, u44, u45, u46, u47, u48, u49, u50, u51, u52, u53, u54, u55, u56, u57, u58, u59, u60, u61, u62, u63, u64, u65, u66, u67, u68, u69, u70, u71, u72, u73, u74, u75, u76, u77, u78, u79, u80, u81, u82, u83, u84, u85, u86, u87, u88, u89, u90, u91, u92, u93, u94, u95, u96, u97, u98], defers := [] } ∧ Below W2.heap.size W2 w' ∧ (b = true → ∃ r s', t34 = .agg #[.int .i64 r.h, s'] ∧ AtR A sb f p.1 w' r s') ∧ (c = true → ∃ r s', t38 = .agg #[.int .i64 r.h, s'] ∧ AtR A sb f p.2 w' r s') ∧
          (d = true → t10 = .pointer (some ⟨x, 0, none⟩) ∧ W2.heap.size ≤ x ∧ w'.heap[x]? = some (.cells #[.int .i64 0, .slice none 0 0] 24 (0, 0))) ∧ (e = true → t11 = .pointer (some ⟨y, 0, none⟩) ∧ W2.heap.size ≤ y ∧ w'.heap[y]? = some (.cells #[.int .i64 0, .slice none 0 0] 24 (0, 0))) ∧ (d = true → e = true → x ≠ y))
        (by kernel_rfl) (by kernel_rfl) (by kernel_rfl) (by kernel_rfl) (by kernel_rfl) (fun _ _ _ _ _ h => h) (hS _ (Below.refl _ _).drew) ?_ (fun b c d e a' w' h => by obtain ⟨_, _, _, _, _, _, _, h, -⟩ := h; exact hS _ h) ?_ ?_ ?_ ?_ ?_
      · iterate 6 (refine t_take5 (v := ?_) rfl (by rfl) ?_ ?_; rotate_left; (intro w hS; obtain ⟨hS0, hS1, hS2, hS3⟩ := hS; go_simp; try with_reducible rfl); simp only [Act.put, List.setIfInBounds_toArray, List.set_cons_zero, List.set_cons_succ])
        exact ⟨u10, u11, u34, u38, 0, 0, rfl, (Below.refl _ _).drew, fun h => by simp at h, fun h => by simp at h, fun h => by simp at h, fun h => by simp at h, fun h => by simp at h⟩
      · rintro d e _ w' ⟨t10, t11, t34, t38, x, y, rfl, hB, -, -, hd, he, hxy⟩
        refine wpOp_of rfl (by rfl) ?_
        intro K hK
        go_simp
        refine (at_calls A sb ss f S HSV.out p.1 _ _ w' HIN.out.1.1 (HSO2.out.below hB) (HT1.out.below hB)).mono ?_
        rintro e9 w9 ⟨r, s', rfl, hT, hle, hgd, hfn, hB9⟩
        exact hK.out _ _ ⟨t10, t11, _, t38, x, y, rfl, more_below hB hB9, fun _ => ⟨r, s', rfl, hT, hle, hgd, hfn⟩, fun h => by simp at h, fun h => ⟨(hd h).1, (hd h).2.1, (hB9.block _ (Array.getElem?_eq_some_iff.1 (hd h).2.2).1).trans (hd h).2.2⟩, fun h => ⟨(he h).1, (he h).2.1, (hB9.block _ (Array.getElem?_eq_some_iff.1 (he h).2.2).1).trans (he h).2.2⟩, hxy⟩
      · rintro d e _ w' ⟨t10, t11, t34, t38, x, y, rfl, hB, h3, -, hd, he, hxy⟩
        refine wpOp_of rfl (by rfl) ?_
        intro K hK
        go_simp
        refine (at_calls A sb ss f S HSV.out p.2 _ _ w' HIN.out.2.1 (HSO2.out.below hB) (HT2.out.below hB)).mono ?_
        rintro e9 w9 ⟨r, s', rfl, hT, hle, hgd, hfn, hB9⟩
        exact hK.out _ _ ⟨t10, t11, _, _, x, y, rfl, more_below hB hB9, fun h => (h3 h).elim fun r0 h0 => h0.elim fun s0 h1 => ⟨r0, s0, h1.1, h1.2.below hB9⟩, fun _ => ⟨r, s', rfl, hT, hle, hgd, hfn⟩, fun h => ⟨(hd h).1, (hd h).2.1, (hB9.block _ (Array.getElem?_eq_some_iff.1 (hd h).2.2).1).trans (hd h).2.2⟩, fun h => ⟨(he h).1, (he h).2.1, (hB9.block _ (Array.getElem?_eq_some_iff.1 (he h).2.2).1).trans (he h).2.2⟩, hxy⟩
      · rintro b c e _ w' ⟨t10, t11, t34, t38, x, y, rfl, hB, h3, h7, -, he, -⟩
        refine wpOp_of rfl (by rfl) ?_
        intro K hK
        go_simp
        have hB9 := (Below.refl w'.heap.size w').alloc (Nat.le_refl _) (.cells #[.int .i64 0, .slice none 0 0] 24)
        exact hK.out _ _ ⟨_, t11, t34, t38, w'.heap.size, y, rfl, more_below hB hB9, fun h => (h3 h).elim fun r0 h0 => h0.elim fun s0 h1 => ⟨r0, s0, h1.1, h1.2.below hB9⟩, fun h => (h7 h).elim fun r0 h0 => h0.elim fun s0 h1 => ⟨r0, s0, h1.1, h1.2.below hB9⟩, fun _ => ⟨rfl, hB.size, World.alloc_heap_new _ _⟩, fun h => ⟨(he h).1, (he h).2.1, (hB9.block _ (Array.getElem?_eq_some_iff.1 (he h).2.2).1).trans (he h).2.2⟩, fun _ h => by have := (Array.getElem?_eq_some_iff.1 (he h).2.2).1; omega⟩
      · rintro b c d _ w' ⟨t10, t11, t34, t38, x, y, rfl, hB, h3, h7, hd, -, -⟩
        refine wpOp_of rfl (by rfl) ?_
        intro K hK
        go_simp
        have hB9 := (Below.refl w'.heap.size w').alloc (Nat.le_refl _) (.cells #[.int .i64 0, .slice none 0 0] 24)
        exact hK.out _ _ ⟨t10, _, t34, t38, x, w'.heap.size, rfl, more_below hB hB9, fun h => (h3 h).elim fun r0 h0 => h0.elim fun s0 h1 => ⟨r0, s0, h1.1, h1.2.below hB9⟩, fun h => (h7 h).elim fun r0 h0 => h0.elim fun s0 h1 => ⟨r0, s0, h1.1, h1.2.below hB9⟩, fun h => ⟨(hd h).1, (hd h).2.1, (hB9.block _ (Array.getElem?_eq_some_iff.1 (hd h).2.2).1).trans (hd h).2.2⟩, fun _ => ⟨rfl, hB.size, World.alloc_heap_new _ _⟩, fun h _ => by have := (Array.getElem?_eq_some_iff.1 (hd h).2.2).1; omega⟩
      rintro _ w' ⟨t10, t11, t34, t38, x, y, rfl, hB, h3, h7, h8, h9, hxy⟩
      obtain ⟨z1, s1, rfl, r1⟩ := h3 rfl
      obtain ⟨z2, s2, rfl, r2⟩ := h7 rfl
      obtain ⟨rfl, hx1, hx2⟩ := h8 rfl
      obtain ⟨rfl, hy1, hy2⟩ := h9 rfl
      replace hxy := hxy rfl rfl
      obtain ⟨-, e1, f1, rfl, -, -⟩ := r1.tm.shape
      obtain ⟨-, e2, f2, rfl, -, -⟩ := r2.tm.shape
      obtain ⟨-, g0, g1, g2, g3⟩ := box2 hx2
      have hB4 : Below W2.heap.size W2 ((w'.setCell ⟨x, 0, none⟩ (.int .i64 z1.h)).setCell ⟨x, 1, none⟩ (.slice e1 z1.args.length f1)) := set2_below hB hx1 _ _
      refine p_one rfl (by rfl) ?_
      intro K hK
      go_simp
      refine hK.out _ _ (hS _ hB4) ?_
      clear hK K
      have hkx : Keep (fun b => b ≠ x) w' ((w'.setCell ⟨x, 0, none⟩ (.int .i64 z1.h)).setCell ⟨x, 1, none⟩ (.slice e1 z1.args.length f1)) := ((Keep.refl _ _).setCell (p := ⟨x, 0, none⟩) (by simp) _).setCell (p := ⟨x, 1, none⟩) (by simp) _
      have hx3 := box2_set hx2 (.int .i64 z1.h) (.slice e1 z1.args.length f1)
      have hy3 := hkx.obj (fun e => hxy e.symm) hy2
      have R1 := hide (r1.old hkx (fun b hb => by omega))
      have R2 := hide (r2.old hkx (fun b hb => by omega))
      clear g0 g1 g2 g3 hx2 hy2 hkx hB r1 r2 h3 h7 h8 h9
      generalize ((w'.setCell ⟨x, 0, none⟩ (.int .i64 z1.h)).setCell ⟨x, 1, none⟩ (.slice e1 z1.args.length f1)) = W4 at *
      obtain ⟨-, g0, g1, g2, g3⟩ := box2 hy3
      have hB5 : Below W2.heap.size W2 ((W4.setCell ⟨y, 0, none⟩ (.int .i64 z2.h)).setCell ⟨y, 1, none⟩ (.slice e2 z2.args.length f2)) := set2_below hB4 hy1 _ _
      refine p_one rfl (by rfl) ?_
      intro K hK
      go_simp
      refine hK.out _ _ (hS _ hB5) ?_
      clear hK K
      have hkx : Keep (fun b => b ≠ y) W4 ((W4.setCell ⟨y, 0, none⟩ (.int .i64 z2.h)).setCell ⟨y, 1, none⟩ (.slice e2 z2.args.length f2)) := ((Keep.refl _ _).setCell (p := ⟨y, 0, none⟩) (by simp) _).setCell (p := ⟨y, 1, none⟩) (by simp) _
      have hy4 := box2_set hy3 (.int .i64 z2.h) (.slice e2 z2.args.length f2)
      have hx4 := hkx.obj hxy hx3
      have R1' := hide (R1.out.old hkx (fun b hb => by omega))
      have R2' := hide (R2.out.old hkx (fun b hb => by omega))
      clear g0 g1 g2 g3 hx3 hy3 hkx hB4 R1 R2 hS hb9
      generalize ((W4.setCell ⟨y, 0, none⟩ (.int .i64 z2.h)).setCell ⟨y, 1, none⟩ (.slice e2 z2.args.length f2)) = W5 at *
      have R1 := R1'
      have R2 := R2'
      clear R1' R2'
      have HU := hide (ustate_leads HPS.out.us R1.out.leads R2.out.leads)
      have HSO5 := hide (HSO2.out.below hB5)
      have HSK5 := hide (HSK2.out.below hB5)
      have HKP5 := hide (Keep.trans HKP2.out (.of_below hB5))
      have hl5 : stb < W5.heap.size := by have := hB5.size; omega
      have hxs : stb < x := by omega
      have hys : stb < y := by omega
      have hga := good_args R1.out.good
      have hgb := good_args R2.out.good
      obtain ⟨-, x0, x1, x2, x3⟩ := box2 hx4
      obtain ⟨-, v0, v1, v2, v3⟩ := box2 hy4
      clear HSO2 HSK2 HKP2 HT1 HT2 hB5
      show Exit.then _ _ .normal _ _
      by_cases hn2 : z2.h < 0
      · by_cases hn1 : z1.h < 0
        · by_cases hlt : z2.h < z1.h
          · have HFR := hide (R2.out.free hn2)
            have HLOW := hide (show z1.h < 0 → -1 - z1.h < -1 - z2.h from fun _ => by omega)
            have HNX := hide hn2
            have HNE := hide (show z2.h ≠ z1.h from by omega)
            have HYD := hide (leads_inD HPS.out.fd HIN.out.1 R1.out.leads)
            go_wp2_with fail
            refine (bind_at A sb ss f S HSV.out x y (-1 - z2.h) (by omega) (by omega) HFR.out z1 _ _ W5 _ ((((((Keep.refl _ W5).setCell (p := ⟨x, 0, none⟩) (by simp) _).setCell (p := ⟨x, 1, none⟩) (by simp) _).setCell (p := ⟨y, 0, none⟩) (by simp) _).setCell (p := ⟨y, 1, none⟩) (by simp) _)) (by omega) (by omega) HSO5.out R1.out).mono ?_
            rintro e9 w9 ⟨rfl, hk9, hso9⟩
            have HK9 := hide hk9
            have HSO9 := hide hso9
            clear hk9 hso9 x0 x1 x2 x3 v0 v1 v2 v3 hx4 hy4
            cases hoc : occB (-1 - z2.h) (app S z1)
            · have HNO := hide (show ¬ occ (-1 - z2.h) (app S z1) from fun h => by rw [← occB_iff] at h; rw [h] at hoc; cases hoc)
              have HSX := hide (show SolAt A w9 sb ss (upd f (-1 - z2.h) z1) by have := HSO9.out; rw [hoc] at this; exact this)
              clear hoc
              obtain ⟨n1, n2⟩ := s_bind HDC.out HPS.out (ustate_swap HU.out) R2.out.good HYD.out HNX.out HFR.out HLOW.out HNO.out
              have HN1 := hide (SLoop.mk2 n1 HSX.out HSK5.out HKP5.out HK9.out HSTB.out hl5 (by omega) hxs hys (by omega) (by omega) (by omega))
              have HN2 := hide (Nat.lt_of_lt_of_le n2 HME.out)
              clear n1 n2
              go_wp2
              go_roundg (meas D (upd f (-1 - z2.h) z1) (fun w => app (oneS (-1 - z2.h) (app S z1)) (S w)) qs.reverse)
              case measure => exact HN2.out
              case rel => exact ⟨_, _, _, _, HN1.out⟩
            · have HO := hide (occB_iff.1 hoc)
              have HE := hide (show SolvePost A sb ss D (xs.zip ys) w (.returned (.bool false)) w9 from ⟨false, rfl, keep_out HKP5.out HK9.out HSTB.out hxs hys, (fun h => by cases h), fun _ => ustate_occ HSV.out (ustate_swap HU.out) HNX.out HYD.out.1 (fun h => R1.out.free h) HNE.out HO.out⟩)
              clear hoc
              go_wp2
              go_ret
              exact HE.out
          · by_cases heq : z1.h = z2.h
            · have hd : (z1.h == z2.h) = true := by simpa using heq
              have HN0 := hide (HPS.out.tail (ustate_skip HSV.out HU.out (show app S z1 = app S z2 by rw [app_neg hn1, app_neg hn2, heq])))
              have HN1 := hide (SLoop.mk2 HN0.out HSO5.out HSK5.out HKP5.out (Keep.refl (fun b => b ≠ sb ∧ b ≠ x ∧ b ≠ y) W5) HSTB.out hl5 (by omega) hxs hys (by omega) (by omega) (by omega))
              have HN2 := hide (Nat.lt_of_lt_of_le (meas_pop (D := D) f S qs.reverse p) HME.out)
              have hle : ¬ z2.h < z1.h := hlt
              clear heq
              go_wp2
              go_roundg (meas D f S qs.reverse)
              case measure => exact HN2.out
              case rel => exact ⟨_, _, _, _, HN1.out⟩
            · have hd : (z1.h == z2.h) = false := by simpa using heq
              have HFR := hide (R1.out.free hn1)
              have HLOW := hide (show z2.h < 0 → -1 - z2.h < -1 - z1.h from fun _ => by omega)
              have HNX := hide hn1
              have HNE := hide (show z1.h ≠ z2.h from heq)
              have HYD := hide (leads_inD HPS.out.fd HIN.out.2 R2.out.leads)
              go_wp2_with fail
              refine (bind_at A sb ss f S HSV.out x y (-1 - z1.h) (by omega) (by omega) HFR.out z2 _ _ W5 _ (Keep.refl _ _) (by omega) (by omega) HSO5.out R2.out).mono ?_
              rintro e9 w9 ⟨rfl, hk9, hso9⟩
              have HK9 := hide hk9
              have HSO9 := hide hso9
              clear hk9 hso9 x0 x1 x2 x3 v0 v1 v2 v3 hx4 hy4
              cases hoc : occB (-1 - z1.h) (app S z2)
              · have HNO := hide (show ¬ occ (-1 - z1.h) (app S z2) from fun h => by rw [← occB_iff] at h; rw [h] at hoc; cases hoc)
                have HSX := hide (show SolAt A w9 sb ss (upd f (-1 - z1.h) z2) by have := HSO9.out; rw [hoc] at this; exact this)
                clear hoc
                obtain ⟨n1, n2⟩ := s_bind HDC.out HPS.out HU.out R1.out.good HYD.out HNX.out HFR.out HLOW.out HNO.out
                have HN1 := hide (SLoop.mk2 n1 HSX.out HSK5.out HKP5.out HK9.out HSTB.out hl5 (by omega) hxs hys (by omega) (by omega) (by omega))
                have HN2 := hide (Nat.lt_of_lt_of_le n2 HME.out)
                clear n1 n2
                go_wp2
                go_roundg (meas D (upd f (-1 - z1.h) z2) (fun w => app (oneS (-1 - z1.h) (app S z2)) (S w)) qs.reverse)
                case measure => exact HN2.out
                case rel => exact ⟨_, _, _, _, HN1.out⟩
              · have HO := hide (occB_iff.1 hoc)
                have HE := hide (show SolvePost A sb ss D (xs.zip ys) w (.returned (.bool false)) w9 from ⟨false, rfl, keep_out HKP5.out HK9.out HSTB.out hxs hys, (fun h => by cases h), fun _ => ustate_occ HSV.out HU.out HNX.out HYD.out.1 (fun h => R2.out.free h) HNE.out HO.out⟩)
                clear hoc
                go_wp2
                go_ret
                exact HE.out
        · have hge : 0 ≤ z1.h := by omega
          have HFR := hide (R2.out.free hn2)
          have HLOW := hide (show z1.h < 0 → -1 - z1.h < -1 - z2.h from fun h => absurd h hn1)
          have HNX := hide hn2
          have HNE := hide (show z2.h ≠ z1.h from by omega)
          have HYD := hide (leads_inD HPS.out.fd HIN.out.1 R1.out.leads)
          go_wp2_with fail
          refine (bind_at A sb ss f S HSV.out x y (-1 - z2.h) (by omega) (by omega) HFR.out z1 _ _ W5 _ ((((((Keep.refl _ W5).setCell (p := ⟨x, 0, none⟩) (by simp) _).setCell (p := ⟨x, 1, none⟩) (by simp) _).setCell (p := ⟨y, 0, none⟩) (by simp) _).setCell (p := ⟨y, 1, none⟩) (by simp) _)) (by omega) (by omega) HSO5.out R1.out).mono ?_
          rintro e9 w9 ⟨rfl, hk9, hso9⟩
          have HK9 := hide hk9
          have HSO9 := hide hso9
          clear hk9 hso9 x0 x1 x2 x3 v0 v1 v2 v3 hx4 hy4
          cases hoc : occB (-1 - z2.h) (app S z1)
          · have HNO := hide (show ¬ occ (-1 - z2.h) (app S z1) from fun h => by rw [← occB_iff] at h; rw [h] at hoc; cases hoc)
            have HSX := hide (show SolAt A w9 sb ss (upd f (-1 - z2.h) z1) by have := HSO9.out; rw [hoc] at this; exact this)
            clear hoc
            obtain ⟨n1, n2⟩ := s_bind HDC.out HPS.out (ustate_swap HU.out) R2.out.good HYD.out HNX.out HFR.out HLOW.out HNO.out
            have HN1 := hide (SLoop.mk2 n1 HSX.out HSK5.out HKP5.out HK9.out HSTB.out hl5 (by omega) hxs hys (by omega) (by omega) (by omega))
            have HN2 := hide (Nat.lt_of_lt_of_le n2 HME.out)
            clear n1 n2
            go_wp2
            go_roundg (meas D (upd f (-1 - z2.h) z1) (fun w => app (oneS (-1 - z2.h) (app S z1)) (S w)) qs.reverse)
            case measure => exact HN2.out
            case rel => exact ⟨_, _, _, _, HN1.out⟩
          · have HO := hide (occB_iff.1 hoc)
            have HE := hide (show SolvePost A sb ss D (xs.zip ys) w (.returned (.bool false)) w9 from ⟨false, rfl, keep_out HKP5.out HK9.out HSTB.out hxs hys, (fun h => by cases h), fun _ => ustate_occ HSV.out (ustate_swap HU.out) HNX.out HYD.out.1 (fun h => R1.out.free h) HNE.out HO.out⟩)
            clear hoc
            go_wp2
            go_ret
            exact HE.out
      · by_cases hn1 : z1.h < 0
        · have hd : (z1.h == z2.h) = false := by simp; omega
          have HFR := hide (R1.out.free hn1)
          have HLOW := hide (show z2.h < 0 → -1 - z2.h < -1 - z1.h from fun h => absurd h hn2)
          have HNX := hide hn1
          have HNE := hide (show z1.h ≠ z2.h from by omega)
          have HYD := hide (leads_inD HPS.out.fd HIN.out.2 R2.out.leads)
          go_wp2_with fail
          refine (bind_at A sb ss f S HSV.out x y (-1 - z1.h) (by omega) (by omega) HFR.out z2 _ _ W5 _ (Keep.refl _ _) (by omega) (by omega) HSO5.out R2.out).mono ?_
          rintro e9 w9 ⟨rfl, hk9, hso9⟩
          have HK9 := hide hk9
          have HSO9 := hide hso9
          clear hk9 hso9 x0 x1 x2 x3 v0 v1 v2 v3 hx4 hy4
          cases hoc : occB (-1 - z1.h) (app S z2)
          · have HNO := hide (show ¬ occ (-1 - z1.h) (app S z2) from fun h => by rw [← occB_iff] at h; rw [h] at hoc; cases hoc)
            have HSX := hide (show SolAt A w9 sb ss (upd f (-1 - z1.h) z2) by have := HSO9.out; rw [hoc] at this; exact this)
            clear hoc
            obtain ⟨n1, n2⟩ := s_bind HDC.out HPS.out HU.out R1.out.good HYD.out HNX.out HFR.out HLOW.out HNO.out
            have HN1 := hide (SLoop.mk2 n1 HSX.out HSK5.out HKP5.out HK9.out HSTB.out hl5 (by omega) hxs hys (by omega) (by omega) (by omega))
            have HN2 := hide (Nat.lt_of_lt_of_le n2 HME.out)
            clear n1 n2
            go_wp2
            go_roundg (meas D (upd f (-1 - z1.h) z2) (fun w => app (oneS (-1 - z1.h) (app S z2)) (S w)) qs.reverse)
            case measure => exact HN2.out
            case rel => exact ⟨_, _, _, _, HN1.out⟩
          · have HO := hide (occB_iff.1 hoc)
            have HE := hide (show SolvePost A sb ss D (xs.zip ys) w (.returned (.bool false)) w9 from ⟨false, rfl, keep_out HKP5.out HK9.out HSTB.out hxs hys, (fun h => by cases h), fun _ => ustate_occ HSV.out HU.out HNX.out HYD.out.1 (fun h => R2.out.free h) HNE.out HO.out⟩)
            clear hoc
            go_wp2
            go_ret
            exact HE.out
        · by_cases heq : z1.h = z2.h
          · by_cases hla : z1.args.length = z2.args.length
            · have hd : (z1.h != z2.h) = false := by simpa using heq
              have hd2 : ((z1.args.length : Int) != (z2.args.length : Int)) = false := by simp; omega
              have HLA := hide hla
              obtain ⟨n1, n2⟩ := s_args HDC.out HPS.out R1.out.leads R2.out.leads hn1 hn2 heq hla
              have hqz : qs.length + z1.args.length ≤ 1000000000 := by omega
              have hput := putp_calls A sb stb (.slice (some ⟨g, 0, none⟩) qs.length cap) qs z1.args z2.args _ _ W5 (by omega) hla hqz HSK5.out R1.out.tm.2 R2.out.tm.2
              have HN1 := hide n1
              have HN2 := hide (Nat.lt_of_lt_of_le n2 HME.out)
              clear n1 n2 heq hla
              go_wp2_with fail
              refine hput.mono ?_
              rintro e9 w9 ⟨rfl, v9, hst9, hk9⟩
              have HN3 := hide (show SLoop A sb ss stb D (xs.zip ys) w (meas D f S (z1.args.zip z2.args ++ qs.reverse)) w9 f S v9 (qs ++ (z1.args.zip z2.args).reverse) from
                { st := by rw [List.reverse_append, List.reverse_reverse]; exact HN1.out
                  me := by rw [List.reverse_append, List.reverse_reverse]; exact Nat.le_refl _
                  sol := HSO5.out.keep hk9 (fun b hb => ⟨by omega, by simp [Value.ownBlock]; omega⟩)
                  stk := hst9
                  kp := ⟨hk9.os.trans HKP5.out.os, hk9.tape.trans HKP5.out.tape, hk9.output.trans HKP5.out.output, Nat.le_trans HKP5.out.size hk9.size, fun b hb hs => (hk9.block b (by have := HKP5.out.size; omega) ⟨by have := HSTB.out; omega, by have := HSTB.out; simp [Value.ownBlock]; omega⟩).trans (HKP5.out.block b hb hs)⟩
                  lt := Nat.lt_of_lt_of_le hl5 hk9.size })
              clear hput hst9 hk9 x0 x1 x2 x3 v0 v1 v2 v3 hx4 hy4
              go_wp2
              go_roundg (meas D f S (z1.args.zip z2.args ++ qs.reverse))
              case measure => exact HN2.out
              case rel => exact ⟨_, _, _, _, HN3.out⟩
            · have hd : (z1.h != z2.h) = false := by simpa using heq
              have hd2 : ((z1.args.length : Int) != (z2.args.length : Int)) = true := by simp; omega
              have HCL := hide (show ¬ (z1.h = z2.h ∧ z1.args.length = z2.args.length) from fun h => hla h.2)
              clear heq hla
              have HE := hide (show SolvePost A sb ss D (xs.zip ys) w (.returned (.bool false)) W5 from ⟨false, rfl, HKP5.out, (fun h => by cases h), fun _ => ustate_clash HU.out hn1 hn2 HCL.out⟩)
              go_wp2
              go_ret
              exact HE.out
          · have hd : (z1.h != z2.h) = true := by simpa using heq
            have HCL := hide (show ¬ (z1.h = z2.h ∧ z1.args.length = z2.args.length) from fun h => heq h.1)
            clear heq
            have HE := hide (show SolvePost A sb ss D (xs.zip ys) w (.returned (.bool false)) W5 from ⟨false, rfl, HKP5.out, (fun h => by cases h), fun _ => ustate_clash HU.out hn1 hn2 HCL.out⟩)
            go_wp2
            go_ret
            exact HE.out
end
open Go.RowKit

theorem nsubs_bound {ps ts : List Tm} (h10 : ps.length ≤ 10) (hl : ps.length = ts.length) (hp : ps.all rightB = true) (ht : ts.all rightB = true) : (nsubsL (ps ++ ts)).length ≤ 10000 := by
  have h1 := nsubsL_length (ps ++ ts)
  rw [Tm.sizes_append] at h1
  have key : ∀ l : List Tm, l.all rightB = true → Tm.sizes l ≤ l.length * 400 := fun l => by
    induction l with
    | nil => simp [Tm.sizes]
    | cons t l ih =>
      intro h
      simp only [List.all_cons, Bool.and_eq_true] at h
      have := ih h.2
      have := right_size (show chk t = 0 by simpa [rightB] using h.1)
      simp only [Tm.sizes, List.length_cons]
      omega
  have := key ps hp
  have := key ts ht
  omega
set_option maxHeartbeats 8000000 in
set_option maxRecDepth 100000 in
theorem uall_calls (A : Nat → Prop) (ps ts : List Tm) (s1 s2 : Value) (w : World) (hp9 : Tm.sizes ps ≤ 1000000000) (ht9 : Tm.sizes ts ≤ 1000000000) (h10 : ps.length ≤ 10) (hA : ∀ b, A b → b < w.heap.size) (hs : Terms A w s1 ps) (ht : Terms A w s2 ts) :
    Calls Tryd.prog 39 #[s1, s2] w fun e w' => ∃ v, e = .returned (.tuple #[v, .bool (unifyT ps ts).2.1, .int .i64 (unifyT ps ts).2.2]) ∧ Binds A w' v (unifyT ps ts).1 ∧ Below w.heap.size w w' := by
  obtain ⟨a1, d1, rfl, hd1, hd1'⟩ := hs.shape
  obtain ⟨a2, d2, rfl, hd2, hd2'⟩ := ht.shape
  have HAO := hide hA
  have NILB := hide (fun W => (by simp only [Binds, RepD, List.map_nil]; exact ⟨none, 0, 0, rfl, rfl, by omega, by omega, by simp⟩ : Binds (A) W (.slice none 0 0) []))
  have HPS := hide (fun t (h : t ∈ ps) => (by obtain ⟨i, hi, rfl⟩ := List.getElem_of_mem h; exact Nat.le_trans (Tm.size_get ps i hi) hp9 : t.size ≤ 1000000000))
  have HTS := hide (fun t (h : t ∈ ts) => (by obtain ⟨i, hi, rfl⟩ := List.getElem_of_mem h; exact Nat.le_trans (Tm.size_get ts i hi) ht9 : t.size ≤ 1000000000))
  go_enter Tryd.func39, Tryd.ntmps39
  by_cases hlen : ps.length = ts.length
  rotate_left
  · have HM := hide (unify_wrong (fun h => hlen h.1))
    have hd : ((ps.length : Int) != ts.length) = true := by simp; omega
    clear hlen
    go_wp2
    exact bodyPost_ret (v := .tuple #[.slice none 0 0, .bool false, .int .i64 1]) (by simp [results, Tryd.results39, go_sem]) rfl ⟨_, by rw [HM.out], by rw [HM.out]; exact NILB.out _, Below.refl _ _⟩
  have hd : ((ps.length : Int) != ts.length) = false := by simp; omega
  have HL := hide hlen
  clear hlen
  go_wp2_with fail
  refine (ucontains_calls ps (A) _ _ hs HPS.out).mono ?_
  rintro e w1 ⟨rfl, B1⟩
  cases hpr : ps.all rightB
  · have HM := hide (unify_wrong (ps := ps) (ts := ts) (fun h => by rw [hpr] at h; exact absurd h.2.1 (by simp)))
    have HPR := hide hpr
    clear hpr
    simp only [Bool.not_false]
    go_wp2
    exact bodyPost_ret (v := .tuple #[.slice none 0 0, .bool false, .int .i64 1]) (by simp [results, Tryd.results39, go_sem]) rfl ⟨_, by rw [HM.out], by rw [HM.out]; exact NILB.out _, B1⟩
  have HPR := hide hpr
  clear hpr
  simp only [Bool.not_true]
  go_wp2_with fail
  refine (ucontains_calls ts (A) _ _ (ht.below B1) HTS.out).mono ?_
  rintro e w2 ⟨rfl, h2⟩
  have B2 := more_below B1 h2
  clear h2 B1
  cases htr : ts.all rightB
  · have HM := hide (unify_wrong (ps := ps) (ts := ts) (fun h => by rw [htr] at h; exact absurd h.2.2 (by simp)))
    have HTR := hide htr
    clear htr
    simp only [Bool.not_false]
    go_wp2
    exact bodyPost_ret (v := .tuple #[.slice none 0 0, .bool false, .int .i64 1]) (by simp [results, Tryd.results39, go_sem]) rfl ⟨_, by rw [HM.out], by rw [HM.out]; exact NILB.out _, B2⟩
  have HTR := hide htr
  clear htr
  simp only [Bool.not_true]
  have hmm := @run_makeMap Tryd.prog
  go_wp2_with fail
  have hal : Below w2.heap.size w2 ((w2.alloc (.map #[] 0)).alloc (.cells #[.map (some w2.heap.size)] 102)) := ((Below.refl _ _).alloc (Nat.le_refl _) _).alloc (by simp) _
  have B3 := more_below B2 hal
  have hw2 := B2.size
  have hz3 : ((w2.alloc (.map #[] 0)).alloc (.cells #[.map (some w2.heap.size)] 102)).heap.size = w2.heap.size + 2 := by simp
  have hsol : SolAt A ((w2.alloc (.map #[] 0)).alloc (.cells #[.map (some w2.heap.size)] 102)) w2.heap.size (w2.heap.size + 1) noE :=
    ⟨by have := World.alloc_heap_new (w2.alloc (.map #[] 0)) (.cells #[.map (some w2.heap.size)] 102); rwa [World.size_alloc] at this,
     (MapEnv.made (OldA w2.heap.size A) w2).below ((Below.refl _ _).alloc (Nat.le_refl _) _), by omega⟩
  have HDL := hide (nsubs_bound h10 HL.out HPR.out HTR.out)
  have HG := hide (goods_pair HPR.out HTR.out)
  have hso := solve_calls A w2.heap.size (w2.heap.size + 1) (nsubsL (ps ++ ts)) (closedL HG.out) HDL.out ps ts HL.out h10 (fun t h => inD_nsubsL HG.out (by simp [h])) (fun t h => inD_nsubsL HG.out (by simp [h])) (.slice a1 ps.length d1) (.slice a2 ts.length d2) _ hsol (hs.old hw2 B3) (ht.old hw2 B3)
  generalize ((w2.alloc (.map #[] 0)).alloc (.cells #[.map (some w2.heap.size)] 102)) = W3 at *
  refine hso.mono ?_
  rintro e w4 ⟨r, rfl, hk4, h4, h5⟩
  have B4 : Below w.heap.size w w4 := B3.trans (hk4.below (fun b hb e => by omega) B3.size)
  have hz4 : w2.heap.size < w4.heap.size := by have := hk4.size; omega
  clear hal hsol hso
  cases r with
  | false =>
    have HM := hide (unify_none HL.out h10 HPR.out HTR.out (h5 rfl))
    clear h4 h5
    go_wp2
    exact bodyPost_ret (v := .tuple #[.slice none 0 0, .bool false, .int .i64 0]) (by simp [results, Tryd.results39, go_sem]) rfl ⟨_, by rw [HM.out], by rw [HM.out]; exact NILB.out _, B4⟩
  | true =>
    obtain ⟨f, S, g1, g2, g3, g4⟩ := h4 rfl
    have HM := hide (unify_some HL.out h10 HPR.out HTR.out (mgu_of g2 g3))
    have hen := uend_calls A A w2.heap.size (w2.heap.size + 1) f S g2 w4 (fun b hb => by have := HAO.out b hb; have := B4.size; omega) g1
    rw [dom_moves g2] at hen
    have he : endL S ((upto 256).filter (movesS S)) [] = tidyS S := rfl
    rw [he] at hen
    clear h4 h5 g1 g3 g4 he
    go_wp2_with fail
    refine hen.mono ?_
    rintro e w5 ⟨v, rfl, hv, B5⟩
    have B6 := more_below B4 B5
    have HV := hide hv
    obtain ⟨av, cv, hvs, -, -⟩ := hv.shape
    subst hvs
    have HQ := hide (show ((unifyT ps ts).1, (unifyT ps ts).2.1, (unifyT ps ts).2.2) = ((tidyS S).1, (tidyS S).2 == 0, (tidyS S).2) from HM.out)
    clear hen hv g2
    generalize htt : (tidyS S).1 = tt at *
    generalize hte : (tidyS S).2 = te at *
    clear htt hte
    go_wp2
    have hq := HQ.out
    simp only [Prod.mk.injEq] at hq
    exact bodyPost_ret (v := .tuple #[.slice av tt.length cv, .bool (te == 0), .int .i64 te]) (by simp [results, Tryd.results39, go_sem]) rfl ⟨_, by rw [hq.2.1, hq.2.2], by rw [hq.1]; exact HV.out, B6⟩

set_option maxHeartbeats 4000000 in
set_option maxRecDepth 100000 in
theorem umgu_calls (A : Nat → Prop) (p t : Tm) (h1 h2 : Int) (s1 s2 : Value) (w : World) (hp9 : p.size ≤ 1000000000) (ht9 : t.size ≤ 1000000000) (hA : ∀ b, A b → b < w.heap.size) (hp : IsTm A w h1 s1 p) (ht : IsTm A w h2 s2 t) :
    Calls Tryd.prog 19 #[.agg #[.int .i64 h1, s1], .agg #[.int .i64 h2, s2]] w fun e w' => GivesM A w (unifyT [p] [t]) e w' := by
  obtain ⟨rfl, a1, c1, rfl, -, -⟩ := hp.shape
  obtain ⟨rfl, a2, c2, rfl, -, -⟩ := ht.shape
  have HAO := hide hA
  go_enter Tryd.func19, Tryd.ntmps19
  go_wp2_with fail
  have b2 : Below w.heap.size w ((w.alloc (.cells #[.int .i64 p.h, .slice a1 p.args.length c1] 24)).alloc (.cells #[.int .i64 t.h, .slice a2 t.args.length c2] 24)) := ((Below.refl _ _).alloc (Nat.le_refl _) _).alloc (by rw [World.size_alloc]; omega) _
  have e2 : ((w.alloc (.cells #[.int .i64 p.h, .slice a1 p.args.length c1] 24)).alloc (.cells #[.int .i64 t.h, .slice a2 t.args.length c2] 24)).heap.size = w.heap.size + 1 + 1 := by rw [World.size_alloc, World.size_alloc]
  generalize (w.alloc (.cells #[.int .i64 p.h, .slice a1 p.args.length c1] 24)).alloc (.cells #[.int .i64 t.h, .slice a2 t.args.length c2] 24) = W2 at *
  have p2 := hp.below b2
  have t2 := ht.below b2
  have k3 : (W2.alloc (.cells #[.int .i64 p.h, .slice a1 p.args.length c1] 24)).heap[W2.heap.size]? = some (.cells #[.int .i64 p.h, .slice a1 p.args.length c1] 24 (0, 0)) := World.alloc_heap_new _ _
  have b3 : Below W2.heap.size W2 (W2.alloc (.cells #[.int .i64 p.h, .slice a1 p.args.length c1] 24)) := (Below.refl _ _).alloc (Nat.le_refl _) _
  have p3 := terms1 (A := A) (t := p) k3 (fun h => by have := HAO.out _ h; omega) (p2.below b3).2
  have t3 := t2.below b3
  have B3 := more_below b2 b3
  have e3 : (W2.alloc (.cells #[.int .i64 p.h, .slice a1 p.args.length c1] 24)).heap.size = w.heap.size + 1 + 1 + 1 := by rw [World.size_alloc, e2]
  rw [e2] at p3
  generalize W2.alloc (.cells #[.int .i64 p.h, .slice a1 p.args.length c1] 24) = W3 at *
  have k4 : (W3.alloc (.cells #[.int .i64 t.h, .slice a2 t.args.length c2] 24)).heap[W3.heap.size]? = some (.cells #[.int .i64 t.h, .slice a2 t.args.length c2] 24 (0, 0)) := World.alloc_heap_new _ _
  have b4 : Below W3.heap.size W3 (W3.alloc (.cells #[.int .i64 t.h, .slice a2 t.args.length c2] 24)) := (Below.refl _ _).alloc (Nat.le_refl _) _
  have t4 := terms1 (A := A) (t := t) k4 (fun h => by have := HAO.out _ h; omega) (t3.below b4).2
  have p4 := p3.below b4
  have B4 := more_below B3 b4
  rw [e3] at t4
  generalize W3.alloc (.cells #[.int .i64 t.h, .slice a2 t.args.length c2] 24) = W4 at *
  clear e2 e3 k3 k4 b2 b3 b4 p2 t2 p3 t3 B3
  refine (uall_calls A [p] [t] _ _ W4 (by rw [sizes_one]; exact hp9) (by rw [sizes_one]; exact ht9) (by simp) (fun b h => Nat.lt_of_lt_of_le (HAO.out b h) B4.size) p4 t4).mono ?_
  rintro e w5 ⟨v, rfl, hv, h5⟩
  have B5 := more_below B4 h5
  go_wp2
  exact bodyPost_ret (v := .tuple #[v, .bool (unifyT [p] [t]).2.1, .int .i64 (unifyT [p] [t]).2.2]) (by simp [results, Tryd.results19, go_sem]) rfl ⟨v, rfl, hv, B5⟩
end Go.Proofs.YtneecjikdghchaaDoor
