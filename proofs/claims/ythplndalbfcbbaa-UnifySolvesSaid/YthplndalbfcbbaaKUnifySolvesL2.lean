/- What the proof of the law rests on: contracts of the functions, plain laws, and words. -/
import Derived.Test.YthplndalbfcbbaaKUnifySolvesL1
set_option linter.unusedSimpArgs false
set_option linter.unusedVariables false
namespace Go.Proofs.Ythplndalbfcbbaa
open Go.RowKit Go.Proofs.YthplndalbfcbbaaW.PrintWords
theorem thenE_all {s u : List Bd} : ∀ vs : List Int, (∀ v, v ∈ vs → chk (bothT s u v) = 0) → thenE s u vs = 0
  | [], _ => rfl
  | v :: vs, h => by rw [thenE, if_pos (h v (by simp))]; exact thenE_all vs fun x hx => h x (by simp [hx])
section
variable {S : Sub} {f : Env} {L0 : Pairs}
theorem tidy_of (hS : Solved f S) {v : Int} (h0 : 0 ≤ v) (h1 : v ≤ 255) : ofBs v (tidyF S) = S v := tidyF_of h0 h1 (hS.good v h0 h1)
theorem tidy_right (hc : ∀ v, 0 ≤ v → v ≤ 255 → chk (S v) = 0) : rightBs (tidyF S) = true := tidyF_right fun v h0 h1 _ => rightB_chk.2 (hc v h0 h1)
theorem tidy_put (hS : Solved f S) {t : Tm} (hg : t.good = true) : putT (tidyF S) t = app S t := by
  rw [app_put]
  exact app_congr t fun v hv => tidy_of hS (occ_range hg hv).1 (occ_range hg hv).2
theorem tidy_then (hS : Solved f S) (hc : ∀ v, 0 ≤ v → v ≤ 255 → chk (S v) = 0) : thenT (tidyF S) (tidyF S) = (tidyF S, 0) := by
  have key : ∀ v, v ∈ upto 256 → bothT (tidyF S) (tidyF S) v = S v := fun v hv => by
    have hv := mem_upto.1 hv
    unfold bothT
    rw [tidy_of hS hv.1 (by omega), tidy_put hS (hS.good v hv.1 (by omega)), solved_idem hS hv.1 (by omega)]
  unfold thenT thenP
  rw [if_pos ⟨tidy_right hc, tidy_right hc⟩, if_pos (thenE_all _ fun v hv => by rw [key v hv]; have hv := mem_upto.1 hv; exact hc v hv.1 (by omega))]
  have e : (upto 256).filter (movesB (tidyF S) (tidyF S)) = (upto 256).filter fun v => (S v).h != -1 - v := List.filter_congr fun v hv => by unfold movesB; rw [key v hv]
  have e2 : bothL (tidyF S) (tidyF S) (upto 256) = tidyF S := by
    show ((upto 256).filter (movesB (tidyF S) (tidyF S))).map (fun v => (⟨v, bothT (tidyF S) (tidyF S) v⟩ : Bd)) = _
    rw [e]
    exact List.map_congr_left fun v hv => by rw [key v (List.mem_filter.1 hv).1]
  rw [e2]
theorem tidy_not (hS : Solved f S) {b c : Bd} (hb : b ∈ tidyF S) (hc : c ∈ tidyF S) : ¬ b.v ∈ varsT c.t := fun h => by
  obtain ⟨h1, h2, h3⟩ := tidyF_mem.1 hb
  obtain ⟨g1, g2, g3⟩ := tidyF_mem.1 hc
  rw [g2] at h
  have := hS.idem c.v b.v g1.1 g1.2 (occ_iff.2 h)
  exact h3 (by rw [hS.free _ this]; rfl)
theorem usolves_l1 (hS : Solved f S) (hc : ∀ v, 0 ≤ v → v ≤ 255 → chk (S v) = 0) {x y : Tm} {e : Int} {i : Nat} (hi : i < (tidyF S).length)
    (hr : Ev (fun k => PA.elenchuslaw04_UnifySolves.l0 k (toBL (tidyF S)) e ((i + 1 : Nat) : Int) x.h (toSL x.args) y.h (toSL y.args)) true) :
    ∀ (d j : Nat), j + d = (tidyF S).length → Ev (fun k => PA.elenchuslaw04_UnifySolves.l1 k (toBL (tidyF S)) e (i : Int) (j : Int) x.h (toSL x.args) y.h (toSL y.args)) true
  | 0, j, hj => by
    have hl := tidyF_length S
    refine hr.step fun k => ?_
    rw [PA.elenchuslaw04_UnifySolves.l1, if_neg (by rw [toBL_length]; omega), wrap_next (by omega) (by omega)]; rfl
  | d + 1, j, hj => by
    have hl := tidyF_length S
    have hlt : j < (tidyF S).length := by omega
    refine (usolves_l1 hS hc hi hr d (j + 1) (by omega)).step fun k => ?_
    rw [PA.elenchuslaw04_UnifySolves.l1, if_pos (by rw [toBL_length]; omega), if_pos (by omega), if_pos (by rw [toBL_length]; omega), if_pos (by omega), rdB_nat _ j hlt, rdB_nat _ i hi]
    have hm := List.getElem_mem hlt
    have hn := tidy_not hS (List.getElem_mem hi) hm
    obtain ⟨g1, g2, g3⟩ := tidyF_mem.1 hm
    have hz := right_size (hc _ g1.1 g1.2)
    have hg := hS.good _ g1.1 g1.2
    rw [← g2] at hz hg
    have hvp := vars_pure (p := (tidyF S)[j].t) (by omega) hg
    simp only [toB, toS_f0, toS_f1, hvp, Option.bind_some, PA.elenchusref01_In.f]
    rw [if_neg (fun e => hn (hasB_iff.1 e)), wrap_next (by omega) (by omega)]; rfl
theorem usolves_l0 (hS : Solved f S) (hc : ∀ v, 0 ≤ v → v ≤ 255 → chk (S v) = 0) {x : Tm} {e : Int} (hx : x.size ≤ 1000000000) :
    ∀ (d i : Nat), i + d = (tidyF S).length → Ev (fun k => PA.elenchuslaw04_UnifySolves.l0 k (toBL (tidyF S)) e (i : Int) x.h (toSL x.args) x.h (toSL x.args)) true
  | 0, i, hi => by
    refine Ev.const.step fun k => ?_
    rw [PA.elenchuslaw04_UnifySolves.l0, if_neg (by rw [toBL_length]; omega)]
    simp only [PA.elenchuslaw04_awake.f, Option.bind_some, if_true]
    rw [same_pureG (by omega) (by omega), sameB_self]
    split <;> rfl
  | d + 1, i, hi => by
    have hlt : i < (tidyF S).length := by omega
    refine (usolves_l1 (x := x) (y := x) (e := e) hS hc hlt (usolves_l0 (e := e) hS hc hx d (i + 1) (by omega)) (tidyF S).length 0 (by omega)).step fun k => ?_
    rw [PA.elenchuslaw04_UnifySolves.l0, if_pos (by rw [toBL_length]; omega)]; rfl
end
theorem endT_size9 (t : Tm) : (endT t).1.size ≤ 1000000000 := by
  unfold endT
  split
  · rename_i h; have := right_size h; simp only; omega
  · simp [Tm.size, Tm.sizes]
theorem usolves_pure (a b : Tm) : Ev (fun k => PA.elenchuslaw04_UnifySolves.f k a.h (toSL a.args) b.h (toSL b.args)) true := by
  unfold PA.elenchuslaw04_UnifySolves.f
  rw [two_list]
  refine (few4_f [a, b]).bind (g := fun k t => if t = true then (PA.unify_Mgu.f a.h (toSL a.args) b.h (toSL b.args)).bind fun u => if u.2.2 = 0 then PA.elenchuslaw04_UnifySolves.j0 k u.1 (!u.2.1) a.h (toSL a.args) b.h (toSL b.args) else PA.elenchuslaw04_UnifySolves.j0 k u.1 true a.h (toSL a.args) b.h (toSL b.args) else some true) ?_
  cases hf : fewR [a, b]
  · exact Ev.const.congr fun k => by simp
  have hz := fewR_sizes hf
  simp only [Tm.sizes] at hz
  simp only [if_true]
  rw [unify_pure (by omega) (by omega)]
  simp only [Option.bind_some]
  have hwake : Ev (fun k => PA.elenchuslaw04_UnifySolves.j0 k (toBL []) true a.h (toSL a.args) b.h (toSL b.args)) true := Ev.const.step fun k => by rw [PA.elenchuslaw04_UnifySolves.j0, if_pos rfl]; simp [PA.elenchuslaw04_awake.f, toBL]
  cases ucase (ps := [a]) (ts := [b]) (by simp) with
  | wrong _ e => rw [e]; exact hwake.congr fun k => by rw [if_neg (by simp)]
  | none _ hp ht hn e => rw [e]; exact hwake.congr fun k => by rw [if_pos rfl]; rfl
  | long f S x _ hp ht hS hu hx e => rw [e]; exact hwake.congr fun k => by rw [if_neg (by simp only; omega)]
  | ok f S _ hp ht hS hu hc e =>
    rw [e]
    have ra : rightB a = true := by simpa using hp
    have rb : rightB b = true := by simpa using ht
    have hR := tidy_right hc
    have hsol := sol_cons.1 ((mgu_of hS hu).sol : Sol S [(a, b)])
    have p1 : applyT (tidyF S) a = endT (app S a) := by unfold applyT; rw [if_pos ⟨hR, ra⟩, tidy_put hS (chk_good ra)]
    have p2 : applyT (tidyF S) b = endT (app S a) := by
      unfold applyT; rw [if_pos ⟨hR, rb⟩, tidy_put hS (chk_good rb)]
      congr 1; exact hsol.1.symm
    have hthen : PA.subst_Then.f (toBL (tidyF S)) (toBL (tidyF S)) = some (toBL (tidyF S), 0) := by
      unfold PA.subst_Then.f
      have hl := tidyF_length S
      rw [ofBL_toBL, if_pos ⟨okBd_right hR, okBd_right hR, by omega, by omega⟩, tidy_then hS hc]
    have hck : PA.subst_Check.f (toBL (tidyF S)) = some 0 := by rw [check_pure (okBd_right hR)]; simp [check3, hR]
    have a1 := apply_pure (okBd_right hR) (p := a) (by omega)
    have a2 := apply_pure (okBd_right hR) (p := b) (by omega)
    rw [p1] at a1
    rw [p2] at a2
    have hsame : PA.elenchusref03_Same.f (toBL (tidyF S)) (toBL (tidyF S)) = some true := same_selfU fun x hx => by
      obtain ⟨h1, h2, -⟩ := tidyF_mem.1 hx
      rw [h2]
      have := right_size (hc _ h1.1 h1.2)
      omega
    have hl0 := usolves_l0 hS hc (x := (endT (app S a)).1) (e := (endT (app S a)).2) (endT_size9 _) (tidyF S).length 0 (by omega)
    have hj1 : Ev (fun k => PA.elenchuslaw04_UnifySolves.j1 k (toBL (tidyF S)) (endT (app S a)).2 false (endT (app S a)).1.h (toSL (endT (app S a)).1.args) (endT (app S a)).1.h (toSL (endT (app S a)).1.args)) true := hl0.step fun k => by rw [PA.elenchuslaw04_UnifySolves.j1, if_neg (by simp)]; rfl
    have hj0 : Ev (fun k => PA.elenchuslaw04_UnifySolves.j0 k (toBL (tidyF S)) false a.h (toSL a.args) b.h (toSL b.args)) true := by
      refine hj1.step fun k => ?_
      rw [PA.elenchuslaw04_UnifySolves.j0, if_neg (by simp)]
      simp only [a1, a2, hthen, hck, Option.bind_some, if_true, hsame, Bool.not_true]
    exact hj0.congr fun k => by rw [if_pos rfl]; rfl
theorem usolves_calls (a b : Tm) (h1 h2 : Int) (s1 s2 : Value) (w : World) (ha : IsTm (fun _ => False) w h1 s1 a) (hb : IsTm (fun _ => False) w h2 s2 b) :
    Calls Try.prog 24 #[.agg #[.int .i64 h1, s1], .agg #[.int .i64 h2, s2]] w fun e w' => e = .returned (.bool true) ∧ Below w.heap.size w w' := by
  obtain ⟨rfl, a1, c1, rfl, -, -⟩ := ha.shape
  obtain ⟨rfl, a2, c2, rfl, -, -⟩ := hb.shape
  have k1 := v_any ha.2
  have k2 := v_any hb.2
  have e1 : a.args.length = (toSL a.args).length := (toSL_length _).symm
  have e2 : b.args.length = (toSL b.args).length := (toSL_length _).symm
  rw [e1] at k1 ⊢
  rw [e2] at k2 ⊢
  obtain ⟨k0, hk⟩ := usolves_pure a b
  exact PA.elenchuslaw04_UnifySolves.calls k0 a.h _ a1 c1 (toSL a.args) b.h _ a2 c2 (toSL b.args) true w k1 k2 (hk k0 (Nat.le_refl _))
end Go.Proofs.Ythplndalbfcbbaa
