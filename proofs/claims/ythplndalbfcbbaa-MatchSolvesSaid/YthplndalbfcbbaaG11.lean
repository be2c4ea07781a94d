/- The binds of what is told of each variable; what a match of a put term is: plain Lean. -/
import Derived.Test.YthplndalbfcbbaaG9
set_option linter.unusedSimpArgs false
set_option linter.unusedVariables false
namespace Go.Proofs.Ythplndalbfcbbaa
open Go.RowKit

def tidyF (g : Sub) : List Bd := ((upto 256).filter fun v => (g v).h != -1 - v).map fun v => ⟨v, g v⟩
theorem tidyF_mem {g : Sub} {b : Bd} : b ∈ tidyF g ↔ (0 ≤ b.v ∧ b.v ≤ 255) ∧ b.t = g b.v ∧ (g b.v).h ≠ -1 - b.v := by
  simp only [tidyF, List.mem_map, List.mem_filter, mem_upto, bne_iff_ne, ne_eq]
  constructor
  · rintro ⟨v, ⟨⟨h0, h1⟩, h2⟩, rfl⟩; exact ⟨⟨h0, by show v ≤ 255; omega⟩, rfl, h2⟩
  · rintro ⟨⟨h0, h1⟩, h2, h3⟩
    exact ⟨b.v, ⟨⟨h0, by omega⟩, h3⟩, by cases b; simp only at h2; rw [h2]⟩
theorem tidyF_of {g : Sub} {v : Int} (h0 : 0 ≤ v) (h1 : v ≤ 255) (hg : (g v).good = true) : ofBs v (tidyF g) = g v := by
  rw [tidyF, ofBs_map]
  by_cases hm : (g v).h = -1 - v
  · rw [if_neg (by simp [hm])]
    have := good_is_var hg (by omega)
    rw [this, varT, hm]; congr 1; omega
  · rw [if_pos (by simp only [List.mem_filter, mem_upto, bne_iff_ne, ne_eq]; exact ⟨⟨h0, by omega⟩, hm⟩)]
theorem tidyF_out {g : Sub} {v : Int} (h : v < 0 ∨ 255 < v) : ofBs v (tidyF g) = varT v := by
  rw [tidyF, ofBs_map, if_neg (by simp only [List.mem_filter, mem_upto]; omega)]
  rfl
theorem tidyF_right {g : Sub} (h : ∀ v, 0 ≤ v → v ≤ 255 → (g v).h ≠ -1 - v → rightB (g v) = true) : rightBs (tidyF g) = true := by
  unfold rightBs tidyF
  refine okBs_map g _ _ ?_ fun v hv => ?_
  · rw [List.pairwise_cons]
    refine ⟨fun v hv => ?_, (upto_sorted 256).filter _⟩
    simp only [List.mem_filter, mem_upto] at hv
    omega
  · simp only [List.mem_filter, mem_upto, bne_iff_ne, ne_eq] at hv
    exact ⟨by omega, h v hv.1.1 (by omega) hv.2, hv.2⟩
theorem tidyF_congr {g g' : Sub} (h : ∀ v, 0 ≤ v → v ≤ 255 → g v = g' v) : tidyF g = tidyF g' := by
  unfold tidyF
  have : ∀ vs : List Int, (∀ v, v ∈ vs → g v = g' v) → (vs.filter fun v => (g v).h != -1 - v).map (fun v => (⟨v, g v⟩ : Bd)) = (vs.filter fun v => (g' v).h != -1 - v).map fun v => ⟨v, g' v⟩ := by
    intro vs
    induction vs with
    | nil => intro _; rfl
    | cons v vs ih =>
      intro hv
      have h1 := hv v (by simp)
      have h2 := ih fun x hx => hv x (by simp [hx])
      simp only [List.filter_cons, h1]
      split
      · simp only [List.map_cons, h1, h2]
      · exact h2
  exact this _ fun v hv => by rw [mem_upto] at hv; exact h v hv.1 (by omega)
theorem tidyF_length (g : Sub) : (tidyF g).length ≤ 256 := by
  rw [tidyF, List.length_map]
  have := List.length_filter_le (fun v => (g v).h != -1 - v) (upto 256)
  have h2 : (upto 256).length = 256 := by simp [upto]
  omega
theorem tidyT_F (f : Env) : tidyT f = tidyF (fun v => (f v).getD (varT v)) := by
  rw [tidyT_eq, tidyF]
  generalize upto 256 = vs
  induction vs with
  | nil => rfl
  | cons v vs ih =>
    rw [List.filterMap_cons, ih]
    cases hf : f v with
    | none => simp [bindOf, hf, varT, Tm.h]
    | some t =>
      by_cases hm : t.h = -1 - v
      · simp [bindOf, hf, hm]
      · simp [bindOf, hf, hm]
theorem okBs_mem : ∀ {bs : List Bd} {x : Int}, okBs x bs = true → ∀ b, b ∈ bs → x < b.v ∧ b.v ≤ 255 ∧ rightB b.t = true ∧ b.t.h ≠ -1 - b.v
  | [], x, _, b, hb => by simp at hb
  | c :: bs, x, h, b, hb => by
    simp only [okBs, Bool.and_eq_true, decide_eq_true_eq, bne_iff_ne, ne_eq] at h
    rcases List.mem_cons.1 hb with rfl | hb
    · exact ⟨h.1.1.1.1, h.1.1.1.2, h.1.1.2, h.1.2⟩
    · have := okBs_mem h.2 b hb
      exact ⟨by omega, this.2⟩
theorem ofBs_cases (v : Int) : ∀ bs : List Bd, (∃ b, b ∈ bs ∧ b.v = v ∧ ofBs v bs = b.t) ∨ ofBs v bs = varT v
  | [] => .inr rfl
  | c :: bs => by
    by_cases h : c.v = v
    · exact .inl ⟨c, by simp, h, by simp [ofBs, h]⟩
    · rcases ofBs_cases v bs with ⟨b, hb, h1, h2⟩ | h2
      · exact .inl ⟨b, by simp [hb], h1, by simp [ofBs, h, h2]⟩
      · exact .inr (by simp [ofBs, h, h2])
theorem rightB_var {v : Int} (h0 : 0 ≤ v) (h1 : v ≤ 255) : rightB (varT v) = true := by
  have := chk_var h0 h1
  unfold rightB varT
  rw [this]; rfl
theorem ofBs_rightB {bs : List Bd} (h : rightBs bs = true) {v : Int} (h0 : 0 ≤ v) (h1 : v ≤ 255) : rightB (ofBs v bs) = true := by
  rcases ofBs_cases v bs with ⟨b, hb, _, h2⟩ | h2
  · rw [h2]; exact (okBs_mem h b hb).2.2.1
  · rw [h2]; exact rightB_var h0 h1
theorem rightB_chk {t : Tm} : rightB t = true ↔ chk t = 0 := by simp [rightB]

/-! ### Matching what is put -/
mutual
theorem makes_occ {σ : Env} : ∀ (p t : Tm), p.good = true → Makes σ p t → ∀ v, occ v p → ∃ x, σ v = some x
  | .node h l, t, hg, hm, v, hv => by
    by_cases hn : h < 0
    · have := good_var hg hn
      subst this
      rw [makes_var (p := .node h []) hn] at hm
      simp only [occ, Tm.heads, Tm.headsL, List.mem_singleton] at hv
      rw [show v = -1 - h by omega]
      exact ⟨_, hm⟩
    · rw [makes_fun (p := .node h l) hn] at hm
      obtain ⟨c, hc, hv⟩ := (occ_args (t := .node h l) hn).1 hv
      exact makesL_occ l t.args (goodsOf hg) hm.2 c hc v hv
theorem makesL_occ {σ : Env} : ∀ (ps ts : List Tm), Tm.goods ps = true → MakesL σ ps ts → ∀ c, c ∈ ps → ∀ v, occ v c → ∃ x, σ v = some x
  | [], ts, _, _, c, hc, _, _ => by simp at hc
  | _ :: _, [], _, hm, _, _, _, _ => by simp only [MakesL] at hm
  | p :: ps, t :: ts, hg, hm, c, hc, v, hv => by
    simp only [Tm.goods, Bool.and_eq_true] at hg
    simp only [MakesL] at hm
    rcases List.mem_cons.1 hc with e | hc
    · exact makes_occ p t hg.1 hm.1 v (e ▸ hv)
    · exact makesL_occ ps ts hg.2 hm.2 c hc v hv
end
mutual
theorem makes_app {σ : Env} {S : Sub} : ∀ p : Tm, p.good = true → (∀ v, occ v p → σ v = some (S v)) → Makes σ p (app S p)
  | .node h l, hg, hs => by
    by_cases hn : h < 0
    · rw [makes_var (p := .node h l) hn, app_neg (t := .node h l) hn]
      exact hs _ ⟨by show 0 ≤ -1 - h; omega, by rw [show -1 - (-1 - (Tm.node h l).h) = h by simp only [Tm.h]; omega]; simp [Tm.heads]⟩
    · rw [makes_fun (p := .node h l) hn, app_pos (t := .node h l) hn]
      exact ⟨rfl, makesL_app l (goodsOf hg) fun c hc v hv => hs v ((occ_args (t := .node h l) hn).2 ⟨c, hc, hv⟩)⟩
theorem makesL_app {σ : Env} {S : Sub} : ∀ ps : List Tm, Tm.goods ps = true → (∀ c, c ∈ ps → ∀ v, occ v c → σ v = some (S v)) → MakesL σ ps (appL S ps)
  | [], _, _ => by simp [MakesL, appL]
  | p :: ps, hg, hs => by
    simp only [Tm.goods, Bool.and_eq_true] at hg
    simp only [appL, MakesL]
    exact ⟨makes_app p hg.1 (hs p (by simp)), makesL_app ps hg.2 fun c hc => hs c (by simp [hc])⟩
end
theorem applied_ok {u : List Bd} {p : Tm} (h : (applyT u p).2 = 0) : rightBs u = true ∧ rightB p = true ∧ chk (putT u p) = 0 ∧ applyT u p = (putT u p, 0) := by
  unfold applyT at h ⊢
  split at h
  · rename_i hc
    unfold endT at h
    split at h
    · rename_i h0
      exact ⟨hc.1, hc.2, h0, by rw [if_pos hc, endT, if_pos h0]⟩
    · rename_i h0; exact absurd h h0
  · cases h
open Classical in
theorem solves_law {p : Tm} {u : List Bd} (h : (applyT u p).2 = 0) : ∃ s, matchT [p] [(applyT u p).1] = (s, true, 0) ∧ applyT s p = ((applyT u p).1, 0) ∧ rightBs s = true ∧ (∀ v, v ∈ varsT p → ofBs v s = ofBs v u) ∧ (∀ b, b ∈ s → b.v ∈ varsT p) := by
  obtain ⟨hu, hp, hc, he⟩ := applied_ok h
  rw [he]
  have hg := chk_good hp
  have hput := app_put u p
  let S : Sub := fun v => ofBs v u
  let σ : Env := fun v => if occ v p then some (S v) else none
  have hσ : MakesL σ [p] [putT u p] := by
    rw [makesL_one, hput]
    exact makes_app p hg fun v hv => by show (if occ v p then some (S v) else none) = _; rw [if_pos hv]
  cases hgf : gatherL [p] [putT u p] noE with
  | none => exact absurd hσ (gather_none (show [p].length = [putT u p].length from rfl) hgf σ)
  | some f =>
    have hgd := gather_gathered (show [p].length = [putT u p].length from rfl) hgf
    have hw := (hgd σ).1 hσ
    have hm := makesL_one.1 hgd.makes
    have hf1 : ∀ v, occ v p → f v = some (S v) := fun v hv => by
      obtain ⟨x, hx⟩ := makes_occ p _ hg hm v hv
      have h1 := hw v x hx
      have h2 : (if occ v p then some (S v) else none) = some x := h1
      rw [if_pos hv] at h2
      rw [hx, h2]
    have hf2 : ∀ v, ¬ occ v p → f v = none := fun v hv => by
      cases hx : f v with
      | none => rfl
      | some x =>
        have h2 : (if occ v p then some (S v) else none) = some x := hw v x hx
        rw [if_neg hv] at h2; cases h2
    have hofr : ∀ v, occ v p → 0 ≤ v ∧ v ≤ 255 := fun v hv => occ_range hg hv
    have hSg : ∀ v, occ v p → (S v).good = true := fun v hv => ofBs_good hu (hofr v hv).1 (hofr v hv).2
    have hsT := tidyT_F f
    have hof : ∀ v, occ v p → ofBs v (tidyT f) = ofBs v u := fun v hv => by
      rw [hsT, tidyF_of (hofr v hv).1 (hofr v hv).2 (by simp only [hf1 v hv, Option.getD_some]; exact hSg v hv), hf1 v hv]; rfl
    have hright : rightBs (tidyT f) = true := by
      rw [hsT]
      refine tidyF_right fun v h0 h1 hne => ?_
      by_cases hv : occ v p
      · simp only [hf1 v hv, Option.getD_some]; exact ofBs_rightB hu h0 h1
      · simp only [hf2 v hv, Option.getD_none]; exact rightB_var h0 h1
    have hputs : putT (tidyT f) p = putT u p := by
      rw [app_put, app_put]; exact app_congr p hof
    refine ⟨tidyT f, ?_, ?_, hright, fun v hv => hof v (occ_iff.2 hv), fun b hb => ?_⟩
    · rw [matchT, if_pos ⟨rfl, by simpa using hp, by simpa using rightB_chk.2 hc⟩, hgf]
    · unfold applyT
      rw [if_pos ⟨hright, hp⟩, hputs, endT, if_pos hc]
    · rw [hsT, tidyF_mem] at hb
      rw [← occ_iff]
      by_cases hv : occ b.v p
      · exact hv
      · exfalso
        have h3 := hb.2.2
        rw [hf2 b.v hv] at h3
        exact h3 rfl
end Go.Proofs.Ythplndalbfcbbaa
