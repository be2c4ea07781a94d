/- What the proof of the law rests on: contracts of the functions, plain laws, and words. -/
import Derived.Test.YthplndalbfcbbaaKMatchNormsG8
import Derived.Test.YthplndalbfcbbaaKMatchNormsG4
import Derived.Test.YthplndalbfcbbaaKMatchNormsG5
import Derived.Test.YthplndalbfcbbaaKMatchNormsG7
set_option linter.unusedSimpArgs false
set_option linter.unusedVariables false
namespace Go.Proofs.Ythplndalbfcbbaa
open Go.RowKit Go.ChangeShapes Go.WideShapes Go.ChangeAt
section
variable {H : Type} {enc : TypeId × Value → H} {W : World} {sp : Nat → Bool} {held : Bool}
theorem readTerms (fuel : Nat) (s : Value) (x : DataW H × List MemPlace) (h : DataW.trod enc Try.prog W 0 sp held fuel 23 [s] = some x) : ∃ ts : List Tm, Terms (fun _ => False) W s ts := by
  obtain ⟨us, hus⟩ := read_slice Try.underlying23 cellsTerm (by omega) Tm.d h (fun m cs y _ hy => readTm m cs y hy)
  exact ⟨us, by rw [Terms, Tm.ds_eq]; exact hus⟩
end
end Go.Proofs.Ythplndalbfcbbaa
set_option linter.unusedSimpArgs false
set_option linter.unusedVariables false
namespace Go.Proofs.Ythplndalbfcbbaa
open Go.RowKit
def findB (v : Int) : List Bd → Option Tm
  | [] => none
  | b :: bs => if b.v = v then some b.t else findB v bs
def envB (bs : List Bd) : Env := fun v => findB v bs
theorem findB_drop (l : List Bd) (k : Nat) (h : k < l.length) (v : Int) : findB v (l.drop k) = if l[k].v = v then some l[k].t else findB v (l.drop (k + 1)) := by
  rw [List.drop_eq_getElem_cons h]; simp [findB]
theorem findB_snoc (v w : Int) (t : Tm) : ∀ bs : List Bd, findB w (bs ++ [⟨v, t⟩]) = match findB w bs with
    | some u => some u
    | none => if v = w then some t else none
  | [] => by simp [findB]
  | b :: bs => by
    simp only [List.cons_append, findB]
    split
    · rfl
    · exact findB_snoc v w t bs
theorem envB_snoc {bs : List Bd} {v : Int} {t : Tm} (h : findB v bs = none) : envB (bs ++ [⟨v, t⟩]) = upd (envB bs) v t := by
  funext w
  simp only [envB, upd, findB_snoc]
  by_cases e : w = v
  · subst e; simp [h]
  · rw [if_neg e]
    cases findB w bs with
    | some u => rfl
    | none => simp only; rw [if_neg (fun h => e h.symm)]
theorem ofBs_find (v : Int) : ∀ bs : List Bd, ofBs v bs = (findB v bs).getD (.node (-1 - v) [])
  | [] => rfl
  | b :: bs => by
    simp only [ofBs, findB]
    split
    · rfl
    · exact ofBs_find v bs
mutual
/-- As the document gathers. -/
def gathT : Tm → Tm → List Bd → Option (List Bd)
  | .node h l, t, s => if h < 0 then (match findB (-1 - h) s with
      | some u => if sameB u t = true then some s else none
      | none => some (s ++ [⟨-1 - h, t⟩])) else if h = t.h ∧ l.length = t.args.length then gathL l t.args s else none
def gathL : List Tm → List Tm → List Bd → Option (List Bd)
  | [], _, s => some s
  | _ :: _, [], _ => none
  | p :: ps, t :: ts, s => match gathT p t s with
    | some g => gathL ps ts g
    | none => none
end
mutual
theorem gathT_env : ∀ (p t : Tm) (s : List Bd), (gathT p t s).map envB = gatherT p t (envB s)
  | .node h l, t, s => by
    rw [gathT, gatherT]
    by_cases hn : h < 0
    · rw [if_pos hn, if_pos hn]
      show Option.map envB _ = match findB (-1 - h) s with | some u => _ | none => _
      cases hf : findB (-1 - h) s with
      | some u =>
        simp only
        split <;> simp
      | none => simp [envB_snoc hf]
    · rw [if_neg hn, if_neg hn]
      split
      · exact gathL_env l t.args s
      · rfl
theorem gathL_env : ∀ (ps ts : List Tm) (s : List Bd), (gathL ps ts s).map envB = gatherL ps ts (envB s)
  | [], ts, s => by simp [gathL, gatherL]
  | _ :: _, [], s => by simp [gathL, gatherL]
  | p :: ps, t :: ts, s => by
    have h := gathT_env p t s
    rw [gathL, gatherL]
    cases hg : gathT p t s with
    | none => rw [hg] at h; simp only [Option.map_none] at h; rw [← h]; rfl
    | some g => rw [hg] at h; simp only [Option.map_some] at h; rw [← h]; exact gathL_env ps ts g
end
mutual
theorem gathT_length : ∀ (p t : Tm) (s g : List Bd), gathT p t s = some g → g.length ≤ s.length + p.size
  | .node h l, t, s, g, hg => by
    rw [gathT] at hg
    simp only [Tm.size]
    split at hg
    · split at hg
      · split at hg
        · cases hg; omega
        · cases hg
      · cases hg; simp
    · split at hg
      · have := gathL_length l t.args s g hg; omega
      · cases hg
theorem gathL_length : ∀ (ps ts : List Tm) (s g : List Bd), gathL ps ts s = some g → g.length ≤ s.length + Tm.sizes ps
  | [], ts, s, g, hg => by rw [gathL] at hg; cases hg; omega
  | _ :: _, [], s, g, hg => by rw [gathL] at hg; cases hg
  | p :: ps, t :: ts, s, g, hg => by
    rw [gathL] at hg
    simp only [Tm.sizes]
    cases h1 : gathT p t s with
    | none => rw [h1] at hg; cases hg
    | some g1 =>
      rw [h1] at hg
      have := gathT_length p t s g1 h1
      have := gathL_length ps ts g1 g hg
      omega
end
theorem gathL_take (ps ts : List Tm) (k : Nat) (h : k < ps.length) (h2 : k < ts.length) (s : List Bd) : gathL (ps.drop k) (ts.drop k) s = match gathT ps[k] ts[k] s with
    | some g => gathL (ps.drop (k + 1)) (ts.drop (k + 1)) g
    | none => none := by
  rw [List.drop_eq_getElem_cons h, List.drop_eq_getElem_cons h2, gathL]
def tidyL (s : List Bd) (vs : List Int) : List Bd := (vs.filter fun v => (ofBs v s).h != -1 - v).map fun v => ⟨v, ofBs v s⟩
theorem tidyL_snoc (s : List Bd) (k : Nat) : tidyL s (upto (k + 1)) = tidyL s (upto k) ++ if (ofBs k s).h ≠ -1 - (k : Int) then [⟨(k : Int), ofBs k s⟩] else [] := by
  rw [upto_succ, tidyL, List.filter_append, List.map_append, ← tidyL]
  congr 1
  by_cases hm : (ofBs k s).h = -1 - (k : Int)
  · rw [if_neg (by simpa using hm)]; simp [hm]
  · rw [if_pos hm]; simp [hm]
theorem tidyL_length (s : List Bd) (vs : List Int) : (tidyL s vs).length ≤ vs.length := by
  rw [tidyL, List.length_map]; exact List.length_filter_le _ _
theorem tidyL_env (s : List Bd) : tidyL s (upto 256) = tidyT (envB s) := by
  rw [tidyT_eq]
  generalize upto 256 = vs
  induction vs with
  | nil => rfl
  | cons v vs ih =>
    have hb : bindOf (envB s) v = if (ofBs v s).h ≠ -1 - v then some ⟨v, ofBs v s⟩ else none := by
      rw [ofBs_find]
      simp only [bindOf, envB]
      cases findB v s with
      | none => simp [Tm.h]
      | some t => simp
    rw [List.filterMap_cons, hb, ← ih]
    by_cases hm : (ofBs v s).h = -1 - v
    · rw [if_neg (by simpa using hm)]
      simp [tidyL, hm]
    · rw [if_pos hm]
      simp [tidyL, hm]
theorem matchT_doc (ps ts : List Tm) : matchT ps ts = (if ps.all rightB = true ∧ ts.all rightB = true ∧ ps.length = ts.length then (match gathL ps ts [] with
    | some s => (tidyL s (upto 256), true, 0)
    | none => ([], false, 0)) else ([], false, 1) : List Bd × Bool × Int) := by
  have he : envB [] = noE := rfl
  have h := gathL_env ps ts []
  rw [he] at h
  rw [matchT, ← h]
  by_cases hc : ps.length = ts.length ∧ ps.all rightB = true ∧ ts.all rightB = true
  · rw [if_pos hc, if_pos ⟨hc.2.1, hc.2.2, hc.1⟩]
    cases gathL ps ts [] with
    | none => rfl
    | some s => simp only [Option.map_some, tidyL_env]
  · rw [if_neg hc, if_neg (fun h => hc ⟨h.2.2, h.1, h.2.1⟩)]
end Go.Proofs.Ythplndalbfcbbaa
set_option linter.unusedSimpArgs false
set_option linter.unusedVariables false
namespace Go.Proofs.Ythplndalbfcbbaa
open Go.RowKit
abbrev Sub := Int → Tm
def varT (v : Int) : Tm := .node (-1 - v) []
mutual
def app (S : Sub) : Tm → Tm
  | .node h l => if h < 0 then S (-1 - h) else .node h (appL S l)
def appL (S : Sub) : List Tm → List Tm
  | [] => []
  | t :: ts => app S t :: appL S ts
end
theorem appL_map (S : Sub) (l : List Tm) : appL S l = l.map (app S) := by induction l <;> simp_all [appL]
theorem appL_length (S : Sub) (l : List Tm) : (appL S l).length = l.length := by rw [appL_map]; simp
theorem app_neg {S : Sub} {t : Tm} (h : t.h < 0) : app S t = S (-1 - t.h) := by cases t; simp only [Tm.h] at h ⊢; simp [app, h]
theorem app_pos {S : Sub} {t : Tm} (h : ¬ t.h < 0) : app S t = .node t.h (appL S t.args) := by cases t; simp only [Tm.h, Tm.args] at h ⊢; rw [app, if_neg h]
theorem app_var (S : Sub) {v : Int} (h : 0 ≤ v) : app S (varT v) = S v := by
  rw [app_neg (by simp only [varT, Tm.h]; omega)]; congr 1; simp only [varT, Tm.h]; omega
mutual
theorem app_put (bs : List Bd) : ∀ t : Tm, putT bs t = app (fun v => ofBs v bs) t
  | .node h l => by
    simp only [putT, app]
    split
    · rfl
    · rw [appL_put bs l]
theorem appL_put (bs : List Bd) : ∀ l : List Tm, putL bs l = appL (fun v => ofBs v bs) l
  | [] => rfl
  | t :: ts => by simp only [putL, appL, app_put bs t, appL_put bs ts]
end
def occ (v : Int) (t : Tm) : Prop := 0 ≤ v ∧ (-1 - v) ∈ t.heads
theorem mem_headsL {l : List Tm} {h : Int} : h ∈ Tm.headsL l ↔ ∃ t, t ∈ l ∧ h ∈ t.heads := Tm.headsL_mem l h
theorem occ_iff {v : Int} {t : Tm} : occ v t ↔ v ∈ varsT t := by
  rw [mem_varsT]
  constructor
  · rintro ⟨h0, h⟩; exact ⟨_, h, by omega, by omega⟩
  · rintro ⟨x, h, h0, rfl⟩; exact ⟨by omega, by rw [show -1 - (-1 - x) = x by omega]; exact h⟩
theorem occ_var {v u : Int} (hu : 0 ≤ u) : occ v (varT u) ↔ v = u := by
  simp only [occ, varT, Tm.heads, Tm.headsL, List.mem_singleton]
  constructor
  · rintro ⟨_, h⟩; omega
  · rintro rfl; exact ⟨hu, rfl⟩
theorem occ_args {v : Int} {t : Tm} (h : ¬ t.h < 0) : occ v t ↔ ∃ c, c ∈ t.args ∧ occ v c := by
  cases t with
  | node x l =>
    simp only [Tm.h, Tm.args] at h ⊢
    simp only [occ, Tm.heads, List.mem_cons, mem_headsL]
    constructor
    · rintro ⟨h0, h1 | ⟨c, hc, h1⟩⟩
      · omega
      · exact ⟨c, hc, h0, h1⟩
    · rintro ⟨c, hc, h0, h1⟩; exact ⟨h0, .inr ⟨c, hc, h1⟩⟩
mutual
theorem app_congr {S S' : Sub} : ∀ t : Tm, (∀ v, occ v t → S v = S' v) → app S t = app S' t
  | .node h l, hs => by
    simp only [app]
    split
    · rename_i hn
      exact hs _ ⟨by omega, by simp only [Tm.heads]; rw [show -1 - (-1 - h) = h by omega]; exact List.mem_cons_self⟩
    · rename_i hn
      rw [appL_congr l fun c hc v hv => hs v ((occ_args (t := .node h l) hn).2 ⟨c, hc, hv⟩)]
theorem appL_congr {S S' : Sub} : ∀ l : List Tm, (∀ c, c ∈ l → ∀ v, occ v c → S v = S' v) → appL S l = appL S' l
  | [], _ => rfl
  | t :: ts, hs => by
    simp only [appL]
    rw [app_congr t (hs t (by simp)), appL_congr ts fun c hc => hs c (by simp [hc])]
end
mutual
theorem app_comp (τ S : Sub) : ∀ t : Tm, app τ (app S t) = app (fun v => app τ (S v)) t
  | .node h l => by
    simp only [app]
    split
    · rfl
    · rename_i hn
      rw [app_pos (t := .node h (appL S l)) hn]
      simp only [Tm.h, Tm.args, appL_comp τ S l]
theorem appL_comp (τ S : Sub) : ∀ l : List Tm, appL τ (appL S l) = appL (fun v => app τ (S v)) l
  | [] => rfl
  | t :: ts => by simp only [appL, app_comp τ S t, appL_comp τ S ts]
end
mutual
theorem app_id : ∀ t : Tm, t.good = true → app varT t = t
  | .node h l, hg => by
    simp only [app]
    split
    · rename_i hn
      rw [good_var hg hn]
      simp only [varT]; congr 1; omega
    · simp only [Tm.good, Bool.and_eq_true] at hg
      rw [appL_id l hg.2]
theorem appL_id : ∀ l : List Tm, Tm.goods l = true → appL varT l = l
  | [], _ => rfl
  | t :: ts, hg => by
    simp only [Tm.goods, Bool.and_eq_true] at hg
    simp only [appL, app_id t hg.1, appL_id ts hg.2]
end
theorem goods_mem {l : List Tm} (h : Tm.goods l = true) : ∀ t, t ∈ l → t.good = true := by
  induction l with
  | nil => simp
  | cons t ts ih =>
    simp only [Tm.goods, Bool.and_eq_true] at h
    intro u hu
    rcases List.mem_cons.1 hu with rfl | hu
    · exact h.1
    · exact ih h.2 u hu
theorem goodsOf {t : Tm} (h : t.good = true) : Tm.goods t.args = true := by rw [Tm.good_eq, Bool.and_eq_true] at h; exact h.2
theorem occ_range {t : Tm} (hg : t.good = true) {v : Int} (h : occ v t) : 0 ≤ v ∧ v ≤ 255 := by
  have := good_heads t hg _ h.2
  exact ⟨h.1, by omega⟩
theorem good_varT {v : Int} (h0 : 0 ≤ v) (h1 : v ≤ 255) : (varT v).good = true := node_var_good h0 h1
theorem good_is_var {t : Tm} (hg : t.good = true) (h : t.h < 0) : t = varT (-1 - t.h) := by
  cases t with
  | node x l =>
    simp only [Tm.h] at h ⊢
    rw [good_var hg h]
    simp only [varT]; congr 1; omega
mutual
theorem app_good {S : Sub} : ∀ t : Tm, t.good = true → (∀ v, occ v t → (S v).good = true) → (app S t).good = true
  | .node h l, hg, hs => by
    simp only [app]
    split
    · rename_i hn
      exact hs _ ⟨by omega, by simp only [Tm.heads]; rw [show -1 - (-1 - h) = h by omega]; exact List.mem_cons_self⟩
    · rename_i hn
      have hk := good_ok hg
      simp only [Tm.good, Bool.and_eq_true] at hg ⊢
      refine ⟨?_, appL_good l hg.2 fun c hc v hv => hs v ((occ_args (t := .node h l) hn).2 ⟨c, hc, hv⟩)⟩
      cases hb : okP (.node h (appL S l)) with
      | true => rfl
      | false =>
        rw [okP_iff] at hb
        simp only [Tm.h, Tm.args, appL_length] at hb
        exact absurd hb hk
theorem appL_good {S : Sub} : ∀ l : List Tm, Tm.goods l = true → (∀ c, c ∈ l → ∀ v, occ v c → (S v).good = true) → Tm.goods (appL S l) = true
  | [], _, _ => rfl
  | t :: ts, hg, hs => by
    simp only [Tm.goods, Bool.and_eq_true] at hg
    simp only [appL, Tm.goods, Bool.and_eq_true]
    exact ⟨app_good t hg.1 (hs t (by simp)), appL_good ts hg.2 fun c hc => hs c (by simp [hc])⟩
end
mutual
theorem occ_app {S : Sub} {u : Int} : ∀ t : Tm, t.good = true → (occ u (app S t) ↔ ∃ v, occ v t ∧ occ u (S v))
  | .node h l, hg => by
    simp only [app]
    split
    · rename_i hn
      have := good_var hg hn
      subst this
      constructor
      · intro hu
        exact ⟨-1 - h, ⟨by omega, by simp only [Tm.heads]; rw [show -1 - (-1 - h) = h by omega]; exact List.mem_cons_self⟩, hu⟩
      · rintro ⟨v, ⟨h0, hv⟩, hu⟩
        simp only [Tm.heads, Tm.headsL, List.mem_singleton] at hv
        rw [show -1 - h = v by omega]; exact hu
    · rename_i hn
      rw [occ_args (t := .node h (appL S l)) hn]
      simp only [Tm.args]
      rw [occ_appL l (goodsOf hg)]
      constructor
      · rintro ⟨c, hc, v, hv, hu⟩; exact ⟨v, (occ_args (t := .node h l) hn).2 ⟨c, hc, hv⟩, hu⟩
      · rintro ⟨v, hv, hu⟩
        obtain ⟨c, hc, hv⟩ := (occ_args (t := .node h l) hn).1 hv
        exact ⟨c, hc, v, hv, hu⟩
theorem occ_appL {S : Sub} {u : Int} : ∀ l : List Tm, Tm.goods l = true → ((∃ c, c ∈ appL S l ∧ occ u c) ↔ ∃ c, c ∈ l ∧ ∃ v, occ v c ∧ occ u (S v))
  | [], _ => by simp [appL]
  | t :: ts, hg => by
    simp only [Tm.goods, Bool.and_eq_true] at hg
    simp only [appL, List.mem_cons, exists_eq_or_imp, occ_app t hg.1, occ_appL ts hg.2]
end
mutual
theorem app_fix {S : Sub} : ∀ t : Tm, t.good = true → app S t = t → ∀ u, occ u t → S u = varT u
  | .node h l, hg, he, u, hu => by
    simp only [app] at he
    split at he
    · rename_i hn
      have := good_var hg hn
      subst this
      simp only [occ, Tm.heads, Tm.headsL, List.mem_singleton] at hu
      have e : u = -1 - h := by omega
      rw [e, he, varT]; congr 1; omega
    · rename_i hn
      simp only [Tm.node.injEq, true_and] at he
      obtain ⟨c, hc, hv⟩ := (occ_args (t := .node h l) hn).1 hu
      exact appL_fix l (goodsOf hg) he c hc u hv
theorem appL_fix {S : Sub} : ∀ l : List Tm, Tm.goods l = true → appL S l = l → ∀ c, c ∈ l → ∀ u, occ u c → S u = varT u
  | [], _, _, c, hc, _, _ => by simp at hc
  | t :: ts, hg, he, c, hc, u, hu => by
    simp only [Tm.goods, Bool.and_eq_true] at hg
    simp only [appL, List.cons.injEq] at he
    rcases List.mem_cons.1 hc with e | hc
    · exact app_fix t hg.1 he.1 u (e ▸ hu)
    · exact appL_fix ts hg.2 he.2 c hc u hu
end
mutual
theorem occ_size {S : Sub} {u : Int} : ∀ t : Tm, t.good = true → occ u t → (S u).size ≤ (app S t).size ∧ (¬ t.h < 0 → (S u).size < (app S t).size)
  | .node h l, hg, hu => by
    simp only [app]
    split
    · rename_i hn
      have := good_var hg hn
      subst this
      simp only [occ, Tm.heads, Tm.headsL, List.mem_singleton] at hu
      have e : u = -1 - h := by omega
      rw [e]
      exact ⟨Nat.le_refl _, fun hc => absurd hn hc⟩
    · rename_i hn
      obtain ⟨c, hc, hv⟩ := (occ_args (t := .node h l) hn).1 hu
      have := occ_sizes (S := S) l (goodsOf hg) c hc hv
      simp only [Tm.size]
      exact ⟨by omega, fun _ => by omega⟩
theorem occ_sizes {S : Sub} {u : Int} : ∀ l : List Tm, Tm.goods l = true → ∀ c, c ∈ l → occ u c → (S u).size ≤ Tm.sizes (appL S l)
  | [], _, c, hc, _ => by simp at hc
  | t :: ts, hg, c, hc, hu => by
    simp only [Tm.goods, Bool.and_eq_true] at hg
    simp only [appL, Tm.sizes]
    rcases List.mem_cons.1 hc with e | hc
    · have := (occ_size (S := S) t hg.1 (e ▸ hu)).1; omega
    · have := occ_sizes (S := S) ts hg.2 c hc hu; omega
end
abbrev Pairs := List (Tm × Tm)
def Sol (τ : Sub) (L : Pairs) : Prop := ∀ p, p ∈ L → app τ p.1 = app τ p.2
def Resp (τ : Sub) (f : Env) : Prop := ∀ v t, f v = some t → τ v = app τ t
structure Solved (f : Env) (S : Sub) : Prop where
  fix : ∀ v t, f v = some t → S v = app S t
  free : ∀ v, f v = none → S v = varT v
  low : ∀ v t, f v = some t → t.h < 0 → -1 - t.h < v
  rng : ∀ v t, f v = some t → 0 ≤ v ∧ v ≤ 255 ∧ t.good = true
  idem : ∀ v u, 0 ≤ v → v ≤ 255 → occ u (S v) → f u = none
  good : ∀ v, 0 ≤ v → v ≤ 255 → (S v).good = true
def rankU (S : Sub) (v : Int) : Nat := (S v).size * 256 + v.toNat
theorem rank_step {f : Env} {S : Sub} (h : Solved f S) {v u : Int} {t : Tm} (hf : f v = some t) (hu : occ u t) : rankU S u < rankU S v := by
  obtain ⟨h0, h1, hg⟩ := h.rng v t hf
  have hr := occ_range hg hu
  have hs := occ_size (S := S) t hg hu
  rw [← h.fix v t hf] at hs
  unfold rankU
  by_cases hn : t.h < 0
  · have := h.low v t hf hn
    have e := good_is_var hg hn
    rw [e, occ_var (by omega)] at hu
    have := hs.1
    omega
  · have := hs.2 hn
    omega
theorem rank_ind {f : Env} {S : Sub} (h : Solved f S) {Q : Int → Prop} (step : ∀ v, (∀ t, f v = some t → ∀ u, occ u t → Q u) → Q v) : ∀ v, Q v := by
  suffices H : ∀ n v, rankU S v < n → Q v from fun v => H _ v (Nat.lt_succ_self _)
  intro n
  induction n with
  | zero => intro v hv; omega
  | succ n ih =>
    intro v hv
    exact step v fun t hf u hu => ih u (by have := rank_step h hf hu; omega)
theorem resp_iff {f : Env} {S : Sub} (h : Solved f S) (τ : Sub) : Resp τ f ↔ ∀ v, 0 ≤ v → τ v = app τ (S v) := by
  constructor
  · intro hr
    refine rank_ind h fun v ih h0 => ?_
    cases hf : f v with
    | none => rw [h.free v hf, app_var τ h0]
    | some t =>
      rw [h.fix v t hf, app_comp, hr v t hf]
      exact app_congr t fun u hu => ih t hf u hu hu.1
  · intro hr v t hf
    have := h.rng v t hf
    rw [hr v this.1, h.fix v t hf, app_comp]
    exact (app_congr t fun u hu => hr u hu.1).symm
def UState (L0 : Pairs) (f : Env) (L : Pairs) : Prop := ∀ τ, Sol τ L0 ↔ Sol τ L ∧ Resp τ f
theorem sol_cons {τ : Sub} {p : Tm × Tm} {L : Pairs} : Sol τ (p :: L) ↔ app τ p.1 = app τ p.2 ∧ Sol τ L := by simp [Sol]
theorem solved_idem {f : Env} {S : Sub} (h : Solved f S) {v : Int} (h0 : 0 ≤ v) (h1 : v ≤ 255) : app S (S v) = S v := by
  conv => rhs; rw [← app_id (S v) (h.good v h0 h1)]
  exact app_congr _ fun u hu => h.free u (h.idem v u h0 h1 hu)
theorem solved_out {f : Env} {S : Sub} (h : Solved f S) {v : Int} (hv : v < 0 ∨ 255 < v) : S v = varT v := by
  refine h.free v ?_
  cases hf : f v with
  | none => rfl
  | some t => have := h.rng v t hf; omega
inductive Leads (f : Env) : Tm → Tm → Prop
  | refl (t) : Leads f t t
  | step {t u r} : t.h < 0 → f (-1 - t.h) = some u → Leads f u r → Leads f t r
theorem leads_app {f : Env} {τ : Sub} (h : Resp τ f) {a b : Tm} (hl : Leads f a b) : app τ a = app τ b := by
  induction hl with
  | refl t => rfl
  | step h1 h2 _ ih => rw [app_neg h1, h _ _ h2, ih]
theorem ustate_leads {L0 L : Pairs} {f : Env} {a b x y : Tm} (h : UState L0 f ((a, b) :: L)) (hx : Leads f a x) (hy : Leads f b y) : UState L0 f ((x, y) :: L) := by
  intro τ
  rw [h τ, sol_cons, sol_cons]
  constructor
  · rintro ⟨⟨h1, h2⟩, h3⟩; exact ⟨⟨by rw [← leads_app h3 hx, ← leads_app h3 hy]; exact h1, h2⟩, h3⟩
  · rintro ⟨⟨h1, h2⟩, h3⟩; exact ⟨⟨by show app τ a = app τ b; rw [leads_app h3 hx, leads_app h3 hy]; exact h1, h2⟩, h3⟩
theorem ustate_skip {L0 L : Pairs} {f : Env} {S : Sub} {x y : Tm} (hS : Solved f S) (h : UState L0 f ((x, y) :: L)) (he : app S x = app S y) : UState L0 f L := by
  intro τ
  rw [h τ, sol_cons]
  refine ⟨fun h => ⟨h.1.2, h.2⟩, fun h => ⟨⟨?_, h.1⟩, h.2⟩⟩
  have hr := (resp_iff hS τ).1 h.2
  have hh : ∀ t : Tm, app τ t = app τ (app S t) := fun t => by rw [app_comp]; exact app_congr t fun u hu => hr u hu.1
  show app τ x = app τ y
  rw [hh x, hh y, he]
def oneS (v : Int) (b : Tm) : Sub := fun w => if w = v then b else varT w
theorem solved_bind {f : Env} {S : Sub} (h : Solved f S) {v : Int} {y : Tm} (h0 : 0 ≤ v) (h1 : v ≤ 255) (hf : f v = none) (hy : y.good = true) (hlow : y.h < 0 → -1 - y.h < v) (hocc : ¬ occ v (app S y)) :
    Solved (upd f v y) (fun w => app (oneS v (app S y)) (S w)) := by
  have hSg : ∀ u, occ u y → (S u).good = true := fun u hu => by have := occ_range hy hu; exact h.good u this.1 this.2
  have hbg : (app S y).good = true := app_good y hy hSg
  have hone : app (oneS v (app S y)) (app S y) = app S y := by
    conv => rhs; rw [← app_id (app S y) hbg]
    refine app_congr _ fun u hu => ?_
    have hne : u ≠ v := fun e => hocc (e ▸ hu)
    unfold oneS
    rw [if_neg hne]
  refine ⟨fun w t hw => ?_, fun w hw => ?_, fun w t hw hn => ?_, fun w t hw => ?_, fun w u hw0 hw1 hu => ?_, fun w hw0 hw1 => ?_⟩
  · by_cases e : w = v
    · subst e
      simp only [upd, if_true, Option.some.injEq] at hw
      subst hw
      show app _ (S w) = app _ y
      rw [h.free w hf, app_var _ h0, ← app_comp, hone]
      simp [oneS]
    · simp only [upd, if_neg e] at hw
      show app _ (S w) = app _ t
      rw [h.fix w t hw, ← app_comp]
  · by_cases e : w = v
    · subst e; simp [upd] at hw
    · simp only [upd, if_neg e] at hw
      show app _ (S w) = _
      rw [h.free w hw]
      by_cases hw0 : 0 ≤ w
      · rw [app_var _ hw0, oneS, if_neg e]
      · rw [app_pos (by simp only [varT, Tm.h]; omega)]; rfl
  · by_cases e : w = v
    · subst e
      simp only [upd, if_true, Option.some.injEq] at hw
      subst hw
      exact hlow hn
    · simp only [upd, if_neg e] at hw
      exact h.low w t hw hn
  · by_cases e : w = v
    · subst e
      simp only [upd, if_true, Option.some.injEq] at hw
      subst hw
      exact ⟨h0, h1, hy⟩
    · simp only [upd, if_neg e] at hw
      exact h.rng w t hw
  · rw [occ_app _ (h.good w hw0 hw1)] at hu
    obtain ⟨z, hz, hu⟩ := hu
    by_cases e : z = v
    · subst e
      simp only [oneS, if_true] at hu
      have hne : u ≠ z := fun e => hocc (e ▸ hu)
      simp only [upd, if_neg hne]
      obtain ⟨x, hx, hux⟩ := (occ_app y hy).1 hu
      have := occ_range hy hx
      exact h.idem x u this.1 this.2 hux
    · simp only [oneS, if_neg e] at hu
      rw [occ_var hz.1] at hu
      subst hu
      simp only [upd, if_neg e]
      exact h.idem w u hw0 hw1 hz
  · refine app_good _ (h.good w hw0 hw1) fun u hu => ?_
    unfold oneS
    split
    · exact hbg
    · have := occ_range (h.good w hw0 hw1) hu
      exact good_varT this.1 this.2
theorem ustate_occ {L0 L : Pairs} {f : Env} {S : Sub} {x y : Tm} (hS : Solved f S) (h : UState L0 f ((x, y) :: L)) (hx : x.h < 0) (hg : y.good = true) (hyf : y.h < 0 → f (-1 - y.h) = none) (hne : x.h ≠ y.h) (hocc : occ (-1 - x.h) (app S y)) : ∀ τ, ¬ Sol τ L0 := by
  intro τ hτ
  have hh := (h τ).1 hτ
  rw [sol_cons] at hh
  obtain ⟨⟨h1, _⟩, h3⟩ := hh
  have hr := (resp_iff hS τ).1 h3
  have h2 : app τ y = app τ (app S y) := by rw [app_comp]; exact app_congr y fun u hu => hr u hu.1
  by_cases hn : y.h < 0
  · rw [app_neg hn, hS.free _ (hyf hn), occ_var (by omega)] at hocc
    omega
  · have hgS : (app S y).good = true := app_good y hg fun u hu => by have := occ_range hg hu; exact hS.good u this.1 this.2
    have := (occ_size (S := τ) _ hgS hocc).2 (by rw [app_pos hn]; exact hn)
    have h1' : app τ x = app τ y := h1
    rw [app_neg hx, h2] at h1'
    rw [← h1'] at this
    exact Nat.lt_irrefl _ this
structure Mgu (L0 : Pairs) (S : Sub) : Prop where
  most : ∀ τ, Sol τ L0 ↔ ∀ v, 0 ≤ v → τ v = app τ (S v)
  idem : ∀ v, 0 ≤ v → app S (S v) = S v
  low : ∀ v, 0 ≤ v → (S v).h < 0 → -1 - (S v).h ≤ v
  good : ∀ v, 0 ≤ v → v ≤ 255 → (S v).good = true
  out : ∀ v, 255 < v → S v = varT v
theorem solved_low {f : Env} {S : Sub} (h : Solved f S) : ∀ v, (S v).h < 0 → -1 - (S v).h ≤ v := by
  refine rank_ind h fun v ih hn => ?_
  cases hf : f v with
  | none => rw [h.free v hf]; simp only [varT, Tm.h]; omega
  | some t =>
    have hr := h.rng v t hf
    rw [h.fix v t hf] at hn ⊢
    by_cases ht : t.h < 0
    · rw [app_neg ht] at hn ⊢
      have hu : occ (-1 - t.h) t := ⟨by omega, by rw [show -1 - (-1 - t.h) = t.h by omega, Tm.heads_eq]; exact List.mem_cons_self⟩
      have := ih t hf _ hu hn
      have := h.low v t hf ht
      omega
    · rw [app_pos ht] at hn
      exact absurd hn ht
theorem mgu_of {L0 : Pairs} {f : Env} {S : Sub} (hS : Solved f S) (h : UState L0 f []) : Mgu L0 S where
  most := fun τ => by rw [h τ, ← resp_iff hS τ]; simp [Sol]
  idem := fun v h0 => by
    by_cases h1 : v ≤ 255
    · exact solved_idem hS h0 h1
    · rw [solved_out hS (.inr (by omega)), app_var S h0, solved_out hS (.inr (by omega))]
  low := fun v _ => solved_low hS v
  good := hS.good
  out := fun v hv => solved_out hS (.inr hv)
theorem Mgu.sol {L0 : Pairs} {S : Sub} (h : Mgu L0 S) : Sol S L0 := (h.most S).2 fun v h0 => (h.idem v h0).symm
theorem good_of_mgu {L0 : Pairs} {S : Sub} (h : Mgu L0 S) {v : Int} (h0 : 0 ≤ v) {u : Int} (hu : occ u (S v)) : S u = varT u := by
  by_cases h1 : v ≤ 255
  · exact app_fix (S v) (h.good v h0 h1) (h.idem v h0) u hu
  · rw [h.out v (by omega), occ_var h0] at hu
    subst hu
    exact h.out u (by omega)
theorem var_of_app {S : Sub} {t : Tm} {u : Int} (h0 : 0 ≤ u) (h : app S t = varT u) : t.h < 0 := by
  by_cases hn : t.h < 0
  · exact hn
  · rw [app_pos hn, varT, Tm.node.injEq] at h; omega
theorem mgu_unique {L0 : Pairs} {S1 S2 : Sub} (h1 : Mgu L0 S1) (h2 : Mgu L0 S2) : ∀ v, 0 ≤ v → S1 v = S2 v := by
  have e1 : ∀ v, 0 ≤ v → S1 v = app S1 (S2 v) := (h2.most S1).1 h1.sol
  have e2 : ∀ v, 0 ≤ v → S2 v = app S2 (S1 v) := (h1.most S2).1 h2.sol
  intro v h0
  rw [e1 v h0]
  have key : ∀ u, occ u (S2 v) → S1 u = varT u := fun u hu => by
    have hu0 := hu.1
    have a1 := good_of_mgu h2 h0 hu
    have a2 := e2 u hu0
    rw [a1] at a2
    have hn := var_of_app hu0 a2.symm
    have l1 := h1.low u hu0 hn
    rw [app_neg hn] at a2
    have hn2 : (S2 (-1 - (S1 u).h)).h < 0 := by rw [← a2]; show -1 - u < 0; omega
    have l2 := h2.low (-1 - (S1 u).h) (by omega) hn2
    rw [← a2] at l2
    have l2' : -1 - (-1 - u) ≤ -1 - (S1 u).h := l2
    have hh : -1 - (S1 u).h = u := by omega
    by_cases hu1 : u ≤ 255
    · have := good_is_var (h1.good u hu0 hu1) hn
      rw [this, hh]
    · exact h1.out u (by omega)
  by_cases h255 : v ≤ 255
  · conv => rhs; rw [← app_id (S2 v) (h2.good v h0 h255)]
    exact app_congr _ key
  · rw [h2.out v (by omega), app_var S1 h0, h1.out v (by omega)]
end Go.Proofs.Ythplndalbfcbbaa
set_option linter.unusedSimpArgs false
set_option linter.unusedVariables false
namespace Go.Proofs.Ythplndalbfcbbaa
open Go.RowKit
theorem OwnD.less {A B : Nat → Prop} {w : World} {base e k : Nat} {v : Value} {ds : List D} (h : OwnD A w base e k v ds) (hB : ∀ b, B b → A b) : OwnD B w base e k v ds := by
  obtain ⟨css, h1, h2, h3⟩ := h
  exact ⟨css, h1, h2, h3.imp fun cs d hd => hd.bar fun b _ hb => hb.elim (fun h => .inl (hB b h)) .inr⟩
theorem OwnD.binds0 {A : Nat → Prop} {w : World} {base e : Nat} {v : Value} {bs : List Bd} (h : OwnD A w base e 3 v (bs.map Bd.d)) : Binds (fun _ => False) w v bs := (h.less (B := fun _ => False) fun _ h => h.elim).rep fun _ h => h.elim
mutual
theorem gathT_sizes {M : Nat} : ∀ (p t : Tm) (s g : List Bd), (∀ b, b ∈ s → b.t.size ≤ M) → t.size ≤ M → gathT p t s = some g → ∀ b, b ∈ g → b.t.size ≤ M
  | .node h l, t, s, g, hs, ht, hg => by
    rw [gathT] at hg
    split at hg
    · split at hg
      · split at hg
        · cases hg; exact hs
        · cases hg
      · cases hg
        intro b hb
        rcases List.mem_append.1 hb with hb | hb
        · exact hs b hb
        · simp only [List.mem_singleton] at hb; rw [hb]; exact ht
    · split at hg
      · exact gathL_sizes l t.args s g hs (by have := t.size_eq; omega) hg
      · cases hg
theorem gathL_sizes {M : Nat} : ∀ (ps ts : List Tm) (s g : List Bd), (∀ b, b ∈ s → b.t.size ≤ M) → Tm.sizes ts ≤ M → gathL ps ts s = some g → ∀ b, b ∈ g → b.t.size ≤ M
  | [], ts, s, g, hs, _, hg => by rw [gathL] at hg; cases hg; exact hs
  | _ :: _, [], s, g, hs, _, hg => by rw [gathL] at hg; cases hg
  | p :: ps, t :: ts, s, g, hs, ht, hg => by
    rw [gathL] at hg
    simp only [Tm.sizes] at ht
    cases h1 : gathT p t s with
    | none => rw [h1] at hg; cases hg
    | some g1 =>
      rw [h1] at hg
      exact gathL_sizes ps ts g1 g (gathT_sizes p t s g1 hs (by omega) h1) (by omega) hg
end
theorem gathT_var {p t : Tm} {s : List Bd} (h : p.h < 0) : gathT p t s = match findB (-1 - p.h) s with
    | some u => if sameB u t = true then some s else none
    | none => some (s ++ [⟨-1 - p.h, t⟩]) := by
  cases p with
  | node x l => have h' : x < 0 := h; rw [gathT, if_pos h']; rfl
theorem gathT_fun {p t : Tm} {s : List Bd} (h : ¬ p.h < 0) : gathT p t s = if p.h = t.h ∧ p.args.length = t.args.length then gathL p.args t.args s else none := by
  cases p with
  | node x l => have h' : ¬ x < 0 := h; rw [gathT, if_neg h']; rfl
def cntS (n : Int) : List Tm → Int
  | [] => n
  | t :: ts => if n ≤ 500 then cntS (n + cntT t 500) ts else n
theorem cntS_drop (l : List Tm) (k : Nat) (h : k < l.length) (n : Int) : cntS n (l.drop k) = if n ≤ 500 then cntS (n + cntT l[k] 500) (l.drop (k + 1)) else n := by
  rw [List.drop_eq_getElem_cons h]; simp [cntS]
def fewS (ts : List Tm) : Bool := decide (cntS 0 ts ≤ 500)
theorem cntS_le : ∀ (ts : List Tm) (n : Int), 0 ≤ n → n ≤ cntS n ts
  | [], n, _ => by simp [cntS]
  | t :: ts, n, h => by
    simp only [cntS]
    split
    · have := cntT_range t 500 (by omega)
      have := cntS_le ts (n + cntT t 500) (by omega)
      omega
    · omega
theorem cntS_sizes : ∀ (ts : List Tm) (n : Int), 0 ≤ n → cntS n ts ≤ 500 → n + Tm.sizes ts ≤ 500
  | [], n, _, h => by simpa [cntS, Tm.sizes] using h
  | t :: ts, n, h0, h => by
    simp only [cntS] at h
    split at h
    · have hr := cntT_range t 500 (by omega)
      have hz := cntT_size t 500 (by omega)
      have hle := cntS_le ts (n + cntT t 500) (by omega)
      have := cntS_sizes ts _ (by omega) h
      have h5 := hz.2 (by omega)
      have h6 := hz.1 (by omega)
      simp only [Tm.sizes]; push_cast; omega
    · omega
theorem fewS_sizes {ts : List Tm} (h : fewS ts = true) : Tm.sizes ts ≤ 500 := by
  have := cntS_sizes ts 0 (by omega) (by simpa [fewS] using h); omega
set_option maxHeartbeats 1000000 in
theorem few5_calls (ts : List Tm) (A : Nat → Prop) (s : Value) (w : World) (hs : Terms A w s ts) :
    Calls Try.prog 41 #[s] w fun e w' => e = .returned (.bool (fewS ts)) ∧ Below w.heap.size w w' := by
  obtain ⟨a, c, rfl, hlc, hc⟩ := hs.shape
  have HG := hide (show (decide (cntS 0 (ts.drop 0) ≤ 500)) = fewS ts by simp [fewS])
  go_enter Try.func41, Try.ntmps41
  go_wp2
  go_loopw [3, 4] (fun q i wr => ∃ (k : Nat) (x : Int), k ≤ ts.length ∧ i = .int .i64 k ∧ q = .int .i64 x ∧ 0 ≤ x ∧ x ≤ 1001 ∧ Hid (decide (cntS x (ts.drop k) ≤ 500) = fewS ts) ∧ Below w.heap.size w wr) (fun _ i _ => ts.length - (intOf i).toNat)
  case atStart => exact ⟨0, 0, by omega, rfl, rfl, by omega, by omega, HG, Below.refl _ _⟩
  case round =>
    obtain ⟨k, x, hk, rfl, rfl, hx0, hx1, hx, hB⟩ := hrel
    by_cases hlt : k < ts.length
    · by_cases hle : x ≤ 500
      · obtain ⟨b, off, a', c', rfl, hc1, hc2, hs'⟩ := hs.getW hB k hlt
        have hr := cntT_range ts[k] 500 (by omega)
        have hx2 := hx.out
        rw [cntS_drop _ _ hlt, if_pos hle] at hx2
        have HX2 := hide hx2
        clear hx2
        go_wp2_with fail
        refine (count_calls _ ts[k] A _ _ _ 500 (Nat.le_refl _) (by omega) (by omega) hs').mono ?_
        rintro e w1 ⟨rfl, hB1⟩
        obtain ⟨hr1, hr2⟩ := hr
        have hB2 := more_below hB hB1
        clear hB1 hB
        go_wp2
        go_roundw
        case rel => exact ⟨k + 1, _, by omega, by go_num, rfl, by omega, by omega, HX2, hB2⟩
        case measure => simp [intOf]; omega
      · have hx2 := hx.out
        rw [cntS_drop _ _ hlt, if_neg hle] at hx2
        have HX2 := hide hx2
        clear hx2
        go_wp2
        go_ret
        exact ⟨by rw [← HX2.out]; simp [hle], hB⟩
    · have hx2 := hx.out
      rw [List.drop_of_length_le (by omega)] at hx2
      simp only [cntS] at hx2
      have HX2 := hide hx2
      clear hx2
      go_wp2
      go_ret
      exact ⟨by rw [← HX2.out]; rfl, hB⟩
theorem all_drop (l : List Tm) (k : Nat) (h : k < l.length) : (l.drop k).all rightB = (rightB l[k] && (l.drop (k + 1)).all rightB) := by
  rw [List.drop_eq_getElem_cons h, List.all_cons]
set_option maxHeartbeats 1000000 in
theorem all1_calls (ts : List Tm) (A : Nat → Prop) (s : Value) (w : World) (hsz : ∀ t, t ∈ ts → t.size ≤ 1000000000) (hs : Terms A w s ts) :
    Calls Try.prog 100 #[s] w fun e w' => e = .returned (.bool (ts.all rightB)) ∧ Below w.heap.size w w' := by
  obtain ⟨a, c, rfl, hlc, hc⟩ := hs.shape
  have HG := hide (show (ts.drop 0).all rightB = ts.all rightB by simp)
  have HSZ := hide hsz
  clear hsz
  go_enter Try.func100, Try.ntmps100
  go_wp2
  go_loopw [3] (fun i wr => ∃ (k : Nat), k ≤ ts.length ∧ i = .int .i64 k ∧ Hid ((ts.drop k).all rightB = ts.all rightB) ∧ Below w.heap.size w wr) (fun i _ => ts.length - (intOf i).toNat)
  case atStart => exact ⟨0, by omega, rfl, HG, Below.refl _ _⟩
  case round =>
    obtain ⟨k, hk, rfl, hx, hB⟩ := hrel
    by_cases hlt : k < ts.length
    · obtain ⟨b, off, a', c', rfl, hc1, hc2, hs'⟩ := hs.getW hB k hlt
      have hm := HSZ.out ts[k] (List.getElem_mem hlt)
      have hx2 := hx.out
      rw [all_drop _ _ hlt] at hx2
      have HX2 := hide hx2
      clear hx2 hx
      go_wp2_with fail
      refine (right_calls ts[k] A _ _ _ hm hs').mono ?_
      rintro e w1 ⟨rfl, hB1⟩
      have hB2 := more_below hB hB1
      clear hB1 hB
      cases hv : rightB ts[k]
      · have HX := hide (show false = ts.all rightB by rw [← HX2.out, hv, Bool.false_and])
        clear HX2 hv
        go_wp2
        go_ret
        exact ⟨ret_bool HX.out, hB2⟩
      · have HX := hide (show (ts.drop (k + 1)).all rightB = ts.all rightB by rw [← HX2.out, hv, Bool.true_and])
        clear HX2 hv
        go_wp2
        go_roundw
        case rel => exact ⟨k + 1, by omega, by go_num, HX, hB2⟩
        case measure => simp [intOf]; omega
    · have HX := hide (show true = ts.all rightB by have := hx.out; rw [List.drop_of_length_le (by omega)] at this; simpa using this)
      clear hx
      go_wp2
      go_ret
      exact ⟨ret_bool HX.out, hB⟩
def GaPost (A : Nat → Prop) (base : Nat) (p t : Tm) (bs : List Bd) (v : Value) (w : World) (e : Ending) (w' : World) : Prop :=
  Keep (fun b => v.ownBlock ≠ some b) w w' ∧ ∃ v' ok, e = .returned (.tuple #[v', .bool ok]) ∧ (∀ b, v'.ownBlock = some b → v.ownBlock = some b ∨ w.heap.size ≤ b) ∧
    ((ok = true ∧ ∃ g, gathT p t bs = some g ∧ OwnD A w' base 60 3 v' (g.map Bd.d)) ∨ (ok = false ∧ gathT p t bs = none))
set_option maxHeartbeats 8000000 in
set_option maxRecDepth 100000 in
theorem gath_calls (n0 : Nat) : ∀ (A : Nat → Prop) (p t : Tm) (base : Nat) (bs : List Bd) (h1 h2 : Int) (s1 s2 v : Value) (w : World), (∀ b, A b → b < base) → p.size ≤ n0 → p.good = true → bs.length + p.size ≤ 1000000000 → t.size ≤ 1000000000 → (∀ b, b ∈ bs → b.t.size ≤ 1000000000) → base ≤ w.heap.size →
    IsTm (fun b => base ≤ b ∨ A b) w h1 s1 p → IsTm (fun b => base ≤ b ∨ A b) w h2 s2 t → OwnD A w base 60 3 v (bs.map Bd.d) →
    Calls Try.prog 145 #[.agg #[.int .i64 h1, s1], .agg #[.int .i64 h2, s2], v] w fun e w' => GaPost A base p t bs v w e w' := by
  induction n0 with
  | zero => intro A p; cases p; intro t base bs h1 h2 s1 s2 v w hA hp; simp [Tm.size] at hp
  | succ n0 ih =>
    rintro A p t base bs h1 h2 s1 s2 v w hA hp hgood hbl ht9 hbz hbase hpt htt hov
    obtain ⟨rfl, a1, c1, rfl, hlc1, hc1⟩ := hpt.shape
    obtain ⟨rfl, a2, c2, rfl, hlc2, hc2⟩ := htt.shape
    obtain ⟨av, cv, hvs⟩ := hov.shape
    rw [List.length_map] at hvs
    subst hvs
    have HAO := hide hA
    have HOV := hide hov
    have HBZ := hide hbz
    have hpsz := hide p.size_eq
    have htsz := hide t.size_eq
    have hgh := good_heads p hgood p.h (by rw [Tm.heads_eq]; exact List.mem_cons_self)
    have HGD := hide hgood
    have hvlt := hov.lt
    have HVLT := hide hvlt
    have hbl2 : bs.length ≤ 1000000000 := by omega
    clear hov hbz hgood hvlt
    go_enter Try.func145, Try.ntmps145
    refine seq_cut (fun a' w' => a' = { tmps := #[.agg #[.int .i64 p.h, .slice a1 p.args.length c1], .agg #[.int .i64 t.h, .slice a2 t.args.length c2], .slice av bs.length cv, .pointer (some ⟨w.heap.size, 0, none⟩), .pointer (some ⟨w.heap.size + 1, 0, none⟩), undef, .slice none 0 0, .bool false, undef, undef, undef, undef, undef, undef, undef, undef, undef, undef, undef, undef, undef, undef, undef, undef, undef, undef, undef, undef, undef, undef, undef, undef, undef, undef, undef, undef, undef, undef, undef, undef, undef, undef, undef, undef, undef, undef, undef, undef, undef, undef, undef, undef, undef, undef, undef, undef, undef, undef, undef, undef, undef, undef, undef, undef, undef, undef, undef, undef, undef, undef, undef, undef, undef, undef, undef, undef, undef, undef, undef, undef, undef, undef, undef, undef, undef, undef, undef, undef], defers := [] } ∧ w' = (w.alloc (.cells #[.int .i64 p.h, .slice a1 p.args.length c1] 25)).alloc (.cells #[.int .i64 t.h, .slice a2 t.args.length c2] 25)) ?_ ?_
    · go_wp2
      first | done | exact ⟨rfl, rfl⟩ | exact ⟨trivial, trivial⟩
    rintro _ W ⟨rfl, HW⟩
    have hWa : W = allocs w [.cells #[.int .i64 p.h, .slice a1 p.args.length c1] 25, .cells #[.int .i64 t.h, .slice a2 t.args.length c2] 25] := HW
    have hB : Below w.heap.size w W := by rw [hWa]; exact allocs_below _ _
    have hsW : W.heap.size = w.heap.size + 2 := by rw [hWa]; exact allocs_size _ _
    have b0 : W.heap[w.heap.size]? = some (.cells #[.int .i64 p.h, .slice a1 p.args.length c1] 25 (0, 0)) := by rw [hWa]; exact allocs_get _ _ 0 _ rfl
    have b1 : W.heap[w.heap.size + 1]? = some (.cells #[.int .i64 t.h, .slice a2 t.args.length c2] 25 (0, 0)) := by rw [hWa]; exact allocs_get _ _ 1 _ rfl
    clear HW hWa
    have HsW := hide hsW
    clear hsW
    have HB := hide hB
    have hBz := hB.size
    -- the boxes, in each world that keeps them
    have hX : ∀ W' : World, W'.heap[w.heap.size]? = W.heap[w.heap.size]? → W'.heap[w.heap.size + 1]? = W.heap[w.heap.size + 1]? → W'.cell? ⟨w.heap.size, 0, none⟩ = some (.int .i64 p.h) ∧ W'.cell? ⟨w.heap.size, 1, none⟩ = some (.slice a1 p.args.length c1) ∧ W'.cell? ⟨w.heap.size + 1, 0, none⟩ = some (.int .i64 t.h) ∧ W'.cell? ⟨w.heap.size + 1, 1, none⟩ = some (.slice a2 t.args.length c2) := fun W' e0 e1 => by
      obtain ⟨-, z0, z1, -, -⟩ := box2 (e0.trans b0)
      obtain ⟨-, z2, z3, -, -⟩ := box2 (e1.trans b1)
      exact ⟨z0, z1, z2, z3⟩
    have HX := hide hX
    clear hX b0 b1
    have hXB : ∀ W', Below W.heap.size W W' → W'.cell? ⟨w.heap.size, 0, none⟩ = some (.int .i64 p.h) ∧ W'.cell? ⟨w.heap.size, 1, none⟩ = some (.slice a1 p.args.length c1) ∧ W'.cell? ⟨w.heap.size + 1, 0, none⟩ = some (.int .i64 t.h) ∧ W'.cell? ⟨w.heap.size + 1, 1, none⟩ = some (.slice a2 t.args.length c2) := fun W' h => HX.out W' (h.block _ (by have := HsW.out; omega)) (h.block _ (by have := HsW.out; omega))
    have HXB := hide hXB
    clear hXB hB
    obtain ⟨x0, x1, x2, x3⟩ := HXB.out W (Below.refl _ _)
    by_cases hneg : p.h < 0
    · have HGT := hide (gathT_var (t := t) (s := bs) hneg)
      have hv0 : 0 ≤ -1 - p.h := by omega
      have HBI := hide (HOV.out.below HB.out).binds0
      go_wp2
      go_loopw [8] (fun i wr => ∃ k : Nat, k ≤ bs.length ∧ i = .int .i64 k ∧ Hid (findB (-1 - p.h) (bs.drop k) = findB (-1 - p.h) bs) ∧ Below W.heap.size W wr) (fun i _ => bs.length - (intOf i).toNat)
      case atStart => exact ⟨0, by omega, rfl, hide (by simp), Below.refl _ _⟩
      case round =>
        obtain ⟨k, hk, rfl, hx, hBr⟩ := hrel
        clear x0 x1 x2 x3
        obtain ⟨x0, x1, x2, x3⟩ := HXB.out wr hBr
        by_cases hlt : k < bs.length
        · obtain ⟨bb, ob, a', c', hav, q0, q1, q2, tt⟩ := HBI.out.getW hBr k hlt
          subst hav
          have hbb : bb < wr.heap.size := World.block_lt_of_cell? wr _ q0
          have hi0 : (k : Int) < bs.length := by omega
          have hw1 : IntKind.i64.wrap (-1 - p.h) = -1 - p.h := IntWalk.i64_in _ (by omega)
          have hS : ∀ W', Below wr.heap.size wr W' → Below wr.heap.size wr W' ∧ W'.cell? ⟨bb, ob + k * 3, none⟩ = some (.int .i64 bs[k].v) ∧ W'.cell? ⟨bb, ob + k * 3 + 1, none⟩ = some (.int .i64 bs[k].t.h) ∧ W'.cell? ⟨bb, ob + k * 3 + 2, none⟩ = some (.slice a' bs[k].t.args.length c') ∧ W'.cell? ⟨w.heap.size, 0, none⟩ = some (.int .i64 p.h) ∧ W'.cell? ⟨w.heap.size + 1, 0, none⟩ = some (.int .i64 t.h) ∧ W'.cell? ⟨w.heap.size + 1, 1, none⟩ = some (.slice a2 t.args.length c2) := fun W' hW => by
            obtain ⟨y0, y1, y2, y3⟩ := HXB.out W' (more_below hBr hW)
            exact ⟨hW, (hW.cell (p := ⟨bb, ob + k * 3, none⟩) hbb).trans q0, (hW.cell (p := ⟨bb, ob + k * 3 + 1, none⟩) hbb).trans q1, (hW.cell (p := ⟨bb, ob + k * 3 + 2, none⟩) hbb).trans q2, y0, y2, y3⟩
          have HS := hide hS
          clear hS
          go_wp2
          refine cut_cap (fun a0 aN w' => aN = (((((((((a0.put (some 21) (.slice (some ⟨bb, ob, none⟩) bs.length cv)).put (some 22) (.int .i64 k)).put (some 23) (.pointer (some ⟨bb, ob + k * 3, none⟩))).put (some 24) (.pointer (some ⟨bb, ob + k * 3, none⟩))).put (some 25) (.int .i64 bs[k].v)).put (some 26) (.pointer (some ⟨w.heap.size, 0, none⟩))).put (some 27) (.int .i64 p.h)).put (some 28) (.int .i64 (-1 - p.h))).put (some 29) (.bool (bs[k].v == -1 - p.h))) ∧ w' = wr.drew) ?_ ?_
          · refine drawn_two (fun W' => Below wr.heap.size wr W' ∧ W'.cell? ⟨bb, ob + k * 3, none⟩ = some (.int .i64 bs[k].v) ∧ W'.cell? ⟨bb, ob + k * 3 + 1, none⟩ = some (.int .i64 bs[k].t.h) ∧ W'.cell? ⟨bb, ob + k * 3 + 2, none⟩ = some (.slice a' bs[k].t.args.length c') ∧ W'.cell? ⟨w.heap.size, 0, none⟩ = some (.int .i64 p.h) ∧ W'.cell? ⟨w.heap.size + 1, 0, none⟩ = some (.int .i64 t.h) ∧ W'.cell? ⟨w.heap.size + 1, 1, none⟩ = some (.slice a2 t.args.length c2)) [.take 0, .take 1, .take 2, .take 3, .take 4, .take 5, .take 6, .take 7, .take 8] (by kernel_rfl) (by kernel_rfl) (by kernel_rfl) (by kernel_rfl) (fun _ _ _ _ _ h => h) (HS.out _ (Below.refl _ _).drew) ?_
            iterate 9 (refine p_take (v := ?_) rfl (by rfl) ?_ ?_; rotate_left; (intro w hS; obtain ⟨S0, S1, S2, S3, S4, S5, S6⟩ := hS; go_simp; try with_reducible rfl); simp only [Act.put, List.setIfInBounds_toArray, List.set_cons_zero, List.set_cons_succ])
            refine p_done ⟨?_, rfl⟩
            try simp only [Act.put, List.setIfInBounds_toArray, List.set_cons_zero, List.set_cons_succ]
            try rfl
          rintro _ _ ⟨rfl, rfl⟩
          simp only [Act.put, List.setIfInBounds_toArray, List.set_cons_zero, List.set_cons_succ]
          have hBd := hBr.drew
          have hx2 := hx.out
          rw [findB_drop _ _ hlt] at hx2
          by_cases hveq : bs[k].v = -1 - p.h
          · have HFO := hide (show findB (-1 - p.h) bs = some bs[k].t by rw [← hx2, if_pos hveq])
            have hd : (bs[k].v == -1 - p.h) = true := by simpa using hveq
            have hu9 := HBZ.out bs[k] (List.getElem_mem hlt)
            clear hx hx2 hveq
            go_wp2
            refine cut_cap (fun a0 aN w' => aN = ((((((((((a0.put (some 30) (.slice (some ⟨bb, ob, none⟩) bs.length cv)).put (some 31) (.slice (some ⟨bb, ob, none⟩) bs.length cv)).put (some 32) (.int .i64 k)).put (some 33) (.pointer (some ⟨bb, ob + k * 3, none⟩))).put (some 34) (.pointer (some ⟨bb, ob + k * 3 + 1, none⟩))).put (some 35) (.agg #[.int .i64 bs[k].t.h, .slice a' bs[k].t.args.length c'])).put (some 36) (.agg #[.int .i64 t.h, .slice a2 t.args.length c2])).put (some 37) (.bool (sameB bs[k].t t))).put (some 6) (.slice (some ⟨bb, ob, none⟩) bs.length cv)).put (some 7) (.bool (sameB bs[k].t t))) ∧ Below wr.heap.size wr w') ?_ ?_
            · refine drawn_two (fun W' => Below wr.heap.size wr W' ∧ W'.cell? ⟨bb, ob + k * 3, none⟩ = some (.int .i64 bs[k].v) ∧ W'.cell? ⟨bb, ob + k * 3 + 1, none⟩ = some (.int .i64 bs[k].t.h) ∧ W'.cell? ⟨bb, ob + k * 3 + 2, none⟩ = some (.slice a' bs[k].t.args.length c') ∧ W'.cell? ⟨w.heap.size, 0, none⟩ = some (.int .i64 p.h) ∧ W'.cell? ⟨w.heap.size + 1, 0, none⟩ = some (.int .i64 t.h) ∧ W'.cell? ⟨w.heap.size + 1, 1, none⟩ = some (.slice a2 t.args.length c2)) [.take 0, .take 1, .take 2, .take 3, .take 4, .take 5, .take 6, .one 7, .take 8, .take 9] (by kernel_rfl) (by kernel_rfl) (by kernel_rfl) (by kernel_rfl) (fun _ _ _ _ _ h => h) (HS.out _ (Below.refl _ _).drew.drew) ?_
              iterate 7 (refine p_take (v := ?_) rfl (by rfl) ?_ ?_; rotate_left; (intro w hS; obtain ⟨S0, S1, S2, S3, S4, S5, S6⟩ := hS; go_simp; try with_reducible rfl); simp only [Act.put, List.setIfInBounds_toArray, List.set_cons_zero, List.set_cons_succ])
              refine p_one rfl (by rfl) ?_
              intro K hK
              go_simp
              refine (same_calls bs[k].t t (fun _ => False) (fun b => base ≤ b ∨ A b) _ _ _ _ _ hu9 ht9 (tt.below ((Below.refl wr.heap.size wr).drew.drew)) (⟨rfl, (htt.2.below HB.out).below hBd.drew⟩)).mono ?_
              rintro e wn ⟨rfl, hbn⟩
              have hcn := more_below (Below.refl wr.heap.size wr).drew.drew hbn
              clear hbn
              refine hK.out _ _ (HS.out _ hcn) ?_
              clear hK K
              try simp only [Act.put, List.setIfInBounds_toArray, List.set_cons_zero, List.set_cons_succ]
              iterate 2 (refine p_take (v := ?_) rfl (by rfl) ?_ ?_; rotate_left; (intro w hS; obtain ⟨S0, S1, S2, S3, S4, S5, S6⟩ := hS; go_simp; try with_reducible rfl); simp only [Act.put, List.setIfInBounds_toArray, List.set_cons_zero, List.set_cons_succ])
              refine p_done ⟨?_, hcn⟩
              try simp only [Act.put, List.setIfInBounds_toArray, List.set_cons_zero, List.set_cons_succ]
              try rfl
              try (simp only [hd]; try rfl)
            rintro _ W3 ⟨rfl, hW3⟩
            simp only [Act.put, List.setIfInBounds_toArray, List.set_cons_zero, List.set_cons_succ]
            have hB3 := more_below HB.out (more_below hBr hW3)
            go_wp2
            refine bodyPost_ret (v := .tuple #[.slice (some ⟨bb, ob, none⟩) bs.length cv, .bool (sameB bs[k].t t)]) (by simp [results, Try.results145, go_sem]) rfl ⟨.of_below hB3, _, _, rfl, fun b hb => .inl hb, ?_⟩
            cases hsb : sameB bs[k].t t
            · exact .inr ⟨rfl, by rw [HGT.out, HFO.out]; simp [hsb]⟩
            · exact .inl ⟨rfl, bs, by rw [HGT.out, HFO.out]; simp [hsb], HOV.out.below hB3⟩
          · have HFN := hide (show findB (-1 - p.h) (bs.drop (k + 1)) = findB (-1 - p.h) bs by rw [← hx2, if_neg hveq])
            have hd : (bs[k].v == -1 - p.h) = false := by simpa using hveq
            clear hx hx2 hveq
            go_wp2
            go_roundw
            case rel => exact ⟨k + 1, by omega, by go_num, HFN, hBd⟩
            case measure => simp [intOf]; omega
        · have HFN := hide (show findB (-1 - p.h) bs = none by rw [← hx.out, List.drop_of_length_le (by omega)]; rfl)
          clear hx
          have hi0 : ¬ (k : Int) < bs.length := by omega
          have hw1 : IntKind.i64.wrap (-1 - p.h) = -1 - p.h := IntWalk.i64_in _ (by omega)
          have hal : Below wr.heap.size wr (wr.alloc (.cells #[.int .i64 (-1 - p.h), .int .i64 t.h, .slice a2 t.args.length c2] 60)) := (Below.refl _ _).alloc (Nat.le_refl _) _
          have kb := World.alloc_heap_new wr (.cells #[.int .i64 (-1 - p.h), .int .i64 t.h, .slice a2 t.args.length c2] 60)
          have hBw := HB.out.trans (hBr.mono HB.out.size)
          have hwz := hBw.size
          have HO12 := hide ((HOV.out.below hBw).below hal)
          have HD := hide (show RepD (fun b => A b ∨ (Value.slice av bs.length cv).ownBlock = some b) (wr.alloc (.cells #[.int .i64 (-1 - p.h), .int .i64 t.h, .slice a2 t.args.length c2] 60)) (.row 3 (([⟨-1 - p.h, t⟩] : List Bd).map Bd.d)) [.slice (some ⟨wr.heap.size, 0, none⟩) 1 1] from
            binds1 (b1 := ⟨-1 - p.h, t⟩) kb (fun h => by
              rcases h with h | h
              · have := HAO.out _ h; omega
              · have := (HVLT.out _ h).2; omega) (RepD.frame (fun b _ hlt => hal.block b hlt) (fun b hb h => by
              rcases h with h | h
              · exact .inr h
              · exact .inl (HVLT.out _ h).1) _ _ (htt.2.below hBw)))
          have HB12 := hide (hBw.trans (hal.mono hwz))
          have HBASE := hide (show base ≤ (wr.alloc (.cells #[.int .i64 (-1 - p.h), .int .i64 t.h, .slice a2 t.args.length c2] 60)).heap.size from by have := hal.size; omega)
          clear hal kb
          go_wp2_with (at_builtin; refine app_all_pl rfl (.tmp 38) (.tmp 44) 22 rfl base 60 (.agg #[.int .i64 0, .int .i64 0, .slice none 0 0]) 3 40 Try.underlying22 (by kernel_rfl) rfl (by decide) (v := .slice av bs.length cv) (xv := .slice (some ⟨wr.heap.size, 0, none⟩) 1 1) rfl rfl HO12.out HD.out (fun d hd => by obtain ⟨z, -, rfl⟩ := List.mem_map.1 hd; exact Bd.oneD z) (by simp [maxLen]; omega) (by simp; omega) HBASE.out ?_; intro v' w' o' kp ob hsh)
          obtain ⟨av', cv', rfl⟩ := hsh
          refine bodyPost_ret (v := .tuple #[.slice av' (bs.length + 1) cv', .bool true]) (by simp [results, Try.results145, go_sem]) rfl ⟨(Keep.of_below HB12.out).trans kp, _, _, rfl, fun b hb => ?_, .inl ⟨rfl, bs ++ [⟨-1 - p.h, t⟩], by rw [HGT.out, HFN.out], by rw [List.map_append]; have h9 := o'; simp only [List.length_map, List.map_cons, List.map_nil, List.length_singleton] at h9 ⊢; exact h9⟩⟩
          have ob' := ob
          simp only [List.length_map, List.map_cons, List.map_nil, List.length_singleton] at ob'
          rcases ob' b hb with h | h
          · exact .inl h
          · exact .inr (by rw [h]; exact HB12.out.size)
    · have HGT := hide (gathT_fun (t := t) (s := bs) hneg)
      by_cases hhd : p.h = t.h
      rotate_left
      · have HN := hide (show gathT p t bs = none by rw [HGT.out, if_neg (fun h => hhd h.1)])
        have hd : (p.h != t.h) = true := by simpa using hhd
        clear hhd HGT
        go_wp2
        exact bodyPost_ret (v := .tuple #[.slice av bs.length cv, .bool false]) (by simp [results, Try.results145, go_sem]) rfl ⟨.of_below HB.out, _, _, rfl, fun b hb => .inl hb, .inr ⟨rfl, HN.out⟩⟩
      have hd : (p.h != t.h) = false := by simpa using hhd
      by_cases hln : p.args.length = t.args.length
      rotate_left
      · have HN := hide (show gathT p t bs = none by rw [HGT.out, if_neg (fun h => hln h.2)])
        have hd2 : ((p.args.length : Int) != t.args.length) = true := by simp; omega
        clear hhd hln HGT
        go_wp2
        exact bodyPost_ret (v := .tuple #[.slice av bs.length cv, .bool false]) (by simp [results, Try.results145, go_sem]) rfl ⟨.of_below HB.out, _, _, rfl, fun b hb => .inl hb, .inr ⟨rfl, HN.out⟩⟩
      have hd2 : ((p.args.length : Int) != t.args.length) = false := by simp; omega
      have HG2 := hide (show gathL (p.args.drop 0) (t.args.drop 0) bs = gathT p t bs by rw [HGT.out, if_pos ⟨hhd, hln⟩, List.drop_zero, List.drop_zero])
      have HLN := hide hln
      have HKG := hide (good_args HGD.out).2.2
      have HSB := hide (show bs.length + Tm.sizes (p.args.drop 0) ≤ 1000000000 by have := hpsz.out; rw [List.drop_zero]; omega)
      clear hhd hln HGT
      go_wp2
      go_loopw [2, 9] (fun sv i wr => ∃ (k : Nat) (g : List Bd), k ≤ p.args.length ∧ i = .int .i64 k ∧ Hid (gathL (p.args.drop k) (t.args.drop k) g = gathT p t bs) ∧ Hid (OwnD A wr base 60 3 sv (g.map Bd.d)) ∧ Hid (∀ b, b ∈ g → b.t.size ≤ 1000000000) ∧ Hid (g.length + Tm.sizes (p.args.drop k) ≤ 1000000000) ∧ Hid (∀ b, sv.ownBlock = some b → (Value.slice av bs.length cv).ownBlock = some b ∨ W.heap.size ≤ b) ∧ Hid (Keep (fun b => (Value.slice av bs.length cv).ownBlock ≠ some b) W wr)) (fun _ i _ => p.args.length - (intOf i).toNat)
      case atStart => exact ⟨0, bs, by omega, rfl, HG2, hide (HOV.out.below HB.out), HBZ, HSB, hide fun b hb => .inl hb, hide (Keep.refl _ _)⟩
      case round =>
        obtain ⟨k, g, hk, rfl, hG, hO, hZ, hL, hOb, hKp⟩ := hrel
        clear x0 x1 x2 x3
        obtain ⟨ag, cg, hsg⟩ := hO.out.shape
        rw [List.length_map] at hsg
        subst hsg
        have HSEP : ∀ b, (Value.slice ag g.length cg).ownBlock = some b → b ≠ w.heap.size ∧ b ≠ w.heap.size + 1 ∧ base ≤ b := fun b hb => by
          have h1 := (hO.out.lt b hb).1
          rcases hOb.out b hb with h | h
          · have := (HVLT.out b h).2; exact ⟨by omega, by omega, h1⟩
          · have := HsW.out; exact ⟨by omega, by omega, h1⟩
        have HSP := hide HSEP
        clear HSEP
        have hKz := hKp.out.size
        have hown0 : ∀ b, b = w.heap.size ∨ b = w.heap.size + 1 ∨ b < base → (Value.slice av bs.length cv).ownBlock ≠ some b := fun b hb e => by
          have := HVLT.out b e; omega
        have HOWN := hide hown0
        clear hown0
        have hwr : wr.heap[w.heap.size]? = W.heap[w.heap.size]? ∧ wr.heap[w.heap.size + 1]? = W.heap[w.heap.size + 1]? := ⟨hKp.out.block _ (by have := HsW.out; omega) (HOWN.out _ (.inl rfl)), hKp.out.block _ (by have := HsW.out; omega) (HOWN.out _ (.inr (.inl rfl)))⟩
        have HWR := hide hwr
        clear hwr
        obtain ⟨x0, x1, x2, x3⟩ := HX.out wr HWR.out.1 HWR.out.2
        by_cases hlt : k < p.args.length
        · have hlt2 : k < t.args.length := by rw [← HLN.out]; exact hlt
          obtain ⟨bp, op, ap, cp, hap, lp, np, g0, g1, tp⟩ := hpt.2.get k hlt
          obtain ⟨bt, ot, at', ct, hat, lt', nt, f0, f1, tt⟩ := htt.2.get k hlt2
          subst hap
          subst hat
          have hi0 : (k : Int) < p.args.length := by omega
          have hi1 : (k : Int) < t.args.length := by omega
          have HOLD := hide (show ∀ W', Keep (fun b => (Value.slice ag g.length cg).ownBlock ≠ some b) wr W' → ∀ b, b < base → W'.heap[b]? = w.heap[b]? from fun W' hW b hb =>
            (hW.block b (by omega) (fun e => by have := (HSP.out b e).2.2; omega)).trans ((hKp.out.block b (by omega) (HOWN.out _ (.inr (.inr hb)))).trans (HB.out.block b (by omega))))
          have hS : ∀ W', Keep (fun b => (Value.slice ag g.length cg).ownBlock ≠ some b) wr W' → W'.cell? ⟨w.heap.size, 1, none⟩ = some (.slice (some ⟨bp, op, none⟩) p.args.length c1) ∧ W'.cell? ⟨w.heap.size + 1, 1, none⟩ = some (.slice (some ⟨bt, ot, none⟩) t.args.length c2) ∧ W'.cell? ⟨bp, op + k * 2, none⟩ = some (.int .i64 p.args[k].h) ∧ W'.cell? ⟨bp, op + k * 2 + 1, none⟩ = some (.slice ap p.args[k].args.length cp) ∧ W'.cell? ⟨bt, ot + k * 2, none⟩ = some (.int .i64 t.args[k].h) ∧ W'.cell? ⟨bt, ot + k * 2 + 1, none⟩ = some (.slice at' t.args[k].args.length ct) := fun W' hW => by
            obtain ⟨-, y1, -, y3⟩ := HX.out W' ((hW.block _ (by have := HsW.out; omega) (fun e => (HSP.out _ e).1 rfl)).trans HWR.out.1) ((hW.block _ (by have := HsW.out; omega) (fun e => (HSP.out _ e).2.1 rfl)).trans HWR.out.2)
            have eb := HOLD.out W' hW bp (by omega)
            have et := HOLD.out W' hW bt (by omega)
            exact ⟨y1, y3, (World.cell?_of_block (a := ⟨bp, op + k * 2, none⟩) eb).trans g0, (World.cell?_of_block (a := ⟨bp, op + k * 2 + 1, none⟩) eb).trans g1, (World.cell?_of_block (a := ⟨bt, ot + k * 2, none⟩) et).trans f0, (World.cell?_of_block (a := ⟨bt, ot + k * 2 + 1, none⟩) et).trans f1⟩
          have HS := hide hS
          have hkz := Tm.size_get p.args k hlt
          have hkz2 := Tm.size_get t.args k hlt2
          have r1 : p.args[k].size ≤ n0 := by have := hpsz.out; omega
          have r2 : t.args[k].size ≤ 1000000000 := by have := htsz.out; omega
          have r3 := HKG.out k hlt
          have r4 : g.length + p.args[k].size ≤ 1000000000 := by
            have := hL.out
            rw [List.drop_eq_getElem_cons hlt] at this
            simp only [Tm.sizes] at this; omega
          have hstep := gathL_take p.args t.args k hlt hlt2 g
          rw [hG.out] at hstep
          have HST := hide hstep
          have HR := hide (And.intro r1 (And.intro r2 (And.intro r3 r4)))
          have TP := hide tp
          have TT := hide tt
          clear hS g0 g1 f0 f1 hstep r1 r2 r3 r4 hkz hkz2 tp tt hG
          go_wp2
          refine cut_cap (fun a0 aN w' => ∃ v' ok, aN = (((((((((((((((((a0.put (some 69) (.pointer (some ⟨w.heap.size, 1, none⟩))).put (some 70) (.slice (some ⟨bp, op, none⟩) p.args.length c1)).put (some 71) (.int .i64 k)).put (some 72) (.pointer (some ⟨bp, op + k * 2, none⟩))).put (some 73) (.agg #[.int .i64 p.args[k].h, .slice ap p.args[k].args.length cp])).put (some 74) (.pointer (some ⟨w.heap.size + 1, 1, none⟩))).put (some 75) (.slice (some ⟨bt, ot, none⟩) t.args.length c2)).put (some 76) (.int .i64 k)).put (some 77) (.pointer (some ⟨bt, ot + k * 2, none⟩))).put (some 78) (.agg #[.int .i64 t.args[k].h, .slice at' t.args[k].args.length ct])).put (some 79) (.slice ag g.length cg)).put (some 80) ((.tuple #[v', .bool ok]))).put (some 68) ((.tuple #[v', .bool ok]))).put (some 81) (v')).put (some 82) (.bool ok)).put (some 10) (v')).put (some 11) (.bool ok)) ∧ Keep (fun b => (Value.slice ag g.length cg).ownBlock ≠ some b) wr w' ∧ (∀ b, v'.ownBlock = some b → (Value.slice ag g.length cg).ownBlock = some b ∨ wr.drew.heap.size ≤ b) ∧ ((ok = true ∧ ∃ g', gathT p.args[k] t.args[k] g = some g' ∧ OwnD A w' base 60 3 v' (g'.map Bd.d)) ∨ (ok = false ∧ gathT p.args[k] t.args[k] g = none))) ?_ ?_
          · refine drawn_two (fun W' => W'.cell? ⟨w.heap.size, 1, none⟩ = some (.slice (some ⟨bp, op, none⟩) p.args.length c1) ∧ W'.cell? ⟨w.heap.size + 1, 1, none⟩ = some (.slice (some ⟨bt, ot, none⟩) t.args.length c2) ∧ W'.cell? ⟨bp, op + k * 2, none⟩ = some (.int .i64 p.args[k].h) ∧ W'.cell? ⟨bp, op + k * 2 + 1, none⟩ = some (.slice ap p.args[k].args.length cp) ∧ W'.cell? ⟨bt, ot + k * 2, none⟩ = some (.int .i64 t.args[k].h) ∧ W'.cell? ⟨bt, ot + k * 2 + 1, none⟩ = some (.slice at' t.args[k].args.length ct)) [.take 0, .take 1, .take 2, .take 3, .take 4, .take 5, .take 6, .take 7, .take 8, .take 9, .take 10, .one 11, .take 12, .take 13, .take 14, .take 15, .take 16] (by kernel_rfl) (by kernel_rfl) (by kernel_rfl) (by kernel_rfl) (fun _ _ _ _ _ h => h) (HS.out _ ((Keep.refl _ _).drew)) ?_
            iterate 11 (refine p_take (v := ?_) rfl (by rfl) ?_ ?_; rotate_left; (intro w hS; obtain ⟨S0, S1, S2, S3, S4, S5⟩ := hS; go_simp; try with_reducible rfl); simp only [Act.put, List.setIfInBounds_toArray, List.set_cons_zero, List.set_cons_succ])
            refine p_one rfl (by rfl) ?_
            intro K hK
            go_simp
            refine (ih A p.args[k] t.args[k] base g _ _ _ _ (.slice ag g.length cg) wr.drew HAO.out HR.out.1 HR.out.2.2.1 HR.out.2.2.2 HR.out.2.1 hZ.out (by show base ≤ wr.heap.size; omega) ⟨rfl, TP.out.frame (fun b hb hlt => HOLD.out _ ((Keep.refl _ _).drew) b (by omega)) (fun _ _ h => h)⟩ ⟨rfl, TT.out.frame (fun b hb hlt => HOLD.out _ ((Keep.refl _ _).drew) b (by omega)) (fun _ _ h => h)⟩ (hO.out.below ((Below.refl _ _).drew))).mono ?_
            rintro e wn ⟨hkn, v', ok, rfl, hown', hres⟩
            have hkn2 : Keep (fun b => (Value.slice ag g.length cg).ownBlock ≠ some b) wr wn := ((Keep.refl _ wr).drew).trans hkn
            refine hK.out _ _ (HS.out _ hkn2) ?_
            clear hK K
            try simp only [Act.put, List.setIfInBounds_toArray, List.set_cons_zero, List.set_cons_succ]
            iterate 5 (refine p_take (v := ?_) rfl (by rfl) ?_ ?_; rotate_left; (intro w hS; obtain ⟨S0, S1, S2, S3, S4, S5⟩ := hS; go_simp; try with_reducible rfl); simp only [Act.put, List.setIfInBounds_toArray, List.set_cons_zero, List.set_cons_succ])
            refine p_done ⟨v', ok, ?_, hkn2, hown', hres⟩
            try simp only [Act.put, List.setIfInBounds_toArray, List.set_cons_zero, List.set_cons_succ]
            try rfl
          rintro _ W3 ⟨v', ok, rfl, hW3, hown', hres⟩
          simp only [Act.put, List.setIfInBounds_toArray, List.set_cons_zero, List.set_cons_succ]
          have hWz := HB.out.size
          have hK3 : Keep (fun b => (Value.slice av bs.length cv).ownBlock ≠ some b) W W3 := ⟨hW3.os.trans hKp.out.os, hW3.tape.trans hKp.out.tape, hW3.output.trans hKp.out.output, Nat.le_trans hKp.out.size hW3.size, fun b hlb hb => (hW3.block b (by omega) (fun e => by
            rcases hOb.out b e with h | h
            · exact hb h
            · omega)).trans (hKp.out.block b hlb hb)⟩
          have hob3 : ∀ b, v'.ownBlock = some b → (Value.slice av bs.length cv).ownBlock = some b ∨ W.heap.size ≤ b := fun b hb => by
            rcases hown' b hb with h | h
            · exact hOb.out b h
            · exact .inr (Nat.le_trans hKz h)
          have HK3 := hide hK3
          have HOB3 := hide hob3
          clear hK3 hob3 hW3 hown'
          have HKW := hide (show Keep (fun b => (Value.slice av bs.length cv).ownBlock ≠ some b) w W3 from (Keep.of_below HB.out).trans HK3.out)
          cases ok
          · have HN := hide (show gathT p t bs = none by
              rcases hres with ⟨h, -⟩ | ⟨-, h⟩
              · cases h
              · rw [HST.out, h])
            clear hres
            go_wp2
            exact bodyPost_ret (v := .tuple #[.slice ag g.length cg, .bool false]) (by simp [results, Try.results145, go_sem]) rfl ⟨HKW.out, _, _, rfl, fun b hb => (hOb.out b hb).elim .inl fun h => .inr (Nat.le_trans hWz h), .inr ⟨rfl, HN.out⟩⟩
          · obtain ⟨g', hg', hO'⟩ : ∃ g', gathT p.args[k] t.args[k] g = some g' ∧ OwnD A W3 base 60 3 v' (g'.map Bd.d) := by
              rcases hres with ⟨-, h⟩ | ⟨h, -⟩
              · exact h
              · cases h
            have HG3 := hide (show gathL (p.args.drop (k + 1)) (t.args.drop (k + 1)) g' = gathT p t bs by rw [HST.out, hg'])
            have HO3 := hide hO'
            have HZ3 := hide (gathT_sizes p.args[k] t.args[k] g g' hZ.out HR.out.2.1 hg')
            have HL3 := hide (show g'.length + Tm.sizes (p.args.drop (k + 1)) ≤ 1000000000 by
              have h1 := gathT_length _ _ _ _ hg'
              have h2 := hL.out
              rw [List.drop_eq_getElem_cons hlt] at h2
              simp only [Tm.sizes] at h2; omega)
            obtain ⟨av3, cv3, rfl⟩ := hO'.shape
            clear hres hg' hO' HST
            go_wp2
            go_roundw
            case rel => exact ⟨k + 1, g', by omega, by go_num, HG3, HO3, HZ3, HL3, HOB3, HK3⟩
            case measure => simp [intOf]; omega
        · have HG3 := hide (show gathT p t bs = some g by rw [← hG.out, List.drop_of_length_le (by omega), gathL])
          have hWz := HB.out.size
          have HKW := hide (show Keep (fun b => (Value.slice av bs.length cv).ownBlock ≠ some b) w wr from (Keep.of_below HB.out).trans hKp.out)
          have hi0 : ¬ (k : Int) < p.args.length := by omega
          clear hG
          go_wp2
          exact bodyPost_ret (v := .tuple #[.slice ag g.length cg, .bool true]) (by simp [results, Try.results145, go_sem]) rfl ⟨HKW.out, _, _, rfl, fun b hb => (hOb.out b hb).elim .inl fun h => .inr (Nat.le_trans hWz h), .inl ⟨rfl, g, HG3.out, hO.out⟩⟩
set_option maxHeartbeats 8000000 in
set_option maxRecDepth 100000 in
theorem gather5_calls (A : Nat → Prop) (ps ts : List Tm) (s1 s2 : Value) (w : World) (hA : ∀ b, A b → b < w.heap.size) (hlen : ps.length = ts.length) (hsz : Tm.sizes ps ≤ 1000000000) (hsz2 : Tm.sizes ts ≤ 1000000000) (hgood : Tm.goods ps = true) (hs : Terms A w s1 ps) (ht : Terms A w s2 ts) :
    Calls Try.prog 101 #[s1, s2, .slice none 0 0] w fun e w' => Below w.heap.size w w' ∧ ∃ v ok, e = .returned (.tuple #[v, .bool ok]) ∧
      ((ok = true ∧ ∃ g, gathL ps ts [] = some g ∧ Binds A w' v g ∧ ∀ b, b ∈ g → b.t.size ≤ 1000000000) ∨ (ok = false ∧ gathL ps ts [] = none)) := by
  obtain ⟨a1, c1, rfl, hc1, hc1'⟩ := hs.shape
  obtain ⟨a2, c2, rfl, hc2, hc2'⟩ := ht.shape
  have HAO := hide hA
  have HLN := hide hlen
  have HGD := hide hgood
  have HG2 := hide (show gathL (ps.drop 0) (ts.drop 0) [] = gathL ps ts [] by simp)
  have HS1 := hide hsz
  have HS2 := hide hsz2
  clear hlen hgood hsz hsz2
  go_enter Try.func101, Try.ntmps101
  go_wp2
  go_loopw [2, 8] (fun sv i wr => ∃ (k : Nat) (g : List Bd), k ≤ ps.length ∧ i = .int .i64 k ∧ Hid (gathL (ps.drop k) (ts.drop k) g = gathL ps ts []) ∧ Hid (OwnD A wr w.heap.size 60 3 sv (g.map Bd.d)) ∧ Hid (∀ b, b ∈ g → b.t.size ≤ 1000000000) ∧ Hid (g.length + Tm.sizes (ps.drop k) ≤ 1000000000) ∧ Below w.heap.size w wr) (fun _ i _ => ps.length - (intOf i).toNat)
  case atStart => exact ⟨0, [], by omega, rfl, HG2, hide (OwnD.nil _ _ _ _ _), hide (by simp), hide (by simpa using HS1.out), Below.refl _ _⟩
  case round =>
    obtain ⟨k, g, hk, rfl, hG, hO, hZ, hL, hB⟩ := hrel
    obtain ⟨ag, cg, hsg⟩ := hO.out.shape
    rw [List.length_map] at hsg
    subst hsg
    have hBz := hB.size
    by_cases hlt : k < ps.length
    · have hlt2 : k < ts.length := by rw [← HLN.out]; exact hlt
      obtain ⟨bp, op, ap, cp, hap, lp, np, g0, g1, tp⟩ := hs.get k hlt
      obtain ⟨bt, ot, at', ct, hat, lt', nt, f0, f1, tt⟩ := ht.get k hlt2
      subst hap
      subst hat
      have hi0 : (k : Int) < ps.length := by omega
      have hi1 : (k : Int) < ts.length := by omega
      have HOLD := hide (show ∀ W', Keep (fun b => (Value.slice ag g.length cg).ownBlock ≠ some b) wr W' → ∀ b, b < w.heap.size → W'.heap[b]? = w.heap[b]? from fun W' hW b hb =>
        (hW.block b (by omega) (fun e => by have := (hO.out.lt b e).1; omega)).trans (hB.block b hb))
      have hS : ∀ W', Keep (fun b => (Value.slice ag g.length cg).ownBlock ≠ some b) wr W' → W'.cell? ⟨bp, op + k * 2, none⟩ = some (.int .i64 ps[k].h) ∧ W'.cell? ⟨bp, op + k * 2 + 1, none⟩ = some (.slice ap ps[k].args.length cp) ∧ W'.cell? ⟨bt, ot + k * 2, none⟩ = some (.int .i64 ts[k].h) ∧ W'.cell? ⟨bt, ot + k * 2 + 1, none⟩ = some (.slice at' ts[k].args.length ct) := fun W' hW => by
        have eb := HOLD.out W' hW bp lp
        have et := HOLD.out W' hW bt lt'
        exact ⟨(World.cell?_of_block (a := ⟨bp, op + k * 2, none⟩) eb).trans g0, (World.cell?_of_block (a := ⟨bp, op + k * 2 + 1, none⟩) eb).trans g1, (World.cell?_of_block (a := ⟨bt, ot + k * 2, none⟩) et).trans f0, (World.cell?_of_block (a := ⟨bt, ot + k * 2 + 1, none⟩) et).trans f1⟩
      have HS := hide hS
      have r1 : ts[k].size ≤ 1000000000 := Nat.le_trans (Tm.size_get ts k hlt2) HS2.out
      have r2 : ps[k].good = true := goods_mem HGD.out _ (List.getElem_mem hlt)
      have r4 : g.length + ps[k].size ≤ 1000000000 := by
        have := hL.out
        rw [List.drop_eq_getElem_cons hlt] at this
        simp only [Tm.sizes] at this; omega
      have hstep := gathL_take ps ts k hlt hlt2 g
      rw [hG.out] at hstep
      have HST := hide hstep
      have HR := hide (And.intro r1 (And.intro r2 r4))
      have TP := hide tp
      have TT := hide tt
      clear hS g0 g1 f0 f1 hstep r1 r2 r4 tp tt hG
      go_wp2
      refine cut_cap (fun a0 aN w' => ∃ v' ok, aN = (((((((((((((((a0.put (some 18) (.slice (some ⟨bp, op, none⟩) ps.length c1)).put (some 19) (.int .i64 k)).put (some 20) (.pointer (some ⟨bp, op + k * 2, none⟩))).put (some 21) (.agg #[.int .i64 ps[k].h, .slice ap ps[k].args.length cp])).put (some 22) (.slice (some ⟨bt, ot, none⟩) ts.length c2)).put (some 23) (.int .i64 k)).put (some 24) (.pointer (some ⟨bt, ot + k * 2, none⟩))).put (some 25) (.agg #[.int .i64 ts[k].h, .slice at' ts[k].args.length ct])).put (some 26) (.slice ag g.length cg)).put (some 27) ((.tuple #[v', .bool ok]))).put (some 17) ((.tuple #[v', .bool ok]))).put (some 28) (v')).put (some 29) (.bool ok)).put (some 9) (v')).put (some 10) (.bool ok)) ∧ Keep (fun b => (Value.slice ag g.length cg).ownBlock ≠ some b) wr w' ∧ ((ok = true ∧ ∃ g', gathT ps[k] ts[k] g = some g' ∧ OwnD A w' w.heap.size 60 3 v' (g'.map Bd.d)) ∨ (ok = false ∧ gathT ps[k] ts[k] g = none))) ?_ ?_
      · refine drawn_two (fun W' => W'.cell? ⟨bp, op + k * 2, none⟩ = some (.int .i64 ps[k].h) ∧ W'.cell? ⟨bp, op + k * 2 + 1, none⟩ = some (.slice ap ps[k].args.length cp) ∧ W'.cell? ⟨bt, ot + k * 2, none⟩ = some (.int .i64 ts[k].h) ∧ W'.cell? ⟨bt, ot + k * 2 + 1, none⟩ = some (.slice at' ts[k].args.length ct)) [.take 0, .take 1, .take 2, .take 3, .take 4, .take 5, .take 6, .take 7, .take 8, .one 9, .take 10, .take 11, .take 12, .take 13, .take 14] (by kernel_rfl) (by kernel_rfl) (by kernel_rfl) (by kernel_rfl) (fun _ _ _ _ _ h => h) (HS.out _ ((Keep.refl _ _).drew)) ?_
        iterate 9 (refine p_take (v := ?_) rfl (by rfl) ?_ ?_; rotate_left; (intro w hS; obtain ⟨S0, S1, S2, S3⟩ := hS; go_simp; try with_reducible rfl); simp only [Act.put, List.setIfInBounds_toArray, List.set_cons_zero, List.set_cons_succ])
        refine p_one rfl (by rfl) ?_
        intro K hK
        go_simp
        refine (gath_calls _ A ps[k] ts[k] w.heap.size g _ _ _ _ (.slice ag g.length cg) wr.drew HAO.out (Nat.le_refl _) HR.out.2.1 HR.out.2.2 HR.out.1 hZ.out hBz ⟨rfl, TP.out.frame (fun b hb hlt => HOLD.out _ ((Keep.refl _ _).drew) b hlt) (fun b hlt h => h.elim (fun h => by omega) id)⟩ ⟨rfl, TT.out.frame (fun b hb hlt => HOLD.out _ ((Keep.refl _ _).drew) b hlt) (fun b hlt h => h.elim (fun h => by omega) id)⟩ (hO.out.below ((Below.refl _ _).drew))).mono ?_
        rintro e wn ⟨hkn, v', ok, rfl, hown', hres⟩
        have hkn2 : Keep (fun b => (Value.slice ag g.length cg).ownBlock ≠ some b) wr wn := ((Keep.refl _ wr).drew).trans hkn
        refine hK.out _ _ (HS.out _ hkn2) ?_
        clear hK K
        try simp only [Act.put, List.setIfInBounds_toArray, List.set_cons_zero, List.set_cons_succ]
        iterate 5 (refine p_take (v := ?_) rfl (by rfl) ?_ ?_; rotate_left; (intro w hS; obtain ⟨S0, S1, S2, S3⟩ := hS; go_simp; try with_reducible rfl); simp only [Act.put, List.setIfInBounds_toArray, List.set_cons_zero, List.set_cons_succ])
        refine p_done ⟨v', ok, ?_, hkn2, hres⟩
        try simp only [Act.put, List.setIfInBounds_toArray, List.set_cons_zero, List.set_cons_succ]
        try rfl
      rintro _ W3 ⟨v', ok, rfl, hW3, hres⟩
      simp only [Act.put, List.setIfInBounds_toArray, List.set_cons_zero, List.set_cons_succ]
      have hB3 : Below w.heap.size w W3 := hB.trans (hW3.below (fun b hb e => by have := (hO.out.lt b e).1; omega) hBz)
      have HB3 := hide hB3
      clear hB3 hW3
      cases ok
      · have HN := hide (show gathL ps ts [] = none by
          rcases hres with ⟨h, -⟩ | ⟨-, h⟩
          · cases h
          · rw [HST.out, h])
        clear hres
        go_wp2
        exact bodyPost_ret (v := .tuple #[.slice none 0 0, .bool false]) (by simp [results, Try.results101, go_sem]) rfl ⟨HB3.out, _, _, rfl, .inr ⟨rfl, HN.out⟩⟩
      · obtain ⟨g', hg', hO'⟩ : ∃ g', gathT ps[k] ts[k] g = some g' ∧ OwnD A W3 w.heap.size 60 3 v' (g'.map Bd.d) := by
          rcases hres with ⟨-, h⟩ | ⟨h, -⟩
          · exact h
          · cases h
        have HG3 := hide (show gathL (ps.drop (k + 1)) (ts.drop (k + 1)) g' = gathL ps ts [] by rw [HST.out, hg'])
        have HO3 := hide hO'
        have HZ3 := hide (gathT_sizes ps[k] ts[k] g g' hZ.out HR.out.1 hg')
        have HL3 := hide (show g'.length + Tm.sizes (ps.drop (k + 1)) ≤ 1000000000 by
          have h1 := gathT_length _ _ _ _ hg'
          have h2 := hL.out
          rw [List.drop_eq_getElem_cons hlt] at h2
          simp only [Tm.sizes] at h2; omega)
        obtain ⟨av3, cv3, rfl⟩ := hO'.shape
        have HB4 := HB3.out
        clear hres hg' hO' HST
        go_wp2
        go_roundw
        case rel => exact ⟨k + 1, g', by omega, by go_num, HG3, HO3, HZ3, HL3, HB4⟩
        case measure => simp [intOf]; omega
    · have HG3 := hide (show gathL ps ts [] = some g by rw [← hG.out, List.drop_of_length_le (by omega), gathL])
      have hi0 : ¬ (k : Int) < ps.length := by omega
      have HR := hide (show Binds A wr (.slice ag g.length cg) g from hO.out.rep HAO.out)
      clear hG
      go_wp2
      exact bodyPost_ret (v := .tuple #[.slice ag g.length cg, .bool true]) (by simp [results, Try.results101, go_sem]) rfl (by first | exact ⟨hB, _, _, rfl, .inl ⟨rfl, g, HG3.out, HR.out, hZ.out⟩⟩ | exact ⟨hB, _, .inr ⟨rfl, g, HG3.out, HR.out, hZ.out⟩⟩)
set_option maxHeartbeats 8000000 in
set_option maxRecDepth 100000 in
theorem tidy5_calls (A : Nat → Prop) (ss : List Bd) (sb : Value) (w : World) (hA : ∀ b, A b → b < w.heap.size) (hsb : Binds A w sb ss) :
    Calls Try.prog 102 #[sb] w fun e w' => ∃ v, e = .returned v ∧ Binds A w' v (tidyL ss (upto 256)) ∧ Below w.heap.size w w' := by
  obtain ⟨a1, d1, rfl, hc1, hc1'⟩ := hsb.shape
  have HAO := hide hA
  go_enter Try.func102, Try.ntmps102
  go_wp2
  go_loopw [3, 4] (fun v i wr => ∃ k : Nat, k ≤ 256 ∧ i = .int .i64 k ∧ Below w.heap.size w wr ∧ OwnD A wr w.heap.size 60 3 v ((tidyL ss (upto k)).map Bd.d)) (fun _ i _ => 256 - (intOf i).toNat)
  case atStart => exact ⟨0, by omega, rfl, Below.refl _ _, by simpa [tidyL, upto] using OwnD.nil _ _ _ _ _⟩
  case round =>
    obtain ⟨k, hk, rfl, hB, hO⟩ := hrel
    by_cases hlt : k < 256
    · have hle : (k : Int) ≤ 255 := by omega
      have hk0 : (0 : Int) ≤ k := by omega
      have hw1 : IntKind.i64.wrap (-1 - (k : Int)) = -1 - k := IntWalk.i64_in _ (by omega)
      have HO := hide hO
      have HBS := hide (tidyL_snoc ss k)
      have hol := HO.out.lt
      have hBz := hB.size
      have hssA : Binds (fun b => A b ∨ u3.ownBlock = some b) wr (.slice a1 ss.length d1) ss := RepD.frame (fun b _ hlt => hB.block b hlt) (fun b hb h => by
        rcases h with h | h
        · exact h
        · have := (hol b h).1; omega) _ _ hsb
      clear hO
      go_wp2_with fail
      refine (of3_calls ss k (fun b => A b ∨ u3.ownBlock = some b) _ wr hk0 (by omega) hssA).mono ?_
      rintro e w10 ⟨s10, rfl, t10, h10⟩
      generalize hy : ofBs (k : Int) ss = y at *
      have HY := hide hy
      clear hy
      obtain ⟨a10, c10, rfl, -, -⟩ := t10.shape
      have B10 := hB.trans (h10.mono hB.size)
      have O10 := HO.out.below h10
      clear h10 hB HO hssA
      have kV : (w10.alloc (.cells #[.int .i64 y.h, .slice a10 y.args.length c10] 25)).heap[w10.heap.size]? = some (.cells #[.int .i64 y.h, .slice a10 y.args.length c10] 25 (0, 0)) := World.alloc_heap_new _ _
      have hal : Below w10.heap.size w10 (w10.alloc (.cells #[.int .i64 y.h, .slice a10 y.args.length c10] 25)) := (Below.refl _ _).alloc (Nat.le_refl _) _
      have hsz10 := B10.size
      by_cases hmv : y.h = -1 - (k : Int)
      · have HNM := hide (show tidyL ss (upto (k + 1)) = tidyL ss (upto k) by rw [HBS.out, if_neg (by simpa using hmv), List.append_nil])
        have l1 : y.h ≤ -1 - (k : Int) := by omega
        have l2 : -1 - (k : Int) ≤ y.h := by omega
        have O12 := O10.below hal
        have B12 := B10.trans (hal.mono hsz10)
        have hd : (y.h != -1 - (k : Int)) = false := by simpa using hmv
        clear hmv HBS
        obtain ⟨-, z0, z1, -, -⟩ := box2 kV
        go_wp2
        go_roundw
        case rel => exact ⟨k + 1, by omega, by go_num, B12, by rw [HNM.out]; exact O12⟩
        case measure => simp [intOf]; omega
      · have HNM := hide (show tidyL ss (upto (k + 1)) = tidyL ss (upto k) ++ [⟨(k : Int), y⟩] by rw [HBS.out, if_pos hmv])
        have hal2 : Below w10.heap.size w10 ((w10.alloc (.cells #[.int .i64 y.h, .slice a10 y.args.length c10] 25)).alloc (.cells #[.int .i64 (k : Int), .int .i64 y.h, .slice a10 y.args.length c10] 60)) := hal.alloc hal.size _
        have kb : ((w10.alloc (.cells #[.int .i64 y.h, .slice a10 y.args.length c10] 25)).alloc (.cells #[.int .i64 (k : Int), .int .i64 y.h, .slice a10 y.args.length c10] 60)).heap[w10.heap.size + 1]? = some (.cells #[.int .i64 (k : Int), .int .i64 y.h, .slice a10 y.args.length c10] 60 (0, 0)) := by
          have h := World.alloc_heap_new (w10.alloc (.cells #[.int .i64 y.h, .slice a10 y.args.length c10] 25)) (.cells #[.int .i64 (k : Int), .int .i64 y.h, .slice a10 y.args.length c10] 60)
          rw [World.size_alloc] at h
          exact h
        have O12 := O10.below hal2
        have hlt12 := O10.lt
        have HD := hide (show RepD (fun b => A b ∨ u3.ownBlock = some b) ((w10.alloc (.cells #[.int .i64 y.h, .slice a10 y.args.length c10] 25)).alloc (.cells #[.int .i64 (k : Int), .int .i64 y.h, .slice a10 y.args.length c10] 60)) (.row 3 (([⟨(k : Int), y⟩] : List Bd).map Bd.d)) [.slice (some ⟨w10.heap.size + 1, 0, none⟩) 1 1] from
          binds1 (b1 := ⟨(k : Int), y⟩) kb (fun h => by
            rcases h with h | h
            · have := HAO.out _ h; omega
            · have := hlt12 _ h; omega) (RepD.frame (fun b _ hlt => hal2.block b hlt) (fun b hb h => h) _ _ t10))
        have HO12 := hide O12
        have B12 := B10.trans (hal2.mono hsz10)
        have hbl := tidyL_length ss (upto k)
        rw [upto_length] at hbl
        have hbase : w.heap.size ≤ ((w10.alloc (.cells #[.int .i64 y.h, .slice a10 y.args.length c10] 25)).alloc (.cells #[.int .i64 (k : Int), .int .i64 y.h, .slice a10 y.args.length c10] 60)).heap.size := Nat.le_trans hsz10 hal2.size
        have HBASE := hide hbase
        have hd : (y.h != -1 - (k : Int)) = true := by simpa using hmv
        have HB12 := hide B12
        clear HBS O12 B12 hbase hal hal2 hlt12 kb
        obtain ⟨-, z0, z1, -, -⟩ := box2 kV
        go_wp2_with (at_builtin; refine app_all_pl rfl (.tmp 18) (.tmp 22) 22 rfl w.heap.size 60 (.agg #[.int .i64 0, .int .i64 0, .slice none 0 0]) 3 40 Try.underlying22 (by kernel_rfl) rfl (by decide) (v := u3) (xv := .slice (some ⟨w10.heap.size + 1, 0, none⟩) 1 1) rfl rfl HO12.out HD.out (fun d hd => by obtain ⟨z, -, rfl⟩ := List.mem_map.1 hd; exact Bd.oneD z) (by simp [maxLen]; omega) (by simp; omega) HBASE.out ?_; intro v' w' o' kp ob hsh)
        go_roundw
        case rel =>
          refine ⟨k + 1, by omega, by go_num, HB12.out.trans (kp.below (fun b hb h => by have := (HO12.out.lt b h).1; omega) HBASE.out), ?_⟩
          rw [HNM.out, List.map_append]; exact o'
        case measure => simp [intOf]; omega
    · obtain rfl : k = 256 := by omega
      have hR : Binds A wr u3 (tidyL ss (upto 256)) := hO.rep HAO.out
      obtain ⟨ar, cr, rfl, -, -⟩ := hR.shape
      clear hO hlt hk
      go_wp2
      go_ret
      exact ⟨_, rfl, hR, hB⟩
end Go.Proofs.Ythplndalbfcbbaa
