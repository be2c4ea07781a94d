/- What the proof of the law rests on: contracts of the functions, plain laws, and words. -/
import Derived.Test.YthplndalbfcbbaaKMatchUnifiesG5
set_option linter.unusedSimpArgs false
set_option linter.unusedVariables false
namespace Go.Proofs.Ythplndalbfcbbaa
open Go.RowKit
abbrev Sub := Int → Tm
def varT (v : Int) : Tm := .node (-1 - v) []
mutual
def app (S : Sub) : Tm → Tm
  | .node h l => if h < 0 then S (-1 - h) else .node h (appL S l)
def appL (S : Sub) : List Tm → List Tm
  | [] => []
  | t :: ts => app S t :: appL S ts
end
theorem appL_map (S : Sub) (l : List Tm) : appL S l = l.map (app S) := by induction l <;> simp_all [appL]
theorem appL_length (S : Sub) (l : List Tm) : (appL S l).length = l.length := by rw [appL_map]; simp
theorem app_neg {S : Sub} {t : Tm} (h : t.h < 0) : app S t = S (-1 - t.h) := by cases t; simp only [Tm.h] at h ⊢; simp [app, h]
theorem app_pos {S : Sub} {t : Tm} (h : ¬ t.h < 0) : app S t = .node t.h (appL S t.args) := by cases t; simp only [Tm.h, Tm.args] at h ⊢; rw [app, if_neg h]
theorem app_var (S : Sub) {v : Int} (h : 0 ≤ v) : app S (varT v) = S v := by
  rw [app_neg (by simp only [varT, Tm.h]; omega)]; congr 1; simp only [varT, Tm.h]; omega
mutual
theorem app_put (bs : List Bd) : ∀ t : Tm, putT bs t = app (fun v => ofBs v bs) t
  | .node h l => by
    simp only [putT, app]
    split
    · rfl
    · rw [appL_put bs l]
theorem appL_put (bs : List Bd) : ∀ l : List Tm, putL bs l = appL (fun v => ofBs v bs) l
  | [] => rfl
  | t :: ts => by simp only [putL, appL, app_put bs t, appL_put bs ts]
end
def occ (v : Int) (t : Tm) : Prop := 0 ≤ v ∧ (-1 - v) ∈ t.heads
theorem mem_headsL {l : List Tm} {h : Int} : h ∈ Tm.headsL l ↔ ∃ t, t ∈ l ∧ h ∈ t.heads := Tm.headsL_mem l h
theorem occ_iff {v : Int} {t : Tm} : occ v t ↔ v ∈ varsT t := by
  rw [mem_varsT]
  constructor
  · rintro ⟨h0, h⟩; exact ⟨_, h, by omega, by omega⟩
  · rintro ⟨x, h, h0, rfl⟩; exact ⟨by omega, by rw [show -1 - (-1 - x) = x by omega]; exact h⟩
theorem occ_var {v u : Int} (hu : 0 ≤ u) : occ v (varT u) ↔ v = u := by
  simp only [occ, varT, Tm.heads, Tm.headsL, List.mem_singleton]
  constructor
  · rintro ⟨_, h⟩; omega
  · rintro rfl; exact ⟨hu, rfl⟩
theorem occ_args {v : Int} {t : Tm} (h : ¬ t.h < 0) : occ v t ↔ ∃ c, c ∈ t.args ∧ occ v c := by
  cases t with
  | node x l =>
    simp only [Tm.h, Tm.args] at h ⊢
    simp only [occ, Tm.heads, List.mem_cons, mem_headsL]
    constructor
    · rintro ⟨h0, h1 | ⟨c, hc, h1⟩⟩
      · omega
      · exact ⟨c, hc, h0, h1⟩
    · rintro ⟨c, hc, h0, h1⟩; exact ⟨h0, .inr ⟨c, hc, h1⟩⟩
mutual
theorem app_congr {S S' : Sub} : ∀ t : Tm, (∀ v, occ v t → S v = S' v) → app S t = app S' t
  | .node h l, hs => by
    simp only [app]
    split
    · rename_i hn
      exact hs _ ⟨by omega, by simp only [Tm.heads]; rw [show -1 - (-1 - h) = h by omega]; exact List.mem_cons_self⟩
    · rename_i hn
      rw [appL_congr l fun c hc v hv => hs v ((occ_args (t := .node h l) hn).2 ⟨c, hc, hv⟩)]
theorem appL_congr {S S' : Sub} : ∀ l : List Tm, (∀ c, c ∈ l → ∀ v, occ v c → S v = S' v) → appL S l = appL S' l
  | [], _ => rfl
  | t :: ts, hs => by
    simp only [appL]
    rw [app_congr t (hs t (by simp)), appL_congr ts fun c hc => hs c (by simp [hc])]
end
mutual
theorem app_comp (τ S : Sub) : ∀ t : Tm, app τ (app S t) = app (fun v => app τ (S v)) t
  | .node h l => by
    simp only [app]
    split
    · rfl
    · rename_i hn
      rw [app_pos (t := .node h (appL S l)) hn]
      simp only [Tm.h, Tm.args, appL_comp τ S l]
theorem appL_comp (τ S : Sub) : ∀ l : List Tm, appL τ (appL S l) = appL (fun v => app τ (S v)) l
  | [] => rfl
  | t :: ts => by simp only [appL, app_comp τ S t, appL_comp τ S ts]
end
mutual
theorem app_id : ∀ t : Tm, t.good = true → app varT t = t
  | .node h l, hg => by
    simp only [app]
    split
    · rename_i hn
      rw [good_var hg hn]
      simp only [varT]; congr 1; omega
    · simp only [Tm.good, Bool.and_eq_true] at hg
      rw [appL_id l hg.2]
theorem appL_id : ∀ l : List Tm, Tm.goods l = true → appL varT l = l
  | [], _ => rfl
  | t :: ts, hg => by
    simp only [Tm.goods, Bool.and_eq_true] at hg
    simp only [appL, app_id t hg.1, appL_id ts hg.2]
end
theorem goods_mem {l : List Tm} (h : Tm.goods l = true) : ∀ t, t ∈ l → t.good = true := by
  induction l with
  | nil => simp
  | cons t ts ih =>
    simp only [Tm.goods, Bool.and_eq_true] at h
    intro u hu
    rcases List.mem_cons.1 hu with rfl | hu
    · exact h.1
    · exact ih h.2 u hu
theorem goods_of_mem {l : List Tm} (h : ∀ t, t ∈ l → t.good = true) : Tm.goods l = true := by
  induction l with
  | nil => rfl
  | cons t ts ih => simp only [Tm.goods, Bool.and_eq_true]; exact ⟨h t (by simp), ih fun u hu => h u (by simp [hu])⟩
theorem goodsOf {t : Tm} (h : t.good = true) : Tm.goods t.args = true := by rw [Tm.good_eq, Bool.and_eq_true] at h; exact h.2
theorem occ_range {t : Tm} (hg : t.good = true) {v : Int} (h : occ v t) : 0 ≤ v ∧ v ≤ 255 := by
  have := good_heads t hg _ h.2
  exact ⟨h.1, by omega⟩
theorem good_varT {v : Int} (h0 : 0 ≤ v) (h1 : v ≤ 255) : (varT v).good = true := node_var_good h0 h1
theorem good_is_var {t : Tm} (hg : t.good = true) (h : t.h < 0) : t = varT (-1 - t.h) := by
  cases t with
  | node x l =>
    simp only [Tm.h] at h ⊢
    rw [good_var hg h]
    simp only [varT]; congr 1; omega
mutual
theorem app_good {S : Sub} : ∀ t : Tm, t.good = true → (∀ v, occ v t → (S v).good = true) → (app S t).good = true
  | .node h l, hg, hs => by
    simp only [app]
    split
    · rename_i hn
      exact hs _ ⟨by omega, by simp only [Tm.heads]; rw [show -1 - (-1 - h) = h by omega]; exact List.mem_cons_self⟩
    · rename_i hn
      have hk := good_ok hg
      simp only [Tm.good, Bool.and_eq_true] at hg ⊢
      refine ⟨?_, appL_good l hg.2 fun c hc v hv => hs v ((occ_args (t := .node h l) hn).2 ⟨c, hc, hv⟩)⟩
      cases hb : okP (.node h (appL S l)) with
      | true => rfl
      | false =>
        rw [okP_iff] at hb
        simp only [Tm.h, Tm.args, appL_length] at hb
        exact absurd hb hk
theorem appL_good {S : Sub} : ∀ l : List Tm, Tm.goods l = true → (∀ c, c ∈ l → ∀ v, occ v c → (S v).good = true) → Tm.goods (appL S l) = true
  | [], _, _ => rfl
  | t :: ts, hg, hs => by
    simp only [Tm.goods, Bool.and_eq_true] at hg
    simp only [appL, Tm.goods, Bool.and_eq_true]
    exact ⟨app_good t hg.1 (hs t (by simp)), appL_good ts hg.2 fun c hc => hs c (by simp [hc])⟩
end
mutual
theorem occ_app {S : Sub} {u : Int} : ∀ t : Tm, t.good = true → (occ u (app S t) ↔ ∃ v, occ v t ∧ occ u (S v))
  | .node h l, hg => by
    simp only [app]
    split
    · rename_i hn
      have := good_var hg hn
      subst this
      constructor
      · intro hu
        exact ⟨-1 - h, ⟨by omega, by simp only [Tm.heads]; rw [show -1 - (-1 - h) = h by omega]; exact List.mem_cons_self⟩, hu⟩
      · rintro ⟨v, ⟨h0, hv⟩, hu⟩
        simp only [Tm.heads, Tm.headsL, List.mem_singleton] at hv
        rw [show -1 - h = v by omega]; exact hu
    · rename_i hn
      rw [occ_args (t := .node h (appL S l)) hn]
      simp only [Tm.args]
      rw [occ_appL l (goodsOf hg)]
      constructor
      · rintro ⟨c, hc, v, hv, hu⟩; exact ⟨v, (occ_args (t := .node h l) hn).2 ⟨c, hc, hv⟩, hu⟩
      · rintro ⟨v, hv, hu⟩
        obtain ⟨c, hc, hv⟩ := (occ_args (t := .node h l) hn).1 hv
        exact ⟨c, hc, v, hv, hu⟩
theorem occ_appL {S : Sub} {u : Int} : ∀ l : List Tm, Tm.goods l = true → ((∃ c, c ∈ appL S l ∧ occ u c) ↔ ∃ c, c ∈ l ∧ ∃ v, occ v c ∧ occ u (S v))
  | [], _ => by simp [appL]
  | t :: ts, hg => by
    simp only [Tm.goods, Bool.and_eq_true] at hg
    simp only [appL, List.mem_cons, exists_eq_or_imp, occ_app t hg.1, occ_appL ts hg.2]
end
mutual
theorem app_fix {S : Sub} : ∀ t : Tm, t.good = true → app S t = t → ∀ u, occ u t → S u = varT u
  | .node h l, hg, he, u, hu => by
    simp only [app] at he
    split at he
    · rename_i hn
      have := good_var hg hn
      subst this
      simp only [occ, Tm.heads, Tm.headsL, List.mem_singleton] at hu
      have e : u = -1 - h := by omega
      rw [e, he, varT]; congr 1; omega
    · rename_i hn
      simp only [Tm.node.injEq, true_and] at he
      obtain ⟨c, hc, hv⟩ := (occ_args (t := .node h l) hn).1 hu
      exact appL_fix l (goodsOf hg) he c hc u hv
theorem appL_fix {S : Sub} : ∀ l : List Tm, Tm.goods l = true → appL S l = l → ∀ c, c ∈ l → ∀ u, occ u c → S u = varT u
  | [], _, _, c, hc, _, _ => by simp at hc
  | t :: ts, hg, he, c, hc, u, hu => by
    simp only [Tm.goods, Bool.and_eq_true] at hg
    simp only [appL, List.cons.injEq] at he
    rcases List.mem_cons.1 hc with e | hc
    · exact app_fix t hg.1 he.1 u (e ▸ hu)
    · exact appL_fix ts hg.2 he.2 c hc u hu
end
mutual
theorem occ_size {S : Sub} {u : Int} : ∀ t : Tm, t.good = true → occ u t → (S u).size ≤ (app S t).size ∧ (¬ t.h < 0 → (S u).size < (app S t).size)
  | .node h l, hg, hu => by
    simp only [app]
    split
    · rename_i hn
      have := good_var hg hn
      subst this
      simp only [occ, Tm.heads, Tm.headsL, List.mem_singleton] at hu
      have e : u = -1 - h := by omega
      rw [e]
      exact ⟨Nat.le_refl _, fun hc => absurd hn hc⟩
    · rename_i hn
      obtain ⟨c, hc, hv⟩ := (occ_args (t := .node h l) hn).1 hu
      have := occ_sizes (S := S) l (goodsOf hg) c hc hv
      simp only [Tm.size]
      exact ⟨by omega, fun _ => by omega⟩
theorem occ_sizes {S : Sub} {u : Int} : ∀ l : List Tm, Tm.goods l = true → ∀ c, c ∈ l → occ u c → (S u).size ≤ Tm.sizes (appL S l)
  | [], _, c, hc, _ => by simp at hc
  | t :: ts, hg, c, hc, hu => by
    simp only [Tm.goods, Bool.and_eq_true] at hg
    simp only [appL, Tm.sizes]
    rcases List.mem_cons.1 hc with e | hc
    · have := (occ_size (S := S) t hg.1 (e ▸ hu)).1; omega
    · have := occ_sizes (S := S) ts hg.2 c hc hu; omega
end
abbrev Pairs := List (Tm × Tm)
def Sol (τ : Sub) (L : Pairs) : Prop := ∀ p, p ∈ L → app τ p.1 = app τ p.2
def Resp (τ : Sub) (f : Env) : Prop := ∀ v t, f v = some t → τ v = app τ t
structure Solved (f : Env) (S : Sub) : Prop where
  fix : ∀ v t, f v = some t → S v = app S t
  free : ∀ v, f v = none → S v = varT v
  low : ∀ v t, f v = some t → t.h < 0 → -1 - t.h < v
  rng : ∀ v t, f v = some t → 0 ≤ v ∧ v ≤ 255 ∧ t.good = true
  idem : ∀ v u, 0 ≤ v → v ≤ 255 → occ u (S v) → f u = none
  good : ∀ v, 0 ≤ v → v ≤ 255 → (S v).good = true
def rankU (S : Sub) (v : Int) : Nat := (S v).size * 256 + v.toNat
theorem rank_step {f : Env} {S : Sub} (h : Solved f S) {v u : Int} {t : Tm} (hf : f v = some t) (hu : occ u t) : rankU S u < rankU S v := by
  obtain ⟨h0, h1, hg⟩ := h.rng v t hf
  have hr := occ_range hg hu
  have hs := occ_size (S := S) t hg hu
  rw [← h.fix v t hf] at hs
  unfold rankU
  by_cases hn : t.h < 0
  · have := h.low v t hf hn
    have e := good_is_var hg hn
    rw [e, occ_var (by omega)] at hu
    have := hs.1
    omega
  · have := hs.2 hn
    omega
theorem rank_ind {f : Env} {S : Sub} (h : Solved f S) {Q : Int → Prop} (step : ∀ v, (∀ t, f v = some t → ∀ u, occ u t → Q u) → Q v) : ∀ v, Q v := by
  suffices H : ∀ n v, rankU S v < n → Q v from fun v => H _ v (Nat.lt_succ_self _)
  intro n
  induction n with
  | zero => intro v hv; omega
  | succ n ih =>
    intro v hv
    exact step v fun t hf u hu => ih u (by have := rank_step h hf hu; omega)
theorem resp_iff {f : Env} {S : Sub} (h : Solved f S) (τ : Sub) : Resp τ f ↔ ∀ v, 0 ≤ v → τ v = app τ (S v) := by
  constructor
  · intro hr
    refine rank_ind h fun v ih h0 => ?_
    cases hf : f v with
    | none => rw [h.free v hf, app_var τ h0]
    | some t =>
      rw [h.fix v t hf, app_comp, hr v t hf]
      exact app_congr t fun u hu => ih t hf u hu hu.1
  · intro hr v t hf
    have := h.rng v t hf
    rw [hr v this.1, h.fix v t hf, app_comp]
    exact (app_congr t fun u hu => hr u hu.1).symm
def UState (L0 : Pairs) (f : Env) (L : Pairs) : Prop := ∀ τ, Sol τ L0 ↔ Sol τ L ∧ Resp τ f
theorem ustate_start (L0 : Pairs) : UState L0 noE L0 := fun τ => ⟨fun h => ⟨h, fun v t h => by cases h⟩, fun h => h.1⟩
theorem sol_cons {τ : Sub} {p : Tm × Tm} {L : Pairs} : Sol τ (p :: L) ↔ app τ p.1 = app τ p.2 ∧ Sol τ L := by simp [Sol]
theorem sol_append {τ : Sub} {L M : Pairs} : Sol τ (L ++ M) ↔ Sol τ L ∧ Sol τ M := by
  simp only [Sol, List.mem_append]
  exact ⟨fun h => ⟨fun p hp => h p (.inl hp), fun p hp => h p (.inr hp)⟩, fun h p hp => hp.elim (h.1 p) (h.2 p)⟩
theorem solved_start : Solved noE varT where
  fix := fun v t h => by cases h
  free := fun v _ => rfl
  low := fun v t h => by cases h
  rng := fun v t h => by cases h
  idem := fun v u _ _ _ => rfl
  good := fun v h0 h1 => good_varT h0 h1
theorem solved_idem {f : Env} {S : Sub} (h : Solved f S) {v : Int} (h0 : 0 ≤ v) (h1 : v ≤ 255) : app S (S v) = S v := by
  conv => rhs; rw [← app_id (S v) (h.good v h0 h1)]
  exact app_congr _ fun u hu => h.free u (h.idem v u h0 h1 hu)
theorem solved_out {f : Env} {S : Sub} (h : Solved f S) {v : Int} (hv : v < 0 ∨ 255 < v) : S v = varT v := by
  refine h.free v ?_
  cases hf : f v with
  | none => rfl
  | some t => have := h.rng v t hf; omega
inductive Leads (f : Env) : Tm → Tm → Prop
  | refl (t) : Leads f t t
  | step {t u r} : t.h < 0 → f (-1 - t.h) = some u → Leads f u r → Leads f t r
theorem Leads.snoc {f : Env} {a b c : Tm} (h : Leads f a b) (hn : b.h < 0) (hf : f (-1 - b.h) = some c) : Leads f a c := by
  induction h with
  | refl t => exact .step hn hf (.refl _)
  | step h1 h2 _ ih => exact .step h1 h2 (ih hn hf)
theorem leads_app {f : Env} {τ : Sub} (h : Resp τ f) {a b : Tm} (hl : Leads f a b) : app τ a = app τ b := by
  induction hl with
  | refl t => rfl
  | step h1 h2 _ ih => rw [app_neg h1, h _ _ h2, ih]
theorem solved_resp {f : Env} {S : Sub} (h : Solved f S) : Resp S f := fun v t hf => h.fix v t hf
theorem Leads.mono {f g : Env} (hfg : ∀ v t, f v = some t → g v = some t) {a b : Tm} (h : Leads f a b) : Leads g a b := by
  induction h with
  | refl t => exact .refl t
  | step h1 h2 _ ih => exact .step h1 (hfg _ _ h2) ih
theorem ustate_leads {L0 L : Pairs} {f : Env} {a b x y : Tm} (h : UState L0 f ((a, b) :: L)) (hx : Leads f a x) (hy : Leads f b y) : UState L0 f ((x, y) :: L) := by
  intro τ
  rw [h τ, sol_cons, sol_cons]
  constructor
  · rintro ⟨⟨h1, h2⟩, h3⟩; exact ⟨⟨by rw [← leads_app h3 hx, ← leads_app h3 hy]; exact h1, h2⟩, h3⟩
  · rintro ⟨⟨h1, h2⟩, h3⟩; exact ⟨⟨by show app τ a = app τ b; rw [leads_app h3 hx, leads_app h3 hy]; exact h1, h2⟩, h3⟩
theorem ustate_swap {L0 L : Pairs} {f : Env} {x y : Tm} (h : UState L0 f ((x, y) :: L)) : UState L0 f ((y, x) :: L) := by
  intro τ
  rw [h τ, sol_cons, sol_cons]
  exact ⟨fun h => ⟨⟨h.1.1.symm, h.1.2⟩, h.2⟩, fun h => ⟨⟨h.1.1.symm, h.1.2⟩, h.2⟩⟩
theorem ustate_skip {L0 L : Pairs} {f : Env} {S : Sub} {x y : Tm} (hS : Solved f S) (h : UState L0 f ((x, y) :: L)) (he : app S x = app S y) : UState L0 f L := by
  intro τ
  rw [h τ, sol_cons]
  refine ⟨fun h => ⟨h.1.2, h.2⟩, fun h => ⟨⟨?_, h.1⟩, h.2⟩⟩
  have hr := (resp_iff hS τ).1 h.2
  have hh : ∀ t : Tm, app τ t = app τ (app S t) := fun t => by rw [app_comp]; exact app_congr t fun u hu => hr u hu.1
  show app τ x = app τ y
  rw [hh x, hh y, he]
def oneS (v : Int) (b : Tm) : Sub := fun w => if w = v then b else varT w
theorem solved_bind {f : Env} {S : Sub} (h : Solved f S) {v : Int} {y : Tm} (h0 : 0 ≤ v) (h1 : v ≤ 255) (hf : f v = none) (hy : y.good = true) (hlow : y.h < 0 → -1 - y.h < v) (hocc : ¬ occ v (app S y)) :
    Solved (upd f v y) (fun w => app (oneS v (app S y)) (S w)) := by
  have hSg : ∀ u, occ u y → (S u).good = true := fun u hu => by have := occ_range hy hu; exact h.good u this.1 this.2
  have hbg : (app S y).good = true := app_good y hy hSg
  have hone : app (oneS v (app S y)) (app S y) = app S y := by
    conv => rhs; rw [← app_id (app S y) hbg]
    refine app_congr _ fun u hu => ?_
    have hne : u ≠ v := fun e => hocc (e ▸ hu)
    unfold oneS
    rw [if_neg hne]
  refine ⟨fun w t hw => ?_, fun w hw => ?_, fun w t hw hn => ?_, fun w t hw => ?_, fun w u hw0 hw1 hu => ?_, fun w hw0 hw1 => ?_⟩
  · by_cases e : w = v
    · subst e
      simp only [upd, if_true, Option.some.injEq] at hw
      subst hw
      show app _ (S w) = app _ y
      rw [h.free w hf, app_var _ h0, ← app_comp, hone]
      simp [oneS]
    · simp only [upd, if_neg e] at hw
      show app _ (S w) = app _ t
      rw [h.fix w t hw, ← app_comp]
  · by_cases e : w = v
    · subst e; simp [upd] at hw
    · simp only [upd, if_neg e] at hw
      show app _ (S w) = _
      rw [h.free w hw]
      by_cases hw0 : 0 ≤ w
      · rw [app_var _ hw0, oneS, if_neg e]
      · rw [app_pos (by simp only [varT, Tm.h]; omega)]; rfl
  · by_cases e : w = v
    · subst e
      simp only [upd, if_true, Option.some.injEq] at hw
      subst hw
      exact hlow hn
    · simp only [upd, if_neg e] at hw
      exact h.low w t hw hn
  · by_cases e : w = v
    · subst e
      simp only [upd, if_true, Option.some.injEq] at hw
      subst hw
      exact ⟨h0, h1, hy⟩
    · simp only [upd, if_neg e] at hw
      exact h.rng w t hw
  · rw [occ_app _ (h.good w hw0 hw1)] at hu
    obtain ⟨z, hz, hu⟩ := hu
    by_cases e : z = v
    · subst e
      simp only [oneS, if_true] at hu
      have hne : u ≠ z := fun e => hocc (e ▸ hu)
      simp only [upd, if_neg hne]
      obtain ⟨x, hx, hux⟩ := (occ_app y hy).1 hu
      have := occ_range hy hx
      exact h.idem x u this.1 this.2 hux
    · simp only [oneS, if_neg e] at hu
      rw [occ_var hz.1] at hu
      subst hu
      simp only [upd, if_neg e]
      exact h.idem w u hw0 hw1 hz
  · refine app_good _ (h.good w hw0 hw1) fun u hu => ?_
    unfold oneS
    split
    · exact hbg
    · have := occ_range (h.good w hw0 hw1) hu
      exact good_varT this.1 this.2
theorem ustate_bind {L0 L : Pairs} {f : Env} {x y : Tm} (h : UState L0 f ((x, y) :: L)) (hx : x.h < 0) (hf : f (-1 - x.h) = none) : UState L0 (upd f (-1 - x.h) y) L := by
  intro τ
  rw [h τ, sol_cons]
  constructor
  · rintro ⟨⟨h1, h2⟩, h3⟩
    refine ⟨h2, fun w t hw => ?_⟩
    by_cases e : w = -1 - x.h
    · subst e
      simp only [upd, if_true, Option.some.injEq] at hw
      subst hw
      have h1' : app τ x = app τ y := h1
      rw [app_neg hx] at h1'
      exact h1'
    · simp only [upd, if_neg e] at hw
      exact h3 w t hw
  · rintro ⟨h2, h3⟩
    refine ⟨⟨?_, h2⟩, fun w t hw => h3 w t ?_⟩
    · show app τ x = app τ y
      rw [app_neg hx]; exact h3 _ _ (by simp [upd])
    · have : w ≠ -1 - x.h := fun e => by rw [e, hf] at hw; cases hw
      simp only [upd, if_neg this]; exact hw
theorem ustate_occ {L0 L : Pairs} {f : Env} {S : Sub} {x y : Tm} (hS : Solved f S) (h : UState L0 f ((x, y) :: L)) (hx : x.h < 0) (hg : y.good = true) (hyf : y.h < 0 → f (-1 - y.h) = none) (hne : x.h ≠ y.h) (hocc : occ (-1 - x.h) (app S y)) : ∀ τ, ¬ Sol τ L0 := by
  intro τ hτ
  have hh := (h τ).1 hτ
  rw [sol_cons] at hh
  obtain ⟨⟨h1, _⟩, h3⟩ := hh
  have hr := (resp_iff hS τ).1 h3
  have h2 : app τ y = app τ (app S y) := by rw [app_comp]; exact app_congr y fun u hu => hr u hu.1
  by_cases hn : y.h < 0
  · rw [app_neg hn, hS.free _ (hyf hn), occ_var (by omega)] at hocc
    omega
  · have hgS : (app S y).good = true := app_good y hg fun u hu => by have := occ_range hg hu; exact hS.good u this.1 this.2
    have := (occ_size (S := τ) _ hgS hocc).2 (by rw [app_pos hn]; exact hn)
    have h1' : app τ x = app τ y := h1
    rw [app_neg hx, h2] at h1'
    rw [← h1'] at this
    exact Nat.lt_irrefl _ this
theorem ustate_clash {L0 L : Pairs} {f : Env} {x y : Tm} (h : UState L0 f ((x, y) :: L)) (hx : ¬ x.h < 0) (hy : ¬ y.h < 0) (hne : ¬ (x.h = y.h ∧ x.args.length = y.args.length)) : ∀ τ, ¬ Sol τ L0 := by
  intro τ hτ
  have hh := (h τ).1 hτ
  rw [sol_cons] at hh
  have h1 : app τ x = app τ y := hh.1.1
  rw [app_pos hx, app_pos hy, Tm.node.injEq] at h1
  have h2 := congrArg List.length h1.2
  rw [appL_length, appL_length] at h2
  exact hne ⟨h1.1, h2⟩
theorem sol_zip {τ : Sub} : ∀ {a b : List Tm}, a.length = b.length → (Sol τ (a.zip b) ↔ appL τ a = appL τ b)
  | [], [], _ => by simp [Sol, appL]
  | [], _ :: _, h => by simp at h
  | _ :: _, [], h => by simp at h
  | x :: a, y :: b, h => by
    rw [List.zip_cons_cons, sol_cons, sol_zip (by simpa using h)]
    simp [appL]
theorem ustate_args {L0 L : Pairs} {f : Env} {x y : Tm} (h : UState L0 f ((x, y) :: L)) (hx : ¬ x.h < 0) (hh : x.h = y.h) (hn : x.args.length = y.args.length) : UState L0 f (x.args.zip y.args ++ L) := by
  intro τ
  rw [h τ, sol_cons, sol_append, sol_zip hn]
  have e : app τ x = app τ y ↔ appL τ x.args = appL τ y.args := by
    rw [app_pos hx, app_pos (t := y) (by omega), Tm.node.injEq, hh]
    simp
  simp only [e]
structure Mgu (L0 : Pairs) (S : Sub) : Prop where
  most : ∀ τ, Sol τ L0 ↔ ∀ v, 0 ≤ v → τ v = app τ (S v)
  idem : ∀ v, 0 ≤ v → app S (S v) = S v
  low : ∀ v, 0 ≤ v → (S v).h < 0 → -1 - (S v).h ≤ v
  good : ∀ v, 0 ≤ v → v ≤ 255 → (S v).good = true
  out : ∀ v, 255 < v → S v = varT v
theorem solved_low {f : Env} {S : Sub} (h : Solved f S) : ∀ v, (S v).h < 0 → -1 - (S v).h ≤ v := by
  refine rank_ind h fun v ih hn => ?_
  cases hf : f v with
  | none => rw [h.free v hf]; simp only [varT, Tm.h]; omega
  | some t =>
    have hr := h.rng v t hf
    rw [h.fix v t hf] at hn ⊢
    by_cases ht : t.h < 0
    · rw [app_neg ht] at hn ⊢
      have hu : occ (-1 - t.h) t := ⟨by omega, by rw [show -1 - (-1 - t.h) = t.h by omega, Tm.heads_eq]; exact List.mem_cons_self⟩
      have := ih t hf _ hu hn
      have := h.low v t hf ht
      omega
    · rw [app_pos ht] at hn
      exact absurd hn ht
theorem mgu_of {L0 : Pairs} {f : Env} {S : Sub} (hS : Solved f S) (h : UState L0 f []) : Mgu L0 S where
  most := fun τ => by rw [h τ, ← resp_iff hS τ]; simp [Sol]
  idem := fun v h0 => by
    by_cases h1 : v ≤ 255
    · exact solved_idem hS h0 h1
    · rw [solved_out hS (.inr (by omega)), app_var S h0, solved_out hS (.inr (by omega))]
  low := fun v _ => solved_low hS v
  good := hS.good
  out := fun v hv => solved_out hS (.inr hv)
theorem Mgu.sol {L0 : Pairs} {S : Sub} (h : Mgu L0 S) : Sol S L0 := (h.most S).2 fun v h0 => (h.idem v h0).symm
theorem good_of_mgu {L0 : Pairs} {S : Sub} (h : Mgu L0 S) {v : Int} (h0 : 0 ≤ v) {u : Int} (hu : occ u (S v)) : S u = varT u := by
  by_cases h1 : v ≤ 255
  · exact app_fix (S v) (h.good v h0 h1) (h.idem v h0) u hu
  · rw [h.out v (by omega), occ_var h0] at hu
    subst hu
    exact h.out u (by omega)
theorem var_of_app {S : Sub} {t : Tm} {u : Int} (h0 : 0 ≤ u) (h : app S t = varT u) : t.h < 0 := by
  by_cases hn : t.h < 0
  · exact hn
  · rw [app_pos hn, varT, Tm.node.injEq] at h; omega
theorem mgu_unique {L0 : Pairs} {S1 S2 : Sub} (h1 : Mgu L0 S1) (h2 : Mgu L0 S2) : ∀ v, 0 ≤ v → S1 v = S2 v := by
  have e1 : ∀ v, 0 ≤ v → S1 v = app S1 (S2 v) := (h2.most S1).1 h1.sol
  have e2 : ∀ v, 0 ≤ v → S2 v = app S2 (S1 v) := (h1.most S2).1 h2.sol
  intro v h0
  rw [e1 v h0]
  have key : ∀ u, occ u (S2 v) → S1 u = varT u := fun u hu => by
    have hu0 := hu.1
    have a1 := good_of_mgu h2 h0 hu
    have a2 := e2 u hu0
    rw [a1] at a2
    have hn := var_of_app hu0 a2.symm
    have l1 := h1.low u hu0 hn
    rw [app_neg hn] at a2
    have hn2 : (S2 (-1 - (S1 u).h)).h < 0 := by rw [← a2]; show -1 - u < 0; omega
    have l2 := h2.low (-1 - (S1 u).h) (by omega) hn2
    rw [← a2] at l2
    have l2' : -1 - (-1 - u) ≤ -1 - (S1 u).h := l2
    have hh : -1 - (S1 u).h = u := by omega
    by_cases hu1 : u ≤ 255
    · have := good_is_var (h1.good u hu0 hu1) hn
      rw [this, hh]
    · exact h1.out u (by omega)
  by_cases h255 : v ≤ 255
  · conv => rhs; rw [← app_id (S2 v) (h2.good v h0 h255)]
    exact app_congr _ key
  · rw [h2.out v (by omega), app_var S1 h0, h1.out v (by omega)]
end Go.Proofs.Ythplndalbfcbbaa
