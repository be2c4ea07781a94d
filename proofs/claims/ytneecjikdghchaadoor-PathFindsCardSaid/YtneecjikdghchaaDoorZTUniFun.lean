/- Unifying as a function, and that it finds the unifier: plain Lean. -/
import Derived.Test.YtneecjikdghchaaDoorZTMatch
import Derived.Test.YtneecjikdghchaaDoorParts
set_option linter.unusedSimpArgs false
set_option linter.unusedVariables false
namespace Go.Proofs.YtneecjikdghchaaDoor
section
open Go.RowKit

abbrev Sub := Int → Tm
def varT (v : Int) : Tm := .node (-1 - v) []
mutual
def app (S : Sub) : Tm → Tm
  | .node h l => if h < 0 then S (-1 - h) else .node h (appL S l)
def appL (S : Sub) : List Tm → List Tm
  | [] => []
  | t :: ts => app S t :: appL S ts
end
theorem appL_map (S : Sub) (l : List Tm) : appL S l = l.map (app S) := by induction l <;> simp_all [appL]
theorem appL_length (S : Sub) (l : List Tm) : (appL S l).length = l.length := by rw [appL_map]; simp
theorem app_neg {S : Sub} {t : Tm} (h : t.h < 0) : app S t = S (-1 - t.h) := by cases t; simp only [Tm.h] at h ⊢; simp [app, h]
theorem app_pos {S : Sub} {t : Tm} (h : ¬ t.h < 0) : app S t = .node t.h (appL S t.args) := by cases t; simp only [Tm.h, Tm.args] at h ⊢; rw [app, if_neg h]
theorem app_var (S : Sub) {v : Int} (h : 0 ≤ v) : app S (varT v) = S v := by
  rw [app_neg (by simp only [varT, Tm.h]; omega)]; congr 1; simp only [varT, Tm.h]; omega
/-- A variable of a term. -/
def occ (v : Int) (t : Tm) : Prop := 0 ≤ v ∧ (-1 - v) ∈ t.heads
theorem mem_headsL {l : List Tm} {h : Int} : h ∈ Tm.headsL l ↔ ∃ t, t ∈ l ∧ h ∈ t.heads := Tm.headsL_mem l h
theorem occ_iff {v : Int} {t : Tm} : occ v t ↔ v ∈ varsT t := by
  rw [mem_varsT]
  constructor
  · rintro ⟨h0, h⟩; exact ⟨_, h, by omega, by omega⟩
  · rintro ⟨x, h, h0, rfl⟩; exact ⟨by omega, by rw [show -1 - (-1 - x) = x by omega]; exact h⟩
theorem occ_var {v u : Int} (hu : 0 ≤ u) : occ v (varT u) ↔ v = u := by
  simp only [occ, varT, Tm.heads, Tm.headsL, List.mem_singleton]
  constructor
  · rintro ⟨_, h⟩; omega
  · rintro rfl; exact ⟨hu, rfl⟩
theorem occ_args {v : Int} {t : Tm} (h : ¬ t.h < 0) : occ v t ↔ ∃ c, c ∈ t.args ∧ occ v c := by
  cases t with
  | node x l =>
    simp only [Tm.h, Tm.args] at h ⊢
    simp only [occ, Tm.heads, List.mem_cons, mem_headsL]
    constructor
    · rintro ⟨h0, h1 | ⟨c, hc, h1⟩⟩
      · omega
      · exact ⟨c, hc, h0, h1⟩
    · rintro ⟨c, hc, h0, h1⟩; exact ⟨h0, .inr ⟨c, hc, h1⟩⟩
mutual
theorem app_congr {S S' : Sub} : ∀ t : Tm, (∀ v, occ v t → S v = S' v) → app S t = app S' t
  | .node h l, hs => by
    simp only [app]
    split
    · rename_i hn
      exact hs _ ⟨by omega, by simp only [Tm.heads]; rw [show -1 - (-1 - h) = h by omega]; exact List.mem_cons_self⟩
    · rename_i hn
      rw [appL_congr l fun c hc v hv => hs v ((occ_args (t := .node h l) hn).2 ⟨c, hc, hv⟩)]
theorem appL_congr {S S' : Sub} : ∀ l : List Tm, (∀ c, c ∈ l → ∀ v, occ v c → S v = S' v) → appL S l = appL S' l
  | [], _ => rfl
  | t :: ts, hs => by
    simp only [appL]
    rw [app_congr t (hs t (by simp)), appL_congr ts fun c hc => hs c (by simp [hc])]
end
mutual
theorem app_comp (τ S : Sub) : ∀ t : Tm, app τ (app S t) = app (fun v => app τ (S v)) t
  | .node h l => by
    simp only [app]
    split
    · rfl
    · rename_i hn
      rw [app_pos (t := .node h (appL S l)) hn]
      simp only [Tm.h, Tm.args, appL_comp τ S l]
theorem appL_comp (τ S : Sub) : ∀ l : List Tm, appL τ (appL S l) = appL (fun v => app τ (S v)) l
  | [] => rfl
  | t :: ts => by simp only [appL, app_comp τ S t, appL_comp τ S ts]
end
mutual
theorem app_id : ∀ t : Tm, t.good = true → app varT t = t
  | .node h l, hg => by
    simp only [app]
    split
    · rename_i hn
      rw [good_var hg hn]
      simp only [varT]; congr 1; omega
    · simp only [Tm.good, Bool.and_eq_true] at hg
      rw [appL_id l hg.2]
theorem appL_id : ∀ l : List Tm, Tm.goods l = true → appL varT l = l
  | [], _ => rfl
  | t :: ts, hg => by
    simp only [Tm.goods, Bool.and_eq_true] at hg
    simp only [appL, app_id t hg.1, appL_id ts hg.2]
end
theorem goods_mem {l : List Tm} (h : Tm.goods l = true) : ∀ t, t ∈ l → t.good = true := by
  induction l with
  | nil => simp
  | cons t ts ih =>
    simp only [Tm.goods, Bool.and_eq_true] at h
    intro u hu
    rcases List.mem_cons.1 hu with rfl | hu
    · exact h.1
    · exact ih h.2 u hu
theorem goods_of_mem {l : List Tm} (h : ∀ t, t ∈ l → t.good = true) : Tm.goods l = true := by
  induction l with
  | nil => rfl
  | cons t ts ih => simp only [Tm.goods, Bool.and_eq_true]; exact ⟨h t (by simp), ih fun u hu => h u (by simp [hu])⟩
theorem goodsOf {t : Tm} (h : t.good = true) : Tm.goods t.args = true := by rw [Tm.good_eq, Bool.and_eq_true] at h; exact h.2
theorem occ_range {t : Tm} (hg : t.good = true) {v : Int} (h : occ v t) : 0 ≤ v ∧ v ≤ 255 := by
  have := good_heads t hg _ h.2
  exact ⟨h.1, by omega⟩
theorem good_varT {v : Int} (h0 : 0 ≤ v) (h1 : v ≤ 255) : (varT v).good = true := node_var_good h0 h1
theorem good_is_var {t : Tm} (hg : t.good = true) (h : t.h < 0) : t = varT (-1 - t.h) := by
  cases t with
  | node x l =>
    simp only [Tm.h] at h ⊢
    rw [good_var hg h]
    simp only [varT]; congr 1; omega
mutual
theorem app_good {S : Sub} : ∀ t : Tm, t.good = true → (∀ v, occ v t → (S v).good = true) → (app S t).good = true
  | .node h l, hg, hs => by
    simp only [app]
    split
    · rename_i hn
      exact hs _ ⟨by omega, by simp only [Tm.heads]; rw [show -1 - (-1 - h) = h by omega]; exact List.mem_cons_self⟩
    · rename_i hn
      have hk := good_ok hg
      simp only [Tm.good, Bool.and_eq_true] at hg ⊢
      refine ⟨?_, appL_good l hg.2 fun c hc v hv => hs v ((occ_args (t := .node h l) hn).2 ⟨c, hc, hv⟩)⟩
      cases hb : okP (.node h (appL S l)) with
      | true => rfl
      | false =>
        rw [okP_iff] at hb
        simp only [Tm.h, Tm.args, appL_length] at hb
        exact absurd hb hk
theorem appL_good {S : Sub} : ∀ l : List Tm, Tm.goods l = true → (∀ c, c ∈ l → ∀ v, occ v c → (S v).good = true) → Tm.goods (appL S l) = true
  | [], _, _ => rfl
  | t :: ts, hg, hs => by
    simp only [Tm.goods, Bool.and_eq_true] at hg
    simp only [appL, Tm.goods, Bool.and_eq_true]
    exact ⟨app_good t hg.1 (hs t (by simp)), appL_good ts hg.2 fun c hc => hs c (by simp [hc])⟩
end
mutual
theorem occ_app {S : Sub} {u : Int} : ∀ t : Tm, t.good = true → (occ u (app S t) ↔ ∃ v, occ v t ∧ occ u (S v))
  | .node h l, hg => by
    simp only [app]
    split
    · rename_i hn
      have := good_var hg hn
      subst this
      constructor
      · intro hu
        exact ⟨-1 - h, ⟨by omega, by simp only [Tm.heads]; rw [show -1 - (-1 - h) = h by omega]; exact List.mem_cons_self⟩, hu⟩
      · rintro ⟨v, ⟨h0, hv⟩, hu⟩
        simp only [Tm.heads, Tm.headsL, List.mem_singleton] at hv
        rw [show -1 - h = v by omega]; exact hu
    · rename_i hn
      rw [occ_args (t := .node h (appL S l)) hn]
      simp only [Tm.args]
      rw [occ_appL l (goodsOf hg)]
      constructor
      · rintro ⟨c, hc, v, hv, hu⟩; exact ⟨v, (occ_args (t := .node h l) hn).2 ⟨c, hc, hv⟩, hu⟩
      · rintro ⟨v, hv, hu⟩
        obtain ⟨c, hc, hv⟩ := (occ_args (t := .node h l) hn).1 hv
        exact ⟨c, hc, v, hv, hu⟩
theorem occ_appL {S : Sub} {u : Int} : ∀ l : List Tm, Tm.goods l = true → ((∃ c, c ∈ appL S l ∧ occ u c) ↔ ∃ c, c ∈ l ∧ ∃ v, occ v c ∧ occ u (S v))
  | [], _ => by simp [appL]
  | t :: ts, hg => by
    simp only [Tm.goods, Bool.and_eq_true] at hg
    simp only [appL, List.mem_cons, exists_eq_or_imp, occ_app t hg.1, occ_appL ts hg.2]
end
mutual
theorem app_fix {S : Sub} : ∀ t : Tm, t.good = true → app S t = t → ∀ u, occ u t → S u = varT u
  | .node h l, hg, he, u, hu => by
    simp only [app] at he
    split at he
    · rename_i hn
      have := good_var hg hn
      subst this
      simp only [occ, Tm.heads, Tm.headsL, List.mem_singleton] at hu
      have e : u = -1 - h := by omega
      rw [e, he, varT]; congr 1; omega
    · rename_i hn
      simp only [Tm.node.injEq, true_and] at he
      obtain ⟨c, hc, hv⟩ := (occ_args (t := .node h l) hn).1 hu
      exact appL_fix l (goodsOf hg) he c hc u hv
theorem appL_fix {S : Sub} : ∀ l : List Tm, Tm.goods l = true → appL S l = l → ∀ c, c ∈ l → ∀ u, occ u c → S u = varT u
  | [], _, _, c, hc, _, _ => by simp at hc
  | t :: ts, hg, he, c, hc, u, hu => by
    simp only [Tm.goods, Bool.and_eq_true] at hg
    simp only [appL, List.cons.injEq] at he
    rcases List.mem_cons.1 hc with e | hc
    · exact app_fix t hg.1 he.1 u (e ▸ hu)
    · exact appL_fix ts hg.2 he.2 c hc u hu
end
mutual
theorem occ_size {S : Sub} {u : Int} : ∀ t : Tm, t.good = true → occ u t → (S u).size ≤ (app S t).size ∧ (¬ t.h < 0 → (S u).size < (app S t).size)
  | .node h l, hg, hu => by
    simp only [app]
    split
    · rename_i hn
      have := good_var hg hn
      subst this
      simp only [occ, Tm.heads, Tm.headsL, List.mem_singleton] at hu
      have e : u = -1 - h := by omega
      rw [e]
      exact ⟨Nat.le_refl _, fun hc => absurd hn hc⟩
    · rename_i hn
      obtain ⟨c, hc, hv⟩ := (occ_args (t := .node h l) hn).1 hu
      have := occ_sizes (S := S) l (goodsOf hg) c hc hv
      simp only [Tm.size]
      exact ⟨by omega, fun _ => by omega⟩
theorem occ_sizes {S : Sub} {u : Int} : ∀ l : List Tm, Tm.goods l = true → ∀ c, c ∈ l → occ u c → (S u).size ≤ Tm.sizes (appL S l)
  | [], _, c, hc, _ => by simp at hc
  | t :: ts, hg, c, hc, hu => by
    simp only [Tm.goods, Bool.and_eq_true] at hg
    simp only [appL, Tm.sizes]
    rcases List.mem_cons.1 hc with e | hc
    · have := (occ_size (S := S) t hg.1 (e ▸ hu)).1; omega
    · have := occ_sizes (S := S) ts hg.2 c hc hu; omega
end
abbrev Pairs := List (Tm × Tm)
def Sol (τ : Sub) (L : Pairs) : Prop := ∀ p, p ∈ L → app τ p.1 = app τ p.2
/-- It keeps to what is bound. -/
def Resp (τ : Sub) (f : Env) : Prop := ∀ v t, f v = some t → τ v = app τ t
/-- What is solved: raw binds, and what they come to. -/
structure Solved (f : Env) (S : Sub) : Prop where
  fix : ∀ v t, f v = some t → S v = app S t
  free : ∀ v, f v = none → S v = varT v
  low : ∀ v t, f v = some t → t.h < 0 → -1 - t.h < v
  rng : ∀ v t, f v = some t → 0 ≤ v ∧ v ≤ 255 ∧ t.good = true
  idem : ∀ v u, 0 ≤ v → v ≤ 255 → occ u (S v) → f u = none
  good : ∀ v, 0 ≤ v → v ≤ 255 → (S v).good = true
def rankU (S : Sub) (v : Int) : Nat := (S v).size * 256 + v.toNat
theorem rank_step {f : Env} {S : Sub} (h : Solved f S) {v u : Int} {t : Tm} (hf : f v = some t) (hu : occ u t) : rankU S u < rankU S v := by
  obtain ⟨h0, h1, hg⟩ := h.rng v t hf
  have hr := occ_range hg hu
  have hs := occ_size (S := S) t hg hu
  rw [← h.fix v t hf] at hs
  unfold rankU
  by_cases hn : t.h < 0
  · have := h.low v t hf hn
    have e := good_is_var hg hn
    rw [e, occ_var (by omega)] at hu
    have := hs.1
    omega
  · have := hs.2 hn
    omega
theorem rank_ind {f : Env} {S : Sub} (h : Solved f S) {Q : Int → Prop} (step : ∀ v, (∀ t, f v = some t → ∀ u, occ u t → Q u) → Q v) : ∀ v, Q v := by
  suffices H : ∀ n v, rankU S v < n → Q v from fun v => H _ v (Nat.lt_succ_self _)
  intro n
  induction n with
  | zero => intro v hv; omega
  | succ n ih =>
    intro v hv
    exact step v fun t hf u hu => ih u (by have := rank_step h hf hu; omega)
theorem resp_iff {f : Env} {S : Sub} (h : Solved f S) (τ : Sub) : Resp τ f ↔ ∀ v, 0 ≤ v → τ v = app τ (S v) := by
  constructor
  · intro hr
    refine rank_ind h fun v ih h0 => ?_
    cases hf : f v with
    | none => rw [h.free v hf, app_var τ h0]
    | some t =>
      rw [h.fix v t hf, app_comp, hr v t hf]
      exact app_congr t fun u hu => ih t hf u hu hu.1
  · intro hr v t hf
    have := h.rng v t hf
    rw [hr v this.1, h.fix v t hf, app_comp]
    exact (app_congr t fun u hu => hr u hu.1).symm
/-- The state of a solving. -/
def UState (L0 : Pairs) (f : Env) (L : Pairs) : Prop := ∀ τ, Sol τ L0 ↔ Sol τ L ∧ Resp τ f
theorem ustate_start (L0 : Pairs) : UState L0 noE L0 := fun τ => ⟨fun h => ⟨h, fun v t h => by cases h⟩, fun h => h.1⟩
theorem sol_cons {τ : Sub} {p : Tm × Tm} {L : Pairs} : Sol τ (p :: L) ↔ app τ p.1 = app τ p.2 ∧ Sol τ L := by simp [Sol]
theorem sol_append {τ : Sub} {L M : Pairs} : Sol τ (L ++ M) ↔ Sol τ L ∧ Sol τ M := by
  simp only [Sol, List.mem_append]
  exact ⟨fun h => ⟨fun p hp => h p (.inl hp), fun p hp => h p (.inr hp)⟩, fun h p hp => hp.elim (h.1 p) (h.2 p)⟩
theorem solved_start : Solved noE varT where
  fix := fun v t h => by cases h
  free := fun v _ => rfl
  low := fun v t h => by cases h
  rng := fun v t h => by cases h
  idem := fun v u _ _ _ => rfl
  good := fun v h0 h1 => good_varT h0 h1
theorem solved_idem {f : Env} {S : Sub} (h : Solved f S) {v : Int} (h0 : 0 ≤ v) (h1 : v ≤ 255) : app S (S v) = S v := by
  conv => rhs; rw [← app_id (S v) (h.good v h0 h1)]
  exact app_congr _ fun u hu => h.free u (h.idem v u h0 h1 hu)
theorem solved_out {f : Env} {S : Sub} (h : Solved f S) {v : Int} (hv : v < 0 ∨ 255 < v) : S v = varT v := by
  refine h.free v ?_
  cases hf : f v with
  | none => rfl
  | some t => have := h.rng v t hf; omega
/-- One leads to the other one by what is bound. -/
inductive Leads (f : Env) : Tm → Tm → Prop
  | refl (t) : Leads f t t
  | step {t u r} : t.h < 0 → f (-1 - t.h) = some u → Leads f u r → Leads f t r
theorem Leads.snoc {f : Env} {a b c : Tm} (h : Leads f a b) (hn : b.h < 0) (hf : f (-1 - b.h) = some c) : Leads f a c := by
  induction h with
  | refl t => exact .step hn hf (.refl _)
  | step h1 h2 _ ih => exact .step h1 h2 (ih hn hf)
theorem leads_app {f : Env} {τ : Sub} (h : Resp τ f) {a b : Tm} (hl : Leads f a b) : app τ a = app τ b := by
  induction hl with
  | refl t => rfl
  | step h1 h2 _ ih => rw [app_neg h1, h _ _ h2, ih]
theorem solved_resp {f : Env} {S : Sub} (h : Solved f S) : Resp S f := fun v t hf => h.fix v t hf
theorem Leads.mono {f g : Env} (hfg : ∀ v t, f v = some t → g v = some t) {a b : Tm} (h : Leads f a b) : Leads g a b := by
  induction h with
  | refl t => exact .refl t
  | step h1 h2 _ ih => exact .step h1 (hfg _ _ h2) ih
/-- Where one begins does not matter. -/
theorem ustate_leads {L0 L : Pairs} {f : Env} {a b x y : Tm} (h : UState L0 f ((a, b) :: L)) (hx : Leads f a x) (hy : Leads f b y) : UState L0 f ((x, y) :: L) := by
  intro τ
  rw [h τ, sol_cons, sol_cons]
  constructor
  · rintro ⟨⟨h1, h2⟩, h3⟩; exact ⟨⟨by rw [← leads_app h3 hx, ← leads_app h3 hy]; exact h1, h2⟩, h3⟩
  · rintro ⟨⟨h1, h2⟩, h3⟩; exact ⟨⟨by show app τ a = app τ b; rw [leads_app h3 hx, leads_app h3 hy]; exact h1, h2⟩, h3⟩
theorem ustate_swap {L0 L : Pairs} {f : Env} {x y : Tm} (h : UState L0 f ((x, y) :: L)) : UState L0 f ((y, x) :: L) := by
  intro τ
  rw [h τ, sol_cons, sol_cons]
  exact ⟨fun h => ⟨⟨h.1.1.symm, h.1.2⟩, h.2⟩, fun h => ⟨⟨h.1.1.symm, h.1.2⟩, h.2⟩⟩
/-- Both come to the same already. -/
theorem ustate_skip {L0 L : Pairs} {f : Env} {S : Sub} {x y : Tm} (hS : Solved f S) (h : UState L0 f ((x, y) :: L)) (he : app S x = app S y) : UState L0 f L := by
  intro τ
  rw [h τ, sol_cons]
  refine ⟨fun h => ⟨h.1.2, h.2⟩, fun h => ⟨⟨?_, h.1⟩, h.2⟩⟩
  have hr := (resp_iff hS τ).1 h.2
  have hh : ∀ t : Tm, app τ t = app τ (app S t) := fun t => by rw [app_comp]; exact app_congr t fun u hu => hr u hu.1
  show app τ x = app τ y
  rw [hh x, hh y, he]
def oneS (v : Int) (b : Tm) : Sub := fun w => if w = v then b else varT w
/-- One more is bound. -/
theorem solved_bind {f : Env} {S : Sub} (h : Solved f S) {v : Int} {y : Tm} (h0 : 0 ≤ v) (h1 : v ≤ 255) (hf : f v = none) (hy : y.good = true) (hlow : y.h < 0 → -1 - y.h < v) (hocc : ¬ occ v (app S y)) :
    Solved (upd f v y) (fun w => app (oneS v (app S y)) (S w)) := by
  have hSg : ∀ u, occ u y → (S u).good = true := fun u hu => by have := occ_range hy hu; exact h.good u this.1 this.2
  have hbg : (app S y).good = true := app_good y hy hSg
  have hone : app (oneS v (app S y)) (app S y) = app S y := by
    conv => rhs; rw [← app_id (app S y) hbg]
    refine app_congr _ fun u hu => ?_
    have hne : u ≠ v := fun e => hocc (e ▸ hu)
    unfold oneS
    rw [if_neg hne]
  refine ⟨fun w t hw => ?_, fun w hw => ?_, fun w t hw hn => ?_, fun w t hw => ?_, fun w u hw0 hw1 hu => ?_, fun w hw0 hw1 => ?_⟩
  · by_cases e : w = v
    · subst e
      simp only [upd, if_true, Option.some.injEq] at hw
      subst hw
      show app _ (S w) = app _ y
      rw [h.free w hf, app_var _ h0, ← app_comp, hone]
      simp [oneS]
    · simp only [upd, if_neg e] at hw
      show app _ (S w) = app _ t
      rw [h.fix w t hw, ← app_comp]
  · by_cases e : w = v
    · subst e; simp [upd] at hw
    · simp only [upd, if_neg e] at hw
      show app _ (S w) = _
      rw [h.free w hw]
      by_cases hw0 : 0 ≤ w
      · rw [app_var _ hw0, oneS, if_neg e]
      · rw [app_pos (by simp only [varT, Tm.h]; omega)]; rfl
  · by_cases e : w = v
    · subst e
      simp only [upd, if_true, Option.some.injEq] at hw
      subst hw
      exact hlow hn
    · simp only [upd, if_neg e] at hw
      exact h.low w t hw hn
  · by_cases e : w = v
    · subst e
      simp only [upd, if_true, Option.some.injEq] at hw
      subst hw
      exact ⟨h0, h1, hy⟩
    · simp only [upd, if_neg e] at hw
      exact h.rng w t hw
  · rw [occ_app _ (h.good w hw0 hw1)] at hu
    obtain ⟨z, hz, hu⟩ := hu
    by_cases e : z = v
    · subst e
      simp only [oneS, if_true] at hu
      have hne : u ≠ z := fun e => hocc (e ▸ hu)
      simp only [upd, if_neg hne]
      obtain ⟨x, hx, hux⟩ := (occ_app y hy).1 hu
      have := occ_range hy hx
      exact h.idem x u this.1 this.2 hux
    · simp only [oneS, if_neg e] at hu
      rw [occ_var hz.1] at hu
      subst hu
      simp only [upd, if_neg e]
      exact h.idem w u hw0 hw1 hz
  · refine app_good _ (h.good w hw0 hw1) fun u hu => ?_
    unfold oneS
    split
    · exact hbg
    · have := occ_range (h.good w hw0 hw1) hu
      exact good_varT this.1 this.2
theorem ustate_bind {L0 L : Pairs} {f : Env} {x y : Tm} (h : UState L0 f ((x, y) :: L)) (hx : x.h < 0) (hf : f (-1 - x.h) = none) : UState L0 (upd f (-1 - x.h) y) L := by
  intro τ
  rw [h τ, sol_cons]
  constructor
  · rintro ⟨⟨h1, h2⟩, h3⟩
    refine ⟨h2, fun w t hw => ?_⟩
    by_cases e : w = -1 - x.h
    · subst e
      simp only [upd, if_true, Option.some.injEq] at hw
      subst hw
      have h1' : app τ x = app τ y := h1
      rw [app_neg hx] at h1'
      exact h1'
    · simp only [upd, if_neg e] at hw
      exact h3 w t hw
  · rintro ⟨h2, h3⟩
    refine ⟨⟨?_, h2⟩, fun w t hw => h3 w t ?_⟩
    · show app τ x = app τ y
      rw [app_neg hx]; exact h3 _ _ (by simp [upd])
    · have : w ≠ -1 - x.h := fun e => by rw [e, hf] at hw; cases hw
      simp only [upd, if_neg this]; exact hw
/-- A variable, and a term that has it. -/
theorem ustate_occ {L0 L : Pairs} {f : Env} {S : Sub} {x y : Tm} (hS : Solved f S) (h : UState L0 f ((x, y) :: L)) (hx : x.h < 0) (hg : y.good = true) (hyf : y.h < 0 → f (-1 - y.h) = none) (hne : x.h ≠ y.h) (hocc : occ (-1 - x.h) (app S y)) : ∀ τ, ¬ Sol τ L0 := by
  intro τ hτ
  have hh := (h τ).1 hτ
  rw [sol_cons] at hh
  obtain ⟨⟨h1, _⟩, h3⟩ := hh
  have hr := (resp_iff hS τ).1 h3
  have h2 : app τ y = app τ (app S y) := by rw [app_comp]; exact app_congr y fun u hu => hr u hu.1
  by_cases hn : y.h < 0
  · rw [app_neg hn, hS.free _ (hyf hn), occ_var (by omega)] at hocc
    omega
  · have hgS : (app S y).good = true := app_good y hg fun u hu => by have := occ_range hg hu; exact hS.good u this.1 this.2
    have := (occ_size (S := τ) _ hgS hocc).2 (by rw [app_pos hn]; exact hn)
    have h1' : app τ x = app τ y := h1
    rw [app_neg hx, h2] at h1'
    rw [← h1'] at this
    exact Nat.lt_irrefl _ this
theorem ustate_clash {L0 L : Pairs} {f : Env} {x y : Tm} (h : UState L0 f ((x, y) :: L)) (hx : ¬ x.h < 0) (hy : ¬ y.h < 0) (hne : ¬ (x.h = y.h ∧ x.args.length = y.args.length)) : ∀ τ, ¬ Sol τ L0 := by
  intro τ hτ
  have hh := (h τ).1 hτ
  rw [sol_cons] at hh
  have h1 : app τ x = app τ y := hh.1.1
  rw [app_pos hx, app_pos hy, Tm.node.injEq] at h1
  have h2 := congrArg List.length h1.2
  rw [appL_length, appL_length] at h2
  exact hne ⟨h1.1, h2⟩
theorem sol_zip {τ : Sub} : ∀ {a b : List Tm}, a.length = b.length → (Sol τ (a.zip b) ↔ appL τ a = appL τ b)
  | [], [], _ => by simp [Sol, appL]
  | [], _ :: _, h => by simp at h
  | _ :: _, [], h => by simp at h
  | x :: a, y :: b, h => by
    rw [List.zip_cons_cons, sol_cons, sol_zip (by simpa using h)]
    simp [appL]
theorem ustate_args {L0 L : Pairs} {f : Env} {x y : Tm} (h : UState L0 f ((x, y) :: L)) (hx : ¬ x.h < 0) (hh : x.h = y.h) (hn : x.args.length = y.args.length) : UState L0 f (x.args.zip y.args ++ L) := by
  intro τ
  rw [h τ, sol_cons, sol_append, sol_zip hn]
  have e : app τ x = app τ y ↔ appL τ x.args = appL τ y.args := by
    rw [app_pos hx, app_pos (t := y) (by omega), Tm.node.injEq, hh]
    simp
  simp only [e]
structure Mgu (L0 : Pairs) (S : Sub) : Prop where
  most : ∀ τ, Sol τ L0 ↔ ∀ v, 0 ≤ v → τ v = app τ (S v)
  idem : ∀ v, 0 ≤ v → app S (S v) = S v
  low : ∀ v, 0 ≤ v → (S v).h < 0 → -1 - (S v).h ≤ v
  good : ∀ v, 0 ≤ v → v ≤ 255 → (S v).good = true
  out : ∀ v, 255 < v → S v = varT v
theorem solved_low {f : Env} {S : Sub} (h : Solved f S) : ∀ v, (S v).h < 0 → -1 - (S v).h ≤ v := by
  refine rank_ind h fun v ih hn => ?_
  cases hf : f v with
  | none => rw [h.free v hf]; simp only [varT, Tm.h]; omega
  | some t =>
    have hr := h.rng v t hf
    rw [h.fix v t hf] at hn ⊢
    by_cases ht : t.h < 0
    · rw [app_neg ht] at hn ⊢
      have hu : occ (-1 - t.h) t := ⟨by omega, by rw [show -1 - (-1 - t.h) = t.h by omega, Tm.heads_eq]; exact List.mem_cons_self⟩
      have := ih t hf _ hu hn
      have := h.low v t hf ht
      omega
    · rw [app_pos ht] at hn
      exact absurd hn ht
theorem mgu_of {L0 : Pairs} {f : Env} {S : Sub} (hS : Solved f S) (h : UState L0 f []) : Mgu L0 S where
  most := fun τ => by rw [h τ, ← resp_iff hS τ]; simp [Sol]
  idem := fun v h0 => by
    by_cases h1 : v ≤ 255
    · exact solved_idem hS h0 h1
    · rw [solved_out hS (.inr (by omega)), app_var S h0, solved_out hS (.inr (by omega))]
  low := fun v _ => solved_low hS v
  good := hS.good
  out := fun v hv => solved_out hS (.inr hv)
theorem Mgu.sol {L0 : Pairs} {S : Sub} (h : Mgu L0 S) : Sol S L0 := (h.most S).2 fun v h0 => (h.idem v h0).symm
theorem good_of_mgu {L0 : Pairs} {S : Sub} (h : Mgu L0 S) {v : Int} (h0 : 0 ≤ v) {u : Int} (hu : occ u (S v)) : S u = varT u := by
  by_cases h1 : v ≤ 255
  · exact app_fix (S v) (h.good v h0 h1) (h.idem v h0) u hu
  · rw [h.out v (by omega), occ_var h0] at hu
    subst hu
    exact h.out u (by omega)
theorem var_of_app {S : Sub} {t : Tm} {u : Int} (h0 : 0 ≤ u) (h : app S t = varT u) : t.h < 0 := by
  by_cases hn : t.h < 0
  · exact hn
  · rw [app_pos hn, varT, Tm.node.injEq] at h; omega
/-- There is one alone. -/
theorem mgu_unique {L0 : Pairs} {S1 S2 : Sub} (h1 : Mgu L0 S1) (h2 : Mgu L0 S2) : ∀ v, 0 ≤ v → S1 v = S2 v := by
  have e1 : ∀ v, 0 ≤ v → S1 v = app S1 (S2 v) := (h2.most S1).1 h1.sol
  have e2 : ∀ v, 0 ≤ v → S2 v = app S2 (S1 v) := (h1.most S2).1 h2.sol
  intro v h0
  rw [e1 v h0]
  have key : ∀ u, occ u (S2 v) → S1 u = varT u := fun u hu => by
    have hu0 := hu.1
    have a1 := good_of_mgu h2 h0 hu
    have a2 := e2 u hu0
    rw [a1] at a2
    have hn := var_of_app hu0 a2.symm
    have l1 := h1.low u hu0 hn
    rw [app_neg hn] at a2
    have hn2 : (S2 (-1 - (S1 u).h)).h < 0 := by rw [← a2]; show -1 - u < 0; omega
    have l2 := h2.low (-1 - (S1 u).h) (by omega) hn2
    rw [← a2] at l2
    have l2' : -1 - (-1 - u) ≤ -1 - (S1 u).h := l2
    have hh : -1 - (S1 u).h = u := by omega
    by_cases hu1 : u ≤ 255
    · have := good_is_var (h1.good u hu0 hu1) hn
      rw [this, hh]
    · exact h1.out u (by omega)
  by_cases h255 : v ≤ 255
  · conv => rhs; rw [← app_id (S2 v) (h2.good v h0 h255)]
    exact app_congr _ key
  · rw [h2.out v (by omega), app_var S1 h0, h1.out v (by omega)]
end
section
open Go.RowKit

/-- The greatest of 1 + d * x, of the first few x, d from one number on. -/
def stepB : Nat → List Nat → Nat → Nat
  | _, [], m => m
  | d, x :: l, m => if d ≤ 8 then stepB (d + 1) l (max m (1 + d * x)) else m
def tabB : Nat → List Nat
  | 0 => [1]
  | n + 1 => stepB 1 (tabB n) 1 :: tabB n
def gB (n : Nat) : Nat := (tabB n).headD 1
theorem stepB_ge : ∀ (l : List Nat) (d m : Nat), m ≤ stepB d l m
  | [], d, m => Nat.le_refl _
  | x :: l, d, m => by
    simp only [stepB]
    split
    · have := stepB_ge l (d + 1) (max m (1 + d * x)); omega
    · omega
theorem stepB_at : ∀ (l : List Nat) (d m i : Nat) (x : Nat), l[i]? = some x → d + i ≤ 8 → 1 + (d + i) * x ≤ stepB d l m
  | [], d, m, i, x, h, _ => by simp at h
  | y :: l, d, m, 0, x, h, h8 => by
    simp only [List.getElem?_cons_zero, Option.some.injEq] at h
    subst h
    simp only [stepB]
    rw [if_pos (by omega)]
    have := stepB_ge l (d + 1) (max m (1 + d * y))
    simp only [Nat.add_zero]; omega
  | y :: l, d, m, i + 1, x, h, h8 => by
    simp only [List.getElem?_cons_succ] at h
    simp only [stepB]
    rw [if_pos (by omega)]
    have := stepB_at l (d + 1) (max m (1 + d * y)) i x h (by omega)
    rw [show d + (i + 1) = d + 1 + i by omega]; exact this
theorem tabB_at : ∀ (n i : Nat), i ≤ n → (tabB n)[i]? = some (gB (n - i))
  | 0, i, h => by
    have : i = 0 := by omega
    subst this
    rfl
  | n + 1, 0, h => by simp [tabB, gB]
  | n + 1, i + 1, h => by
    simp only [tabB, List.getElem?_cons_succ]
    rw [tabB_at n i (by omega), show n + 1 - (i + 1) = n - i by omega]
theorem gB_step (n d : Nat) (h1 : 1 ≤ d) (h8 : d ≤ 8) : 1 + d * gB n ≤ gB (n + d) := by
  obtain ⟨k, rfl⟩ : ∃ k, d = k + 1 := ⟨d - 1, by omega⟩
  have h := stepB_at (tabB (n + k)) 1 1 k (gB n) (by rw [tabB_at _ _ (by omega), show n + k - k = n by omega]) (by omega)
  have e : gB (n + (k + 1)) = stepB 1 (tabB (n + k)) 1 := rfl
  rw [e, show k + 1 = 1 + k by omega]; exact h
theorem gB_mono1 (n : Nat) : gB n ≤ gB (n + 1) := by have := gB_step n 1 (by omega) (by omega); omega
theorem gB_mono {m n : Nat} (h : m ≤ n) : gB m ≤ gB n := by
  obtain ⟨k, rfl⟩ : ∃ k, n = m + k := ⟨n - m, by omega⟩
  clear h
  induction k with
  | zero => exact Nat.le_refl _
  | succ k ih => have := gB_mono1 (m + k); exact Nat.le_trans ih this
theorem gB_pos (n : Nat) : 1 ≤ gB n := gB_mono (Nat.zero_le n)
mutual
/-- Its parts that are no variables. -/
def nsubs : Tm → List Tm
  | .node h l => if h < 0 then [] else .node h l :: nsubsL l
def nsubsL : List Tm → List Tm
  | [] => []
  | t :: ts => nsubs t ++ nsubsL ts
end
def degs (D : List Tm) : Nat := (D.map fun q => q.args.length).sum
mutual
theorem nsubs_length : ∀ t : Tm, (nsubs t).length ≤ t.size
  | .node h l => by
    have := nsubsL_length l
    simp only [nsubs, Tm.size]
    split <;> simp <;> omega
theorem nsubsL_length : ∀ l : List Tm, (nsubsL l).length ≤ Tm.sizes l
  | [] => by simp [nsubsL]
  | t :: ts => by
    have h1 := nsubs_length t
    have h2 := nsubsL_length ts
    simp only [nsubsL, List.length_append, Tm.sizes]; omega
end
/-- The terms' parts: no variables, right, and with a part those in it. -/
structure Closed (D : List Tm) : Prop where
  fn : ∀ q, q ∈ D → ¬ q.h < 0
  good : ∀ q, q ∈ D → q.good = true
  args : ∀ q, q ∈ D → ∀ c, c ∈ q.args → ¬ c.h < 0 → c ∈ D
theorem mem_nsubs_self {t : Tm} (h : ¬ t.h < 0) : t ∈ nsubs t := by cases t; simp only [Tm.h] at h; simp [nsubs, h]
theorem mem_nsubsL {l : List Tm} {q : Tm} : q ∈ nsubsL l ↔ ∃ t, t ∈ l ∧ q ∈ nsubs t := by
  induction l with
  | nil => simp [nsubsL]
  | cons t ts ih => simp [nsubsL, ih]
mutual
theorem closed_nsubs : ∀ t : Tm, t.good = true → ∀ q, q ∈ nsubs t → ¬ q.h < 0 ∧ q.good = true ∧ ∀ c, c ∈ q.args → ¬ c.h < 0 → c ∈ nsubs t
  | .node h l, hg, q, hq => by
    simp only [nsubs] at hq ⊢
    split at hq
    · simp at hq
    · rename_i hn
      rw [if_neg hn]
      rcases List.mem_cons.1 hq with rfl | hq
      · exact ⟨hn, hg, fun c hc hcn => List.mem_cons_of_mem _ (mem_nsubsL.2 ⟨c, hc, mem_nsubs_self hcn⟩)⟩
      · obtain ⟨h1, h2, h3⟩ := closed_nsubsL l (goodsOf hg) q hq
        exact ⟨h1, h2, fun c hc hcn => List.mem_cons_of_mem _ (h3 c hc hcn)⟩
theorem closed_nsubsL : ∀ l : List Tm, Tm.goods l = true → ∀ q, q ∈ nsubsL l → ¬ q.h < 0 ∧ q.good = true ∧ ∀ c, c ∈ q.args → ¬ c.h < 0 → c ∈ nsubsL l
  | [], _, q, hq => by simp [nsubsL] at hq
  | t :: ts, hg, q, hq => by
    simp only [Tm.goods, Bool.and_eq_true] at hg
    simp only [nsubsL, List.mem_append] at hq ⊢
    rcases hq with hq | hq
    · obtain ⟨h1, h2, h3⟩ := closed_nsubs t hg.1 q hq
      exact ⟨h1, h2, fun c hc hcn => .inl (h3 c hc hcn)⟩
    · obtain ⟨h1, h2, h3⟩ := closed_nsubsL ts hg.2 q hq
      exact ⟨h1, h2, fun c hc hcn => .inr (h3 c hc hcn)⟩
end
theorem closedL {l : List Tm} (hg : Tm.goods l = true) : Closed (nsubsL l) :=
  ⟨fun q hq => (closed_nsubsL l hg q hq).1, fun q hq => (closed_nsubsL l hg q hq).2.1, fun q hq => (closed_nsubsL l hg q hq).2.2⟩
/-- A part, or a variable. -/
def InD (D : List Tm) (t : Tm) : Prop := t.good = true ∧ (¬ t.h < 0 → t ∈ D)
theorem Closed.arg {D : List Tm} (h : Closed D) {q c : Tm} (hq : q ∈ D) (hc : c ∈ q.args) : InD D c := ⟨goods_mem (goodsOf (h.good q hq)) c hc, h.args q hq c hc⟩
theorem inD_nsubsL {l : List Tm} (hg : Tm.goods l = true) {t : Tm} (ht : t ∈ l) : InD (nsubsL l) t := ⟨goods_mem hg t ht, fun hn => mem_nsubsL.2 ⟨t, ht, mem_nsubs_self hn⟩⟩

def wD (S : Sub) (D : List Tm) (k : Nat) : Nat := degs (D.filter fun q => decide ((app S q).size ≤ k))
theorem wD_mono (S : Sub) {k k' : Nat} (h : k ≤ k') : ∀ D : List Tm, wD S D k ≤ wD S D k'
  | [] => by simp [wD]
  | q :: D => by
    have ih := wD_mono S h D
    simp only [wD, List.filter_cons] at ih ⊢
    by_cases h1 : (app S q).size ≤ k
    · have h2 : (app S q).size ≤ k' := by omega
      simp only [h1, h2, decide_true, if_true, degs, List.map_cons, List.sum_cons] at ih ⊢; omega
    · by_cases h2 : (app S q).size ≤ k'
      · simp only [h1, h2, decide_true, decide_false, if_true, degs, List.map_cons, List.sum_cons] at ih ⊢
        simp only [Bool.false_eq_true, if_false]; omega
      · simp only [h1, h2, decide_false, Bool.false_eq_true, if_false]; exact ih
theorem wD_mem (S : Sub) {k : Nat} {t : Tm} (ht : (app S t).size = k + 1) : ∀ D : List Tm, t ∈ D → wD S D k + t.args.length ≤ wD S D (k + 1)
  | [], h => by simp at h
  | q :: D, h => by
    have hm := wD_mono S (Nat.le_succ k) D
    simp only [wD, List.filter_cons] at hm ⊢
    by_cases e : q = t
    · subst e
      have h1 : ¬ (app S q).size ≤ k := by omega
      have h2 : (app S q).size ≤ k + 1 := by omega
      simp only [h1, h2, decide_true, decide_false, if_true, degs, List.map_cons, List.sum_cons, Bool.false_eq_true, if_false] at hm ⊢
      simp only [Nat.succ_eq_add_one] at hm
      omega
    · have ih := wD_mem S ht D ((List.mem_cons.1 h).resolve_left (fun h => e h.symm))
      simp only [wD] at ih
      by_cases h1 : (app S q).size ≤ k
      · have h2 : (app S q).size ≤ k + 1 := by omega
        simp only [h1, h2, decide_true, if_true, degs, List.map_cons, List.sum_cons] at ih ⊢; omega
      · by_cases h2 : (app S q).size ≤ k + 1
        · simp only [h1, h2, decide_true, decide_false, if_true, degs, List.map_cons, List.sum_cons, Bool.false_eq_true, if_false] at ih ⊢; omega
        · simp only [h1, h2, decide_false, Bool.false_eq_true, if_false]; exact ih
theorem wD_le (S : Sub) (k : Nat) : ∀ D : List Tm, wD S D k ≤ degs D
  | [] => by simp [wD]
  | q :: D => by
    have ih := wD_le S k D
    simp only [wD, List.filter_cons] at ih ⊢
    split <;> simp only [degs, List.map_cons, List.sum_cons] at ih ⊢ <;> omega
theorem sizes_le {S : Sub} {b : Nat} : ∀ l : List Tm, (∀ c, c ∈ l → (app S c).size ≤ b) → Tm.sizes (appL S l) ≤ l.length * b
  | [], _ => by simp [appL, Tm.sizes]
  | t :: ts, h => by
    have h1 := h t (by simp)
    have h2 := sizes_le ts fun c hc => h c (by simp [hc])
    simp only [appL, Tm.sizes, List.length_cons, Nat.succ_mul]; omega
theorem arg_size {S : Sub} : ∀ {l : List Tm} {c : Tm}, c ∈ l → (app S c).size ≤ Tm.sizes (appL S l)
  | t :: ts, c, h => by
    simp only [appL, Tm.sizes]
    rcases List.mem_cons.1 h with rfl | h
    · omega
    · have := arg_size (S := S) h; omega
theorem app_size_pos {S : Sub} {t : Tm} (h : ¬ t.h < 0) : (app S t).size = 1 + Tm.sizes (appL S t.args) := by rw [app_pos h, Tm.size]
/-- What is bound is a part of the terms. -/
def FromD (D : List Tm) (f : Env) : Prop := ∀ v t, f v = some t → InD D t
theorem dag_size {D : List Tm} {f : Env} {S : Sub} (hD : Closed D) (hS : Solved f S) (hf : FromD D f) : ∀ n t, InD D t → (app S t).size ≤ n → (app S t).size ≤ gB (wD S D (app S t).size) := by
  intro n
  induction n with
  | zero => intro t _ h; have := (app S t).size_eq; omega
  | succ n ih =>
    have fn : ∀ t, ¬ t.h < 0 → InD D t → (app S t).size ≤ n + 1 → (app S t).size ≤ gB (wD S D (app S t).size) := by
      intro t hn ht hs
      have hm := ht.2 hn
      have he := app_size_pos (S := S) hn
      have hsub : ∀ c, c ∈ t.args → (app S c).size ≤ gB (wD S D (Tm.sizes (appL S t.args))) := fun c hc => by
        have h1 := arg_size (S := S) hc
        exact Nat.le_trans (ih c (hD.arg hm hc) (by omega)) (gB_mono (wD_mono S h1 D))
      have h2 := sizes_le t.args hsub
      have h3 := wD_mem S (k := Tm.sizes (appL S t.args)) (t := t) (by omega) D hm
      rw [he, Nat.add_comm 1]
      rcases Nat.eq_zero_or_pos t.args.length with h0 | h0
      · have : Tm.sizes (appL S t.args) = 0 := by rw [h0] at h2; omega
        have := gB_pos (wD S D (Tm.sizes (appL S t.args) + 1))
        omega
      · have h8 : t.args.length ≤ 8 := by
          have := good_ok (h := t.h) (l := t.args) (by cases t; exact ht.1); omega
        have h4 := gB_step (wD S D (Tm.sizes (appL S t.args))) t.args.length h0 h8
        have h5 := gB_mono h3
        omega
    have hv : ∀ v, 0 ≤ v → (S v).size ≤ n + 1 → (S v).size ≤ gB (wD S D (S v).size) := by
      refine rank_ind hS fun v ihv h0 hs => ?_
      cases hfv : f v with
      | none =>
        rw [hS.free v hfv]
        have := gB_pos (wD S D (varT v).size)
        have e : (varT v).size = 1 := by simp [varT, Tm.size, Tm.sizes]
        omega
      | some t =>
        have hfx := hS.fix v t hfv
        by_cases hn : t.h < 0
        · rw [app_neg hn] at hfx
          rw [hfx] at hs ⊢
          exact ihv t hfv (-1 - t.h) ⟨by omega, by rw [show -1 - (-1 - t.h) = t.h by omega, Tm.heads_eq]; exact List.mem_cons_self⟩ (by omega) hs
        · rw [hfx] at hs ⊢
          exact fn t hn (hf v t hfv) hs
    intro t ht hs
    by_cases hn : t.h < 0
    · rw [app_neg hn] at hs ⊢
      exact hv _ (by omega) hs
    · exact fn t hn ht hs
theorem dag_bound {D : List Tm} {f : Env} {S : Sub} (hD : Closed D) (hS : Solved f S) (hf : FromD D f) {t : Tm} (ht : InD D t) : (app S t).size ≤ gB (degs D) :=
  Nat.le_trans (dag_size hD hS hf _ t ht (Nat.le_refl _)) (gB_mono (wD_le S _ D))
theorem leads_inD {D : List Tm} {f : Env} (hf : FromD D f) {a b : Tm} (ha : InD D a) (h : Leads f a b) : InD D b := by
  induction h with
  | refl t => exact ha
  | step h1 h2 _ ih => exact ih (hf _ _ h2)
theorem fromD_upd {D : List Tm} {f : Env} (hf : FromD D f) {v : Int} {y : Tm} (hy : InD D y) : FromD D (upd f v y) := by
  intro w t hw
  by_cases e : w = v
  · subst e
    simp only [upd, if_true, Option.some.injEq] at hw
    rw [← hw]; exact hy
  · simp only [upd, if_neg e] at hw
    exact hf w t hw

/-- One is an argument of the other one, behind what is bound. -/
def Under (f : Env) (X Y : Tm) : Prop := ∃ c, c ∈ X.args ∧ Leads f c Y
/-- What is left, in groups: the arguments of parts that stand within one another. -/
def Grp (D : List Tm) (f : Env) : List Tm → List Tm → Prop
  | [], L => L.length ≤ 10
  | X :: Xs, L => X ∈ D ∧ (∃ top rest, L = top ++ rest ∧ top.length ≤ 8 ∧ (∀ c, c ∈ top → c ∈ X.args) ∧ Grp D f Xs rest) ∧ (∀ Y, Xs.head? = some Y → Under f Y X)
theorem Under.mono {f g : Env} (hfg : ∀ v t, f v = some t → g v = some t) {X Y : Tm} (h : Under f X Y) : Under g X Y := by
  obtain ⟨c, hc, hl⟩ := h
  exact ⟨c, hc, hl.mono hfg⟩
theorem Grp.mono {D : List Tm} {f g : Env} (hfg : ∀ v t, f v = some t → g v = some t) : ∀ {Xs L : List Tm}, Grp D f Xs L → Grp D g Xs L
  | [], L, h => h
  | X :: Xs, L, h => by
    obtain ⟨h1, ⟨top, rest, h2, h3, h4, h5⟩, h6⟩ := h
    exact ⟨h1, ⟨top, rest, h2, h3, h4, Grp.mono hfg h5⟩, fun Y hY => (h6 Y hY).mono hfg⟩
def cntD (S : Sub) (D : List Tm) (k : Nat) : Nat := (D.filter fun q => decide ((app S q).size ≤ k)).length
theorem cntD_mono (S : Sub) {k k' : Nat} (h : k ≤ k') : ∀ D : List Tm, cntD S D k ≤ cntD S D k'
  | [] => by simp [cntD]
  | q :: D => by
    have ih := cntD_mono S h D
    simp only [cntD, List.filter_cons] at ih ⊢
    by_cases h1 : (app S q).size ≤ k
    · have h2 : (app S q).size ≤ k' := by omega
      simp only [h1, h2, decide_true, if_true, List.length_cons]; omega
    · by_cases h2 : (app S q).size ≤ k'
      · simp only [h1, h2, decide_true, decide_false, if_true, List.length_cons, Bool.false_eq_true, if_false]; omega
      · simp only [h1, h2, decide_false, Bool.false_eq_true, if_false]; exact ih
theorem cntD_mem (S : Sub) {k k' : Nat} {t : Tm} (ht : (app S t).size = k') (hk : k < k') : ∀ D : List Tm, t ∈ D → cntD S D k + 1 ≤ cntD S D k'
  | [], h => by simp at h
  | q :: D, h => by
    have hm := cntD_mono S (Nat.le_of_lt hk) D
    simp only [cntD, List.filter_cons] at hm ⊢
    by_cases e : q = t
    · subst e
      have h1 : ¬ (app S q).size ≤ k := by omega
      have h2 : (app S q).size ≤ k' := by omega
      simp only [h1, h2, decide_true, decide_false, if_true, List.length_cons, Bool.false_eq_true, if_false]; omega
    · have ih := cntD_mem S ht hk D ((List.mem_cons.1 h).resolve_left (fun h => e h.symm))
      simp only [cntD] at ih
      by_cases h1 : (app S q).size ≤ k
      · have h2 : (app S q).size ≤ k' := by omega
        simp only [h1, h2, decide_true, if_true, List.length_cons]; omega
      · by_cases h2 : (app S q).size ≤ k'
        · simp only [h1, h2, decide_true, decide_false, if_true, List.length_cons, Bool.false_eq_true, if_false]; omega
        · simp only [h1, h2, decide_false, Bool.false_eq_true, if_false]; exact ih
theorem cntD_le (S : Sub) (k : Nat) (D : List Tm) : cntD S D k ≤ D.length := List.length_filter_le _ _
theorem under_size {D : List Tm} {f : Env} {S : Sub} (hS : Solved f S) {X Y : Tm} (hX : ¬ X.h < 0) (h : Under f X Y) : (app S Y).size < (app S X).size := by
  obtain ⟨c, hc, hl⟩ := h
  rw [← leads_app (solved_resp hS) hl, app_size_pos hX]
  have := arg_size (S := S) hc
  omega
theorem grp_length {D : List Tm} {f : Env} {S : Sub} (hD : Closed D) (hS : Solved f S) : ∀ {Xs L : List Tm}, Grp D f Xs L → L.length ≤ 8 * Xs.length + 10
  | [], L, h => by simpa [Grp] using h
  | X :: Xs, L, h => by
    obtain ⟨h1, ⟨top, rest, rfl, h3, h4, h5⟩, h6⟩ := h
    have := grp_length hD hS h5
    simp only [List.length_append, List.length_cons]; omega
theorem grp_chain {D : List Tm} {f : Env} {S : Sub} (hD : Closed D) (hS : Solved f S) : ∀ {Xs L : List Tm} {k : Nat}, Grp D f Xs L → (∀ X, Xs.head? = some X → k < (app S X).size) → cntD S D k + Xs.length ≤ D.length
  | [], L, k, h, _ => by simpa using cntD_le S k D
  | X :: Xs, L, k, h, hk => by
    obtain ⟨h1, ⟨top, rest, rfl, h3, h4, h5⟩, h6⟩ := h
    have hk' := hk X rfl
    have := cntD_mem S (k := k) (t := X) rfl hk' D h1
    have := grp_chain hD hS (k := (app S X).size) h5 fun Y hY => by
      have hY' : Y ∈ D := by
        cases Xs with
        | nil => simp at hY
        | cons Z Zs => simp only [List.head?_cons, Option.some.injEq] at hY; subst hY; exact h5.1
      exact under_size (D := D) hS (hD.fn Y hY') (h6 Y hY)
    simp only [List.length_cons]; omega
theorem grp_bound {D : List Tm} {f : Env} {S : Sub} (hD : Closed D) (hS : Solved f S) {Xs L : List Tm} (h : Grp D f Xs L) : L.length ≤ 8 * D.length + 10 := by
  have h1 := grp_length hD hS h
  have h2 := grp_chain hD hS (k := 0) h fun X _ => by have := (app S X).size_eq; omega
  omega
/-- The first one, taken. -/
theorem grp_pop {D : List Tm} {f : Env} : ∀ {Xs L : List Tm} {x : Tm}, Grp D f Xs (x :: L) → ∃ Ys, Grp D f Ys L ∧ (Ys = [] ∨ ∃ Y Zs, Ys = Y :: Zs ∧ Y ∈ D ∧ x ∈ Y.args)
  | [], L, x, h => ⟨[], by simp only [Grp, List.length_cons] at h ⊢; omega, .inl rfl⟩
  | X :: Xs, L, x, h => by
    obtain ⟨h1, ⟨top, rest, h2, h3, h4, h5⟩, h6⟩ := h
    cases top with
    | nil =>
      simp only [List.nil_append] at h2
      subst h2
      exact grp_pop h5
    | cons c top =>
      simp only [List.cons_append, List.cons.injEq] at h2
      obtain ⟨rfl, rfl⟩ := h2
      refine ⟨X :: Xs, ⟨h1, ⟨top, rest, rfl, by simp at h3; omega, fun c hc => h4 c (by simp [hc]), h5⟩, h6⟩, .inr ⟨X, Xs, rfl, h1, h4 _ (by simp)⟩⟩
/-- Its arguments, put. -/
theorem grp_push {D : List Tm} {f : Env} {Xs L : List Tm} {x X : Tm} (hD : Closed D) (h : Grp D f Xs (x :: L)) (hX : X ∈ D) (hl : Leads f x X) (cs : List Tm) (has : cs.length ≤ 8) (hsub : ∀ c, c ∈ cs → c ∈ X.args) : ∃ Ys, Grp D f Ys (cs ++ L) := by
  obtain ⟨Ys, h1, h2⟩ := grp_pop h
  refine ⟨X :: Ys, hX, ⟨cs, L, rfl, has, hsub, h1⟩, fun Y hY => ?_⟩
  rcases h2 with rfl | ⟨Z, Zs, rfl, hZ, hx⟩
  · simp at hY
  · simp only [List.head?_cons, Option.some.injEq] at hY
    subst hY
    exact ⟨x, hx, hl⟩
end
section
open Go.RowKit

theorem filter_lt {α : Type} {p q : α → Bool} (hpq : ∀ x, q x = true → p x = true) {v : α} (hp : p v = true) (hq : q v = false) : ∀ l : List α, v ∈ l → (l.filter q).length < (l.filter p).length
  | [], h => by simp at h
  | x :: l, h => by
    have hle : (l.filter q).length ≤ (l.filter p).length := by
      clear h
      induction l with
      | nil => simp
      | cons y l ih =>
        simp only [List.filter_cons]
        cases hqy : q y
        · cases hpy : p y <;> simp <;> omega
        · rw [hpq y hqy]; simpa using ih
    simp only [List.filter_cons]
    rcases List.mem_cons.1 h with rfl | h
    · rw [hp, hq]; simp; omega
    · have ih := filter_lt hpq hp hq l h
      cases hqx : q x
      · cases hpx : p x <;> simp <;> omega
      · rw [hpq x hqx]; simpa using ih
/-- How many variables are not bound. -/
def unb (f : Env) : Nat := ((upto 256).filter fun v => (f v).isNone).length
theorem unb_upd {f : Env} {v : Int} {y : Tm} (h0 : 0 ≤ v) (h1 : v ≤ 255) (hf : f v = none) : unb (upd f v y) < unb f :=
  filter_lt (p := fun v => (f v).isNone) (q := fun x => (upd f v y x).isNone) (fun x hx => by
    by_cases e : x = v
    · subst e; simp [upd] at hx
    · simpa [upd, e] using hx) (v := v) (by simp [hf]) (by simp [upd]) _ (mem_upto.2 ⟨h0, by omega⟩)
def sumL (S : Sub) (L : Pairs) : Nat := (L.map fun p => (app S p.1).size).sum
theorem sumL_cons (S : Sub) (p : Tm × Tm) (L : Pairs) : sumL S (p :: L) = (app S p.1).size + sumL S L := by simp [sumL]
theorem sumL_append (S : Sub) (L M : Pairs) : sumL S (L ++ M) = sumL S L + sumL S M := by simp [sumL]
theorem sumL_le {S : Sub} {b : Nat} : ∀ L : Pairs, (∀ p, p ∈ L → (app S p.1).size ≤ b) → sumL S L ≤ L.length * b
  | [], _ => by simp [sumL]
  | p :: L, h => by
    have h1 := h p (by simp)
    have h2 := sumL_le L fun q hq => h q (by simp [hq])
    rw [sumL_cons, List.length_cons, Nat.succ_mul]; omega
theorem sumL_zip (S : Sub) : ∀ {a b : List Tm}, a.length = b.length → sumL S (a.zip b) = Tm.sizes (appL S a)
  | [], [], _ => by simp [sumL, appL, Tm.sizes]
  | [], _ :: _, h => by simp at h
  | _ :: _, [], h => by simp at h
  | x :: a, y :: b, h => by
    rw [List.zip_cons_cons, sumL_cons, sumL_zip S (by simpa using h), appL, Tm.sizes]
theorem zip_fst : ∀ {a b : List Tm}, a.length = b.length → (a.zip b).map Prod.fst = a
  | [], [], _ => rfl
  | [], _ :: _, h => by simp at h
  | _ :: _, [], h => by simp at h
  | x :: a, y :: b, h => by simp [zip_fst (show a.length = b.length by simpa using h)]
def bigD (D : List Tm) : Nat := (8 * D.length + 10) * gB (degs D) + 1
/-- The state of a solving, with all that bounds it. -/
structure SState (D : List Tm) (L0 : Pairs) (f : Env) (S : Sub) (L : Pairs) : Prop where
  sv : Solved f S
  us : UState L0 f L
  fd : FromD D f
  ind : ∀ p, p ∈ L → InD D p.1 ∧ InD D p.2
  grp : ∃ Xs, Grp D f Xs (L.map Prod.fst)
def meas (D : List Tm) (f : Env) (S : Sub) (L : Pairs) : Nat := unb f * bigD D + sumL S L
section
variable {D : List Tm} {L0 L : Pairs} {f : Env} {S : Sub}
theorem SState.length (hD : Closed D) (h : SState D L0 f S L) : L.length ≤ 8 * D.length + 10 := by
  obtain ⟨Xs, hg⟩ := h.grp
  have := grp_bound hD h.sv hg
  simpa using this
theorem SState.sum (hD : Closed D) (h : SState D L0 f S L) : sumL S L < bigD D := by
  have h1 := sumL_le L fun p hp => dag_bound hD h.sv h.fd (h.ind p hp).1
  have h2 := Nat.mul_le_mul_right (gB (degs D)) (h.length hD)
  unfold bigD; omega
theorem sstate_start {a b : List Tm} (hD : Closed D) (hl : a.length = b.length) (h10 : a.length ≤ 10) (ha : ∀ t, t ∈ a → InD D t) (hb : ∀ t, t ∈ b → InD D t) : SState D (a.zip b) noE varT (a.zip b) where
  sv := solved_start
  us := ustate_start _
  fd := fun v t h => by cases h
  ind := fun p hp => ⟨ha _ (List.of_mem_zip hp).1, hb _ (List.of_mem_zip hp).2⟩
  grp := ⟨[], by rw [zip_fst hl]; simpa [Grp] using h10⟩
variable {a b x y : Tm}
theorem SState.tail (h : SState D L0 f S ((a, b) :: L)) (hu : UState L0 f L) : SState D L0 f S L where
  sv := h.sv
  us := hu
  fd := h.fd
  ind := fun p hp => h.ind p (by simp [hp])
  grp := by
    obtain ⟨Xs, hg⟩ := h.grp
    obtain ⟨Ys, h1, -⟩ := grp_pop hg
    exact ⟨Ys, h1⟩
theorem meas_pop (f : Env) (S : Sub) (L : Pairs) (p : Tm × Tm) : meas D f S L < meas D f S (p :: L) := by
  have := (app S p.1).size_eq
  unfold meas; rw [sumL_cons]; omega
theorem s_skip (h : SState D L0 f S ((a, b) :: L)) (hx : Leads f a x) (hy : Leads f b y) (he : app S x = app S y) : SState D L0 f S L ∧ meas D f S L < meas D f S ((a, b) :: L) :=
  ⟨h.tail (ustate_skip h.sv (ustate_leads h.us hx hy) he), meas_pop _ _ _ _⟩
/-- One more is bound; sw: the two have changed their places. -/
theorem s_bind (hD : Closed D) (h : SState D L0 f S ((a, b) :: L)) (hu : UState L0 f ((x, y) :: L)) (hxg : x.good = true) (hyD : InD D y) (hx : x.h < 0) (hf : f (-1 - x.h) = none) (hlow : y.h < 0 → -1 - y.h < -1 - x.h) (hocc : ¬ occ (-1 - x.h) (app S y)) :
    SState D L0 (upd f (-1 - x.h) y) (fun w => app (oneS (-1 - x.h) (app S y)) (S w)) L ∧ meas D (upd f (-1 - x.h) y) (fun w => app (oneS (-1 - x.h) (app S y)) (S w)) L < meas D f S ((a, b) :: L) := by
  have hgo := good_args hxg
  have h0 : 0 ≤ -1 - x.h := by omega
  have h1 : -1 - x.h ≤ 255 := by omega
  have hst : SState D L0 (upd f (-1 - x.h) y) (fun w => app (oneS (-1 - x.h) (app S y)) (S w)) L :=
    { sv := solved_bind h.sv h0 h1 hf hyD.1 hlow hocc
      us := ustate_bind hu hx hf
      fd := fromD_upd h.fd hyD
      ind := fun p hp => h.ind p (by simp [hp])
      grp := by
        obtain ⟨Xs, hg⟩ := h.grp
        obtain ⟨Ys, h1, -⟩ := grp_pop hg
        refine ⟨Ys, h1.mono fun v t hv => ?_⟩
        by_cases e : v = -1 - x.h
        · rw [e, hf] at hv; cases hv
        · simpa [upd, e] using hv }
  refine ⟨hst, ?_⟩
  have h2 := hst.sum hD
  have h3 := unb_upd (y := y) h0 h1 hf
  unfold meas
  have h4 := Nat.mul_le_mul_right (bigD D) (Nat.succ_le_of_lt h3)
  rw [Nat.succ_mul] at h4
  omega
theorem s_args (hD : Closed D) (h : SState D L0 f S ((a, b) :: L)) (hx : Leads f a x) (hy : Leads f b y) (hxn : ¬ x.h < 0) (hyn : ¬ y.h < 0) (hh : x.h = y.h) (hl : x.args.length = y.args.length) :
    SState D L0 f S (x.args.zip y.args ++ L) ∧ meas D f S (x.args.zip y.args ++ L) < meas D f S ((a, b) :: L) := by
  have hin := h.ind (a, b) (by simp)
  have hxD := leads_inD h.fd hin.1 hx
  have hyD := leads_inD h.fd hin.2 hy
  have hx8 := (good_args hxD.1).2.1
  refine ⟨{ sv := h.sv, us := ustate_args (ustate_leads h.us hx hy) hxn hh hl, fd := h.fd, ind := fun p hp => ?_, grp := ?_ }, ?_⟩
  · rcases List.mem_append.1 hp with hp | hp
    · exact ⟨hD.arg (hxD.2 hxn) (List.of_mem_zip hp).1, hD.arg (hyD.2 hyn) (List.of_mem_zip hp).2⟩
    · exact h.ind p (by simp [hp])
  · obtain ⟨Xs, hg⟩ := h.grp
    obtain ⟨Ys, h1⟩ := grp_push hD hg (hxD.2 hxn) hx x.args hx8 (fun c hc => hc)
    refine ⟨Ys, ?_⟩
    rw [List.map_append, zip_fst hl]
    exact h1
  · have e := leads_app (solved_resp h.sv) hx
    unfold meas
    rw [sumL_append, sumL_cons, sumL_zip S hl, e, app_size_pos hxn]
    omega
end
end
open Go.RowKit

def unS : Nat → Sub → Pairs → Option (Option Sub)
  | 0, _, _ => none
  | _ + 1, S, [] => some (some S)
  | n + 1, S, (a, b) :: L =>
    if sameB (app S a) (app S b) = true then unS n S L
    else if (app S a).h < 0 ∧ ((app S b).h < 0 → (app S a).h < (app S b).h) then
      if (-1 - (app S a).h) ∈ varsT (app S b) then some none else unS n (fun w => app (oneS (-1 - (app S a).h) (app S b)) (S w)) L
    else if (app S b).h < 0 then
      if (-1 - (app S b).h) ∈ varsT (app S a) then some none else unS n (fun w => app (oneS (-1 - (app S b).h) (app S a)) (S w)) L
    else if (app S a).h = (app S b).h ∧ (app S a).args.length = (app S b).args.length then unS n S ((app S a).args.zip (app S b).args ++ L)
    else some none

/-- Two rows of pairs that come to the same. -/
def RelL (S : Sub) : Pairs → Pairs → Prop := All2 fun p q => app S p.1 = app S q.1 ∧ app S p.2 = app S q.2
/-- How a solving ends. -/
def Ends (D : List Tm) (L0 : Pairs) : Option Sub → Prop
  | some S => ∃ f, Solved f S ∧ UState L0 f [] ∧ FromD D f
  | none => ∀ τ, ¬ Sol τ L0
theorem leads_end {f : Env} {S : Sub} (h : Solved f S) : ∀ a : Tm, ∃ x, Leads f a x ∧ (x.h < 0 → f (-1 - x.h) = none) := by
  have key : ∀ v : Int, ∀ a : Tm, a.h < 0 → -1 - a.h = v → ∃ x, Leads f a x ∧ (x.h < 0 → f (-1 - x.h) = none) := by
    refine rank_ind h (Q := fun v => ∀ a : Tm, a.h < 0 → -1 - a.h = v → ∃ x, Leads f a x ∧ (x.h < 0 → f (-1 - x.h) = none)) fun v ih a ha hv => ?_
    cases hf : f v with
    | none => exact ⟨a, .refl _, fun _ => by rw [hv]; exact hf⟩
    | some t =>
      by_cases hn : t.h < 0
      · obtain ⟨x, hx, hx2⟩ := ih t hf (-1 - t.h) ⟨by omega, by rw [show -1 - (-1 - t.h) = t.h by omega, Tm.heads_eq]; exact List.mem_cons_self⟩ t hn rfl
        exact ⟨x, .step ha (by rw [hv]; exact hf) hx, hx2⟩
      · exact ⟨t, .step ha (by rw [hv]; exact hf) (.refl _), fun h => absurd h hn⟩
  intro a
  by_cases hn : a.h < 0
  · exact key _ a hn rfl
  · exact ⟨a, .refl _, fun h => absurd h hn⟩
/-- An end of a chain, with all put. -/
theorem app_end {f : Env} {S : Sub} (hS : Solved f S) {x : Tm} (hg : x.good = true) (hf : x.h < 0 → f (-1 - x.h) = none) : (app S x).h = x.h ∧ (x.h < 0 → app S x = x) ∧ (¬ x.h < 0 → (app S x).args = appL S x.args) := by
  by_cases hn : x.h < 0
  · have e : app S x = x := by
      rw [app_neg hn, hS.free _ (hf hn)]
      exact (good_is_var hg hn).symm
    exact ⟨by rw [e], fun _ => e, fun h => absurd hn h⟩
  · rw [app_pos hn]
    exact ⟨rfl, fun h => absurd h hn, fun _ => rfl⟩
theorem app_idem {f : Env} {S : Sub} (hS : Solved f S) {c : Tm} (hg : c.good = true) : app S (app S c) = app S c := by
  rw [app_comp]
  exact app_congr c fun v hv => solved_idem hS (occ_range hg hv).1 (occ_range hg hv).2
theorem RelL.later {S τ : Sub} {L' L : Pairs} (h : RelL S L' L) : RelL (fun w => app τ (S w)) L' L :=
  All2.imp (fun p q ⟨h1, h2⟩ => ⟨by rw [← app_comp, ← app_comp, h1], by rw [← app_comp, ← app_comp, h2]⟩) h
theorem RelL.zip {f : Env} {S : Sub} (hS : Solved f S) : ∀ {a b : List Tm}, Tm.goods a = true → Tm.goods b = true → RelL S ((appL S a).zip (appL S b)) (a.zip b)
  | [], _, _, _ => by simp only [appL, List.zip_nil_left]; exact .nil
  | _ :: _, [], _, _ => by simp only [appL, List.zip_nil_right]; exact .nil
  | x :: a, y :: b, h1, h2 => by
    have g1 := goods_mem h1
    have g2 := goods_mem h2
    simp only [appL, List.zip_cons_cons]
    exact .cons ⟨app_idem hS (g1 x (by simp)), app_idem hS (g2 y (by simp))⟩ (RelL.zip hS (goods_of_mem fun t ht => g1 t (by simp [ht])) (goods_of_mem fun t ht => g2 t (by simp [ht])))
theorem RelL.refl {S : Sub} : ∀ L : Pairs, RelL S L L
  | [] => .nil
  | p :: L => .cons ⟨rfl, rfl⟩ (RelL.refl L)

section
variable {D : List Tm} {L0 L L' : Pairs} {f : Env} {S : Sub} {a b a' b' : Tm}
/-- What binding a variable comes to. -/
def BindTo (D : List Tm) (L0 : Pairs) (m : Nat) (S : Sub) (L L' : Pairs) (v : Int) (y : Tm) : Prop :=
  0 ≤ v ∧ v ≤ 255 ∧ ((v ∈ varsT y ∧ ∀ τ, ¬ Sol τ L0) ∨ (¬ v ∈ varsT y ∧ ∃ f', SState D L0 f' (fun w => app (oneS v y) (S w)) L ∧ meas D f' (fun w => app (oneS v y) (S w)) L < m ∧ RelL (fun w => app (oneS v y) (S w)) L' L))
/-- One step. -/
inductive StepU (D : List Tm) (L0 : Pairs) (f : Env) (S : Sub) (L L' : Pairs) (m : Nat) (x y : Tm) : Prop
  | skip : x = y → SState D L0 f S L → meas D f S L < m → RelL S L' L → StepU D L0 f S L L' m x y
  | left : x ≠ y → x.h < 0 → (y.h < 0 → x.h < y.h) → BindTo D L0 m S L L' (-1 - x.h) y → StepU D L0 f S L L' m x y
  | right : x ≠ y → ¬ (x.h < 0 ∧ (y.h < 0 → x.h < y.h)) → y.h < 0 → BindTo D L0 m S L L' (-1 - y.h) x → StepU D L0 f S L L' m x y
  | args (M : Pairs) : x ≠ y → ¬ x.h < 0 → ¬ y.h < 0 → x.h = y.h → x.args.length = y.args.length → SState D L0 f S M → meas D f S M < m → RelL S (x.args.zip y.args ++ L') M → StepU D L0 f S L L' m x y
  | clash : x ≠ y → ¬ x.h < 0 → ¬ y.h < 0 → ¬ (x.h = y.h ∧ x.args.length = y.args.length) → (∀ τ, ¬ Sol τ L0) → StepU D L0 f S L L' m x y
theorem u_step (hD : Closed D) (h : SState D L0 f S ((a, b) :: L)) (ha : app S a' = app S a) (hb : app S b' = app S b) (hr : RelL S L' L) : StepU D L0 f S L L' (meas D f S ((a, b) :: L)) (app S a') (app S b') := by
  obtain ⟨x, hx, hxf⟩ := leads_end h.sv a
  obtain ⟨y, hy, hyf⟩ := leads_end h.sv b
  have hxD := leads_inD h.fd (h.ind (a, b) (by simp)).1 hx
  have hyD := leads_inD h.fd (h.ind (a, b) (by simp)).2 hy
  obtain ⟨x1, x2, x3⟩ := app_end h.sv hxD.1 hxf
  obtain ⟨y1, y2, y3⟩ := app_end h.sv hyD.1 hyf
  have hu := ustate_leads h.us hx hy
  rw [ha, hb, leads_app (solved_resp h.sv) hx, leads_app (solved_resp h.sv) hy]
  by_cases he : app S x = app S y
  · obtain ⟨s1, s2⟩ := s_skip h hx hy he
    exact .skip he s1 s2 hr
  have hne : x.h < 0 → y.h < 0 → x.h ≠ y.h := fun p q e => he (by rw [app_neg p, app_neg q, e])
  have hrng : ∀ t : Tm, t.good = true → t.h < 0 → 0 ≤ -1 - t.h ∧ -1 - t.h ≤ 255 := fun t hg hn => ⟨by omega, by have := good_args hg; omega⟩
  by_cases h1 : x.h < 0 ∧ (y.h < 0 → x.h < y.h)
  · refine .left he (by rw [x1]; exact h1.1) (by rw [x1, y1]; exact h1.2) ?_
    rw [x1]
    refine ⟨(hrng x hxD.1 h1.1).1, (hrng x hxD.1 h1.1).2, ?_⟩
    by_cases ho : occ (-1 - x.h) (app S y)
    · exact .inl ⟨occ_iff.1 ho, ustate_occ h.sv hu h1.1 hyD.1 hyf (fun e => hne h1.1 (by rw [← e]; exact h1.1) e) ho⟩
    · obtain ⟨s1, s2⟩ := s_bind hD h hu hxD.1 hyD h1.1 (hxf h1.1) (fun hn => by have := h1.2 hn; omega) ho
      exact .inr ⟨fun e => ho (occ_iff.2 e), _, s1, s2, hr.later⟩
  by_cases h2 : y.h < 0
  · refine .right he (by rw [x1, y1]; exact h1) (by rw [y1]; exact h2) ?_
    rw [y1]
    have hxy : x.h < 0 → y.h < x.h := fun p => by
      have := hne p h2
      have : ¬ x.h < y.h := fun q => h1 ⟨p, fun _ => q⟩
      omega
    refine ⟨(hrng y hyD.1 h2).1, (hrng y hyD.1 h2).2, ?_⟩
    by_cases ho : occ (-1 - y.h) (app S x)
    · exact .inl ⟨occ_iff.1 ho, ustate_occ h.sv (ustate_swap hu) h2 hxD.1 hxf (fun e => hne (by rw [← e]; exact h2) h2 e.symm) ho⟩
    · obtain ⟨s1, s2⟩ := s_bind hD h (ustate_swap hu) hyD.1 hxD h2 (hyf h2) (fun hn => by have := hxy hn; omega) ho
      exact .inr ⟨fun e => ho (occ_iff.2 e), _, s1, s2, hr.later⟩
  have hxn : ¬ x.h < 0 := fun p => h1 ⟨p, fun q => absurd q h2⟩
  have ex := x3 hxn
  have ey := y3 h2
  by_cases h3 : x.h = y.h ∧ x.args.length = y.args.length
  · obtain ⟨s1, s2⟩ := s_args hD h hx hy hxn h2 h3.1 h3.2
    refine .args _ he (by rw [x1]; exact hxn) (by rw [y1]; exact h2) (by rw [x1, y1]; exact h3.1) (by rw [ex, ey, appL_length, appL_length]; exact h3.2) s1 s2 ?_
    rw [ex, ey]
    exact (RelL.zip h.sv (goodsOf hxD.1) (goodsOf hyD.1)).append hr
  · exact .clash he (by rw [x1]; exact hxn) (by rw [y1]; exact h2) (by rw [x1, y1, ex, ey, appL_length, appL_length]; exact h3) (ustate_clash hu hxn h2 h3)
end
theorem unS_law {D : List Tm} {L0 : Pairs} (hD : Closed D) : ∀ (n : Nat) (f : Env) (S : Sub) (L L' : Pairs), SState D L0 f S L → RelL S L' L → meas D f S L < n → ∃ r, unS n S L' = some r ∧ Ends D L0 r
  | 0, _, _, _, _, _, _, h => absurd h (by omega)
  | n + 1, f, S, _, _, h, .nil, hm => ⟨some S, rfl, f, h.sv, h.us, h.fd⟩
  | n + 1, f, S, (a, b) :: L, (a', b') :: L', h, .cons ⟨ha, hb⟩ hr, hm => by
    have hbind : ∀ v y, BindTo D L0 (meas D f S ((a, b) :: L)) S L L' v y → ∃ r, (if v ∈ varsT y then some none else unS n (fun w => app (oneS v y) (S w)) L') = some r ∧ Ends D L0 r := by
      rintro v y ⟨-, -, ⟨h1, h2⟩ | ⟨h1, f', h2, h3, h4⟩⟩
      · exact ⟨none, by rw [if_pos h1], h2⟩
      · rw [if_neg h1]
        exact unS_law hD n f' _ L L' h2 h4 (by omega)
    simp only [unS]
    cases u_step hD h ha hb hr with
    | skip e h1 h2 h3 =>
      rw [if_pos (sameB_iff.2 e)]
      exact unS_law hD n f S L L' h1 h3 (by omega)
    | left e h1 h2 h3 =>
      rw [if_neg (fun q => e (sameB_iff.1 q)), if_pos ⟨h1, h2⟩]
      exact hbind _ _ h3
    | right e h1 h2 h3 =>
      rw [if_neg (fun q => e (sameB_iff.1 q)), if_neg h1, if_pos h2]
      exact hbind _ _ h3
    | args M e h1 h2 h3 h4 h5 h6 h7 =>
      rw [if_neg (fun q => e (sameB_iff.1 q)), if_neg (fun q => h1 q.1), if_neg h2, if_pos ⟨h3, h4⟩]
      exact unS_law hD n f S M _ h5 h7 (by omega)
    | clash e h1 h2 h3 h4 =>
      rw [if_neg (fun q => e (sameB_iff.1 q)), if_neg (fun q => h1 q.1), if_neg h2, if_neg h3]
      exact ⟨none, rfl, h4⟩
end Go.Proofs.YtneecjikdghchaaDoor
