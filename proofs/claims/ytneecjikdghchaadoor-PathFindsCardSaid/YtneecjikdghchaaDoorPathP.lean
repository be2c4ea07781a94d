/- path, purely: the places of a term, and what stands there; forms and odds. -/
import Derived.Lib.ItoaNum
import Derived.Test.YtneecjikdghchaaDoorRef1p
set_option linter.unusedSimpArgs false
set_option linter.unusedVariables false
namespace Go.Proofs.YtneecjikdghchaaDoor
open Go.RowKit

/-! ### Places as texts -/
theorem pdig_toNat {k : Nat} (h : k < 10) : (UInt8.ofNat (48 + k)).toNat = 48 + k := by
  rw [UInt8.toNat_ofNat']; omega
theorem pdec_range (u : Nat) : ∀ c, c ∈ Lib.decDigits u → 48 ≤ c.toNat ∧ c.toNat ≤ 57 := by
  induction u using Nat.strongRecOn with
  | _ u ih =>
    intro c hc
    rw [Lib.decDigits] at hc
    split at hc
    · next h =>
      simp only [List.mem_singleton] at hc; subst hc; rw [pdig_toNat h]; omega
    · rcases List.mem_append.1 hc with h | h
      · exact ih _ (by omega) c h
      · simp only [List.mem_singleton] at h; subst h; rw [pdig_toNat (by omega)]; omega
def pvalD (l : List UInt8) : Nat := l.foldl (fun a c => 10 * a + (c.toNat - 48)) 0
theorem pvalD_dec (u : Nat) : pvalD (Lib.decDigits u) = u := by
  induction u using Nat.strongRecOn with
  | _ u ih =>
    rw [Lib.decDigits]
    split
    · next h => simp [pvalD]; have := pdig_toNat h; simp at this; omega
    · have := ih (u / 10) (by omega)
      have hd := pdig_toNat (k := u % 10) (by omega)
      simp only [pvalD, List.foldl_append, List.foldl_cons, List.foldl_nil] at this ⊢
      rw [this, hd]; omega
theorem pdec_inj {u v : Nat} (h : Lib.decDigits u = Lib.decDigits v) : u = v := by rw [← pvalD_dec u, h, pvalD_dec]
theorem pdec_nd (u : Nat) : ∀ c, c ∈ Lib.decDigits u → c ≠ 46 := by
  rintro c hc rfl
  have := pdec_range u 46 hc
  simp at this
theorem dot_split : ∀ (a b x y : List UInt8), (∀ c, c ∈ a → c ≠ 46) → (∀ c, c ∈ b → c ≠ 46) → a ++ 46 :: x = b ++ 46 :: y → a = b ∧ x = y
  | [], [], x, y, _, _, h => by simpa using h
  | [], d :: b, x, y, _, hb, h => by
    simp only [List.nil_append, List.cons_append, List.cons.injEq] at h
    exact absurd h.1.symm (hb d (by simp))
  | c :: a, [], x, y, ha, _, h => by
    simp only [List.nil_append, List.cons_append, List.cons.injEq] at h
    exact absurd h.1 (ha c (by simp))
  | c :: a, d :: b, x, y, ha, hb, h => by
    simp only [List.cons_append, List.cons.injEq] at h
    obtain ⟨e1, e2⟩ := dot_split a b x y (fun z hz => ha z (by simp [hz])) (fun z hz => hb z (by simp [hz])) h.2
    exact ⟨by rw [h.1, e1], e2⟩
def dotB : List Nat → List UInt8
  | [] => []
  | i :: p => Lib.decDigits i ++ 46 :: dotB p
theorem dotB_append : ∀ (p q : List Nat), dotB (p ++ q) = dotB p ++ dotB q
  | [], q => rfl
  | i :: p, q => by simp only [List.cons_append, dotB, dotB_append p q, List.append_assoc]
theorem dotB_inj : ∀ (p q : List Nat), dotB p = dotB q → p = q
  | [], [], _ => rfl
  | [], j :: q, h => by simp only [dotB] at h; exact absurd h.symm (by simp)
  | i :: p, [], h => by simp only [dotB] at h; exact absurd h (by simp)
  | i :: p, j :: q, h => by
    simp only [dotB] at h
    obtain ⟨e1, e2⟩ := dot_split _ _ _ _ (pdec_nd i) (pdec_nd j) h
    rw [pdec_inj e1, dotB_inj p q e2]

/-! ### Spots -/
structure Spt where
  p : List Nat
  h : Int
  n : Nat
deriving DecidableEq
def atP : List Nat → Tm → Option (Int × Nat)
  | [], t => if t.h < 0 then none else some (t.h, t.args.length)
  | i :: q, t => if t.h < 0 then none else (t.args[i]?).bind (atP q)
mutual
def psT (p : List Nat) : Tm → List Spt
  | .node h l => if h < 0 then [] else ⟨p, h, l.length⟩ :: psL p 0 l
def psL (p : List Nat) (i : Nat) : List Tm → List Spt
  | [] => []
  | t :: ts => psT (p ++ [i]) t ++ psL p (i + 1) ts
end
mutual
theorem mem_psT : ∀ (t : Tm) (p : List Nat) (s : Spt), s ∈ psT p t ↔ ∃ q, s.p = p ++ q ∧ atP q t = some (s.h, s.n)
  | .node h l, p, s => by
    rw [psT]
    split
    · next hn =>
      simp only [List.not_mem_nil, false_iff, not_exists, not_and]
      intro q _
      cases q <;> simp [atP, Tm.h, hn]
    · next hn =>
      rw [List.mem_cons, mem_psL l p 0 s]
      constructor
      · rintro (rfl | ⟨k, q, t, h1, h2, h3⟩)
        · exact ⟨[], by simp, by simp [atP, Tm.h, Tm.args, hn]⟩
        · exact ⟨k :: q, by simpa using h2, by simp [atP, Tm.h, Tm.args, hn, h1, h3]⟩
      · rintro ⟨q, h1, h2⟩
        cases q with
        | nil =>
          simp only [atP, Tm.h, Tm.args, hn, if_false, Option.some.injEq, Prod.mk.injEq] at h2
          left
          cases s
          simp_all
        | cons k q =>
          simp only [atP, Tm.h, Tm.args, hn, if_false] at h2
          obtain ⟨t, h3, h4⟩ := Option.bind_eq_some_iff.1 h2
          exact .inr ⟨k, q, t, h3, by simpa using h1, h4⟩
theorem mem_psL : ∀ (ts : List Tm) (p : List Nat) (i : Nat) (s : Spt), s ∈ psL p i ts ↔ ∃ k q t, ts[k]? = some t ∧ s.p = p ++ (i + k) :: q ∧ atP q t = some (s.h, s.n)
  | [], p, i, s => by simp [psL]
  | t :: ts, p, i, s => by
    rw [psL, List.mem_append, mem_psT t (p ++ [i]) s, mem_psL ts p (i + 1) s]
    constructor
    · rintro (⟨q, h1, h2⟩ | ⟨k, q, u, h1, h2, h3⟩)
      · exact ⟨0, q, t, rfl, by simpa using h1, h2⟩
      · exact ⟨k + 1, q, u, by simpa using h1, by rw [h2]; congr 2; omega, h3⟩
    · rintro ⟨k, q, u, h1, h2, h3⟩
      cases k with
      | zero =>
        simp only [List.getElem?_cons_zero, Option.some.injEq] at h1
        subst h1
        exact .inl ⟨q, by simpa using h2, h3⟩
      | succ k =>
        exact .inr ⟨k, q, u, by simpa using h1, by rw [h2]; congr 2; omega, h3⟩
end
mutual
theorem nodup_psT : ∀ (t : Tm) (p : List Nat), ((psT p t).map Spt.p).Nodup
  | .node h l, p => by
    rw [psT]
    split
    · exact List.nodup_nil
    · rw [List.map_cons, List.nodup_cons]
      refine ⟨fun hm => ?_, nodup_psL l p 0⟩
      obtain ⟨s, hs, h1⟩ := List.mem_map.1 hm
      obtain ⟨k, q, t, -, h2, -⟩ := (mem_psL l p 0 s).1 hs
      simp only at h1
      rw [h1] at h2
      have := congrArg List.length h2
      simp at this
theorem nodup_psL : ∀ (ts : List Tm) (p : List Nat) (i : Nat), ((psL p i ts).map Spt.p).Nodup
  | [], p, i => by simp [psL]
  | t :: ts, p, i => by
    rw [psL, List.map_append, List.nodup_append]
    refine ⟨nodup_psT t _, nodup_psL ts p (i + 1), fun a ha b hb e => ?_⟩
    obtain ⟨s, hs, rfl⟩ := List.mem_map.1 ha
    obtain ⟨s', hs', rfl⟩ := List.mem_map.1 hb
    obtain ⟨q, h1, -⟩ := (mem_psT t _ s).1 hs
    obtain ⟨k, q', u, -, h2, -⟩ := (mem_psL ts p (i + 1) s').1 hs'
    rw [h1, h2, List.append_assoc] at e
    have := List.append_cancel_left e
    simp at this
    omega
end
theorem nodup_ps (t : Tm) : (psT [] t).Nodup := List.Pairwise.of_map Spt.p (fun a b h e => h (by rw [e])) (nodup_psT t [])
theorem mem_ps {t : Tm} {s : Spt} : s ∈ psT [] t ↔ atP s.p t = some (s.h, s.n) := by
  rw [mem_psT]
  constructor
  · rintro ⟨q, h1, h2⟩; rw [h1]; exact h2
  · exact fun h => ⟨s.p, rfl, h⟩

/-! ### Forms, odds -/
mutual
def formT : Tm → Tm → Bool
  | .node h l, t => if h < 0 then true else if h ≠ t.h ∨ l.length ≠ t.args.length then false else formL l t.args
def formL : List Tm → List Tm → Bool
  | [], _ => true
  | _ :: _, [] => true
  | p :: ps, t :: ts => formT p t && formL ps ts
end
mutual
def oddsT : Tm → Tm → Bool
  | .node h l, t => if h < 0 ∨ t.h < 0 then false else if h ≠ t.h ∨ l.length ≠ t.args.length then true else oddsL l t.args
def oddsL : List Tm → List Tm → Bool
  | [], _ => false
  | _ :: _, [] => false
  | p :: ps, t :: ts => oddsT p t || oddsL ps ts
end
theorem atP_neg {t : Tm} (h : t.h < 0) : ∀ q, atP q t = none
  | [] => by simp [atP, h]
  | i :: q => by simp [atP, h]
theorem atP_nil {t : Tm} (h : ¬ t.h < 0) : atP [] t = some (t.h, t.args.length) := by simp [atP, h]
theorem atP_cons {t : Tm} (h : ¬ t.h < 0) (i : Nat) (q : List Nat) : atP (i :: q) t = (t.args[i]?).bind (atP q) := by simp [atP, h]
mutual
theorem form_iff : ∀ (u t : Tm), formT u t = true ↔ ∀ q x, atP q u = some x → atP q t = some x
  | .node h l, t => by
    rw [formT]
    by_cases hn : h < 0
    · simp only [hn, if_true, true_iff]
      intro q x hx
      rw [atP_neg (t := .node h l) hn] at hx; cases hx
    · simp only [hn, if_false]
      by_cases hh : h ≠ t.h ∨ l.length ≠ t.args.length
      · rw [if_pos hh]
        simp only [Bool.false_eq_true, false_iff]
        intro hx
        have h1 := hx [] (h, l.length) (by rw [atP_nil (t := .node h l) hn]; rfl)
        by_cases ht : t.h < 0
        · rw [atP_neg ht] at h1; cases h1
        · rw [atP_nil ht] at h1
          simp only [Option.some.injEq, Prod.mk.injEq] at h1
          rcases hh with hh | hh
          · exact hh h1.1.symm
          · exact hh h1.2.symm
      · rw [if_neg hh]
        simp only [not_or, Decidable.not_not] at hh
        rw [formL_iff l t.args]
        have ht : ¬ t.h < 0 := by rw [← hh.1]; exact hn
        constructor
        · intro hx q x hq
          cases q with
          | nil =>
            rw [atP_nil (t := .node h l) hn] at hq
            rw [atP_nil ht, ← hh.1, ← hh.2]; exact hq
          | cons i q =>
            rw [atP_cons (t := .node h l) hn] at hq
            obtain ⟨u, hu, hq⟩ := Option.bind_eq_some_iff.1 hq
            have hi : i < t.args.length := by
              have := (List.getElem?_eq_some_iff.1 hu).1
              simp only [Tm.args] at this; omega
            rw [atP_cons ht, List.getElem?_eq_getElem hi]
            exact hx i u _ hu (List.getElem?_eq_getElem hi) q x hq
        · intro hx i u v hu hv q x hq
          have := hx (i :: q) x (by rw [atP_cons (t := .node h l) hn]; simp only [Tm.args, hu, Option.bind_some]; exact hq)
          rw [atP_cons ht, hv] at this
          exact this
theorem formL_iff : ∀ (us ts : List Tm), formL us ts = true ↔ ∀ (i : Nat) u t, us[i]? = some u → ts[i]? = some t → ∀ q x, atP q u = some x → atP q t = some x
  | [], ts => by simp [formL]
  | u :: us, [] => by simp [formL]
  | u :: us, t :: ts => by
    rw [formL, Bool.and_eq_true, form_iff u t, formL_iff us ts]
    constructor
    · rintro ⟨h1, h2⟩ i v w hv hw
      cases i with
      | zero => simp at hv hw; subst hv hw; exact h1
      | succ i => exact h2 i v w (by simpa using hv) (by simpa using hw)
    · intro hx
      exact ⟨hx 0 u t rfl rfl, fun i v w hv hw => hx (i + 1) v w (by simpa using hv) (by simpa using hw)⟩
end
mutual
theorem odds_iff : ∀ (a b : Tm), oddsT a b = false ↔ ∀ q x y, atP q a = some x → atP q b = some y → x = y
  | .node h l, t => by
    rw [oddsT]
    by_cases hn : h < 0
    · simp only [hn, true_or, if_true, true_iff]
      intro q x y hx
      rw [atP_neg (t := .node h l) hn] at hx; cases hx
    by_cases ht : t.h < 0
    · simp only [ht, or_true, if_true, true_iff]
      intro q x y _ hy
      rw [atP_neg ht] at hy; cases hy
    rw [if_neg (by omega)]
    by_cases hh : h ≠ t.h ∨ l.length ≠ t.args.length
    · rw [if_pos hh]
      simp only [Bool.true_eq_false, false_iff]
      intro hx
      have h1 := hx [] (h, l.length) (t.h, t.args.length) (by rw [atP_nil (t := .node h l) hn]; rfl) (atP_nil ht)
      simp only [Prod.mk.injEq] at h1
      rcases hh with hh | hh
      · exact hh h1.1
      · exact hh h1.2
    · rw [if_neg hh]
      simp only [not_or, Decidable.not_not] at hh
      rw [oddsL_iff l t.args hh.2]
      constructor
      · intro hx q x y hq hq'
        cases q with
        | nil =>
          rw [atP_nil (t := .node h l) hn] at hq
          rw [atP_nil ht] at hq'
          simp only [Option.some.injEq] at hq hq'
          rw [← hq, ← hq', ← hh.1, ← hh.2]; rfl
        | cons i q =>
          rw [atP_cons (t := .node h l) hn] at hq
          rw [atP_cons ht] at hq'
          obtain ⟨u, hu, hq⟩ := Option.bind_eq_some_iff.1 hq
          obtain ⟨v, hv, hq'⟩ := Option.bind_eq_some_iff.1 hq'
          exact hx i u v hu hv q x y hq hq'
      · intro hx i u v hu hv q x y hq hq'
        exact hx (i :: q) x y (by rw [atP_cons (t := .node h l) hn]; simp only [Tm.args, hu, Option.bind_some]; exact hq) (by rw [atP_cons ht, hv]; exact hq')
theorem oddsL_iff : ∀ (us ts : List Tm), us.length = ts.length → (oddsL us ts = false ↔ ∀ (i : Nat) u t, us[i]? = some u → ts[i]? = some t → ∀ q x y, atP q u = some x → atP q t = some y → x = y)
  | [], ts, _ => by simp [oddsL]
  | u :: us, [], h => by simp at h
  | u :: us, t :: ts, h => by
    rw [oddsL, Bool.or_eq_false_iff, odds_iff u t, oddsL_iff us ts (by simpa using h)]
    constructor
    · rintro ⟨h1, h2⟩ i v w hv hw
      cases i with
      | zero => simp at hv hw; subst hv hw; exact h1
      | succ i => exact h2 i v w (by simpa using hv) (by simpa using hw)
    · intro hx
      exact ⟨hx 0 u t rfl rfl, fun i v w hv hw => hx (i + 1) v w (by simpa using hv) (by simpa using hw)⟩
end

/-! ### Counts -/
/-- How many of t's spots u has. -/
def cHave (t u : Tm) : Nat := ((psT [] t).filter fun s => decide (s ∈ psT [] u)).length
/-- At how many of t's places u has some symbol. -/
def cAny (t u : Tm) : Nat := ((psT [] t).filter fun s => (atP s.p u).isSome).length
theorem len_filter_iff {α : Type} (p : α → Bool) : ∀ (l : List α), (l.filter p).length = l.length ↔ ∀ x, x ∈ l → p x = true := fun l => by
  exact List.length_filter_eq_length_iff
theorem inst_iff (t u : Tm) : cHave t u = (psT [] t).length ↔ formT t u = true := by
  rw [cHave, len_filter_iff, form_iff]
  constructor
  · intro hx q x hq
    have := hx ⟨q, x.1, x.2⟩ (mem_ps.2 hq)
    simp only [decide_eq_true_eq] at this
    exact mem_ps.1 this
  · intro hx s hs
    simp only [decide_eq_true_eq]
    exact mem_ps.2 (hx _ _ (mem_ps.1 hs))
theorem inter_comm (t u : Tm) : cHave t u = cHave u t := by
  have h1 : ((psT [] t).filter fun s => decide (s ∈ psT [] u)).Perm ((psT [] u).filter fun s => decide (s ∈ psT [] t)) := by
    refine (List.perm_ext_iff_of_nodup ((nodup_ps t).filter _) ((nodup_ps u).filter _)).2 fun s => ?_
    simp only [List.mem_filter, decide_eq_true_eq]
    exact ⟨fun h => ⟨h.2, h.1⟩, fun h => ⟨h.2, h.1⟩⟩
  exact h1.length_eq
theorem gen_iff (t u : Tm) : cHave t u = (psT [] u).length ↔ formT u t = true := by
  rw [inter_comm]; exact inst_iff u t
theorem filter_le_iff {α : Type} (p q : α → Bool) (hpq : ∀ x, p x = true → q x = true) : ∀ (l : List α), (l.filter p).length = (l.filter q).length ↔ ∀ x, x ∈ l → q x = true → p x = true
  | [] => by simp
  | a :: l => by
    have ih := filter_le_iff p q hpq l
    have hle : (l.filter p).length ≤ (l.filter q).length := by
      have : (l.filter p) = (l.filter q).filter p := by
        rw [List.filter_filter]
        congr 1
        funext x
        cases hp : p x with
        | false => rfl
        | true => simp [hpq x hp]
      rw [this]; exact List.length_filter_le _ _
    simp only [List.filter_cons]
    cases hp : p a with
    | true =>
      simp only [hpq a hp, if_true, List.length_cons, Nat.add_right_cancel_iff, ih]
      constructor
      · intro h x hx hq
        rcases List.mem_cons.1 hx with rfl | hx
        · exact hp
        · exact h x hx hq
      · exact fun h x hx hq => h x (List.mem_cons_of_mem _ hx) hq
    | false =>
      cases hq : q a with
      | false =>
        simp only [Bool.false_eq_true, if_false, ih]
        constructor
        · intro h x hx hq'
          rcases List.mem_cons.1 hx with rfl | hx
          · rw [hq] at hq'; cases hq'
          · exact h x hx hq'
        · exact fun h x hx hq' => h x (List.mem_cons_of_mem _ hx) hq'
      | true =>
        simp only [Bool.false_eq_true, if_false, if_true, List.length_cons]
        constructor
        · intro h; omega
        · intro h; have := h a (by simp) hq; rw [hp] at this; cases this
theorem unif_iff (t u : Tm) : cHave t u = cAny t u ↔ oddsT u t = false := by
  rw [cHave, cAny, filter_le_iff _ _ (fun s hs => by
    simp only [decide_eq_true_eq] at hs
    rw [mem_ps.1 hs]; rfl), odds_iff]
  constructor
  · intro hx q x y hu ht
    have := hx ⟨q, y.1, y.2⟩ (mem_ps.2 ht) (by simp only [hu]; rfl)
    simp only [decide_eq_true_eq] at this
    have := mem_ps.1 this
    simp only [hu, Option.some.injEq] at this
    exact this
  · intro hx s hs hq
    obtain ⟨y, hy⟩ := Option.isSome_iff_exists.1 hq
    simp only [decide_eq_true_eq]
    refine mem_ps.2 ?_
    rw [hy, hx _ _ _ hy (mem_ps.1 hs)]
end Go.Proofs.YtneecjikdghchaaDoor
