/- A bank filled with wide terms, purely. -/
import Derived.Test.YtefmgooceeigbaaDoorBankP
set_option linter.unusedSimpArgs false
set_option linter.unusedVariables false
namespace Go.Proofs.YtefmgooceeigbaaDoor
open Go.RowKit

def tvar (k : Nat) : Tm := .node (-1 - (k : Int)) []
def wide (i : Nat) : Tm := .node 7 [tvar (i % 250), tvar (i / 250 % 250)]
theorem wide_inj {i j : Nat} (hi : i < 62500) (hj : j < 62500) (h : wide i = wide j) : i = j := by
  simp only [wide, tvar, Tm.node.injEq, List.cons.injEq, and_true, true_and] at h
  omega
theorem isAt_leaf {R : List Rw} {h : Int} {n : Nat} : IsAt R (.node h []) n ↔ R[n]? = some (h, []) := by
  simp only [IsAt, AreAt]
  constructor
  · rintro ⟨ns, h1, rfl⟩; exact h1
  · exact fun h1 => ⟨[], h1, rfl⟩
theorem isAt_two {R : List Rw} {h : Int} {t u : Tm} {n : Nat} : IsAt R (.node h [t, u]) n ↔ ∃ a b, R[n]? = some (h, [a, b]) ∧ IsAt R t a ∧ IsAt R u b := by
  simp only [IsAt, AreAt]
  constructor
  · rintro ⟨ns, h1, a, m, rfl, h2, b, m', rfl, h3, rfl⟩; exact ⟨a, b, h1, h2, h3⟩
  · rintro ⟨a, b, h1, h2, h3⟩; exact ⟨_, h1, a, _, rfl, h2, b, _, rfl, h3, rfl⟩
theorem put_leaf {R : List Rw} (hg : Good R) (hl : R.length < 4096) (h : Int) : ∃ n : Nat, (R[n]? = some (h, []) ∧ putT R (.node h []) = (R, some n)) ∨ (n = R.length ∧ (∀ m : Nat, R[m]? ≠ some (h, [])) ∧ putT R (.node h []) = (R ++ [(h, [])], some n) ∧ Good (R ++ [(h, [])])) := by
  cases hx : idx R (h, []) with
  | some n => exact ⟨n, .inl ⟨idx_some hx, by simp only [putT, putL, hx]⟩⟩
  | none =>
    refine ⟨R.length, .inr ⟨rfl, idx_none hx, ?_, hg.snoc hx (by simp)⟩⟩
    simp only [putT, putL, hx]
    rw [if_neg (by omega)]
theorem put_leaf_full {R : List Rw} (hl : 4096 ≤ R.length) {h : Int} (hn : ∀ m : Nat, R[m]? ≠ some (h, [])) : putT R (.node h []) = (R, none) := by
  cases hx : idx R (h, []) with
  | some n => exact absurd (idx_some hx) (hn n)
  | none =>
    simp only [putT, putL, hx]
    rw [if_pos hl]
structure WideInv (R : List Rw) (i : Nat) : Prop where
  good : Good R
  lo : i ≤ R.length
  hi : R.length ≤ i + min i 250
  vars : ∀ k, k < 250 → k < i → ∃ n : Nat, R[n]? = some (-1 - (k : Int), [])
  wides : ∀ j, j < i → ∃ n, IsAt R (wide j) n
  all : ∀ (n : Nat) h ns, R[n]? = some (h, ns) → (h < 0 ∧ ns = []) ∨ (h = 7 ∧ ∃ j, j < i ∧ IsAt R (wide j) n)
theorem WideInv.nil : WideInv [] 0 := ⟨.nil, by simp, by simp, fun k _ h => by omega, fun k h => by omega, fun n h ns hn => by simp at hn⟩
theorem snoc_pre {R : List Rw} {r : Rw} : ∀ (i : Nat) q, R[i]? = some q → (R ++ [r])[i]? = some q := fun i q h => by
  rw [List.getElem?_append_left (List.getElem?_eq_some_iff.1 h).1]; exact h
theorem snoc_cases {R : List Rw} {r q : Rw} {i : Nat} (h : (R ++ [r])[i]? = some q) : R[i]? = some q ∨ (i = R.length ∧ q = r) := by
  by_cases hi : i < R.length
  · rw [List.getElem?_append_left hi] at h; exact .inl h
  · rw [List.getElem?_append_right (by omega)] at h
    have h0 : i - R.length = 0 := by
      have := (List.getElem?_eq_some_iff.1 h).1
      simp at this; omega
    rw [h0] at h
    simp at h
    exact .inr ⟨by omega, h.symm⟩
theorem WideInv.step {R : List Rw} {i : Nat} (h : WideInv R i) (hl : R.length < 4096) (hi : i < 62500) : ∃ R' n, putT R (wide i) = (R', some n) ∧ WideInv R' (i + 1) ∧ R'.length ≤ 4096 := by
  obtain ⟨a, ha⟩ := put_leaf h.good hl (-1 - ((i % 250 : Nat) : Int))
  obtain ⟨R1, hR1, g1, e1, p1, l1, c1, b1, x1⟩ : ∃ R1, putT R (tvar (i % 250)) = (R1, some a) ∧ Good R1 ∧ R1[a]? = some (-1 - ((i % 250 : Nat) : Int), []) ∧ (∀ (i : Nat) q, R[i]? = some q → R1[i]? = some q) ∧ R1.length < 4096 ∧ (R1.length = R.length ∨ (R1.length = R.length + 1 ∧ i < 250)) ∧ R.length ≤ R1.length ∧ (∀ (n : Nat) h ns, R1[n]? = some (h, ns) → (h < 0 ∧ ns = []) ∨ (h = 7 ∧ R[n]? = some (h, ns))) := by
    rcases ha with ⟨h1, h2⟩ | ⟨h1, h2, h3, h4⟩
    · refine ⟨R, h2, h.good, h1, fun _ _ h => h, hl, .inl rfl, Nat.le_refl _, fun n hd ns hn => ?_⟩
      rcases h.all _ _ _ hn with h | ⟨h, -⟩
      · exact .inl h
      · exact .inr ⟨h, hn⟩
    · have hlt : i < 250 := by
        refine Decidable.byContradiction fun hge => ?_
        obtain ⟨n, hn⟩ := h.vars (i % 250) (Nat.mod_lt _ (by omega)) (Nat.lt_of_lt_of_le (Nat.mod_lt i (y := 250) (by omega)) (by omega))
        exact h2 _ hn
      refine ⟨_, h3, h4, by rw [h1]; simp, snoc_pre, ?_, .inr ⟨by simp, hlt⟩, by simp, fun n hd ns hn => ?_⟩
      · have := h.hi; simp; omega
      · rcases snoc_cases hn with hn | ⟨-, hn⟩
        · rcases h.all _ _ _ hn with h | ⟨h, -⟩
          · exact .inl h
          · exact .inr ⟨h, hn⟩
        · simp only [Prod.mk.injEq] at hn
          exact .inl ⟨by rw [hn.1]; omega, hn.2⟩
  obtain ⟨b, hb⟩ := put_leaf g1 l1 (-1 - ((i / 250 % 250 : Nat) : Int))
  have hb2 : R1[b]? = some (-1 - ((i / 250 % 250 : Nat) : Int), []) ∧ putT R1 (tvar (i / 250 % 250)) = (R1, some b) := by
    rcases hb with hb | ⟨-, h2, -⟩
    · exact hb
    · exfalso
      by_cases hlt : i < 250
      · have e : i / 250 % 250 = 0 := by omega
        rw [e] at h2
        by_cases h0 : i = 0
        · subst h0; exact h2 _ e1
        · obtain ⟨n, hn⟩ := h.vars 0 (by omega) (by omega)
          exact h2 _ (p1 _ _ hn)
      · obtain ⟨n, hn⟩ := h.vars (i / 250 % 250) (Nat.mod_lt _ (by omega)) (by omega)
        exact h2 _ (p1 _ _ hn)
  obtain ⟨e2, hR2⟩ := hb2
  have hw : ∀ n R2, (∀ (i : Nat) q, R1[i]? = some q → R2[i]? = some q) → R2[n]? = some (7, [a, b]) → IsAt R2 (wide i) n := fun n R2 hp hn =>
    isAt_two.2 ⟨a, b, hn, isAt_leaf.2 (hp _ _ e1), isAt_leaf.2 (hp _ _ e2)⟩
  have hnone : idx R1 (7, [a, b]) = none := by
    cases hx : idx R1 (7, [a, b]) with
    | none => rfl
    | some n =>
      have h1 := idx_some hx
      rcases x1 _ _ _ h1 with ⟨h2, -⟩ | ⟨-, h2⟩
      · omega
      · rcases h.all _ _ _ h2 with ⟨h3, -⟩ | ⟨-, j, hj, h3⟩
        · omega
        · have := wide_inj hi (by omega) (IsAt.one _ _ _ (hw n R1 (fun _ _ h => h) h1) (h3.mono p1 _ _))
          omega
  have hput : putT R (wide i) = (R1 ++ [(7, [a, b])], some R1.length) := by
    simp only [wide, putT, putL, hR1, hR2, hnone]
    rw [if_neg (by omega)]
  have hpp : ∀ (i : Nat) q, R[i]? = some q → (R1 ++ [(7, [a, b])])[i]? = some q := fun i q hq => snoc_pre _ _ (p1 _ _ hq)
  refine ⟨_, _, hput, ⟨?_, ?_, ?_, fun k hk hki => ?_, fun j hj => ?_, fun n hd ns hn => ?_⟩, by simp; omega⟩
  · exact g1.snoc hnone fun n hn => by
      simp only [List.mem_cons, List.not_mem_nil, or_false] at hn
      rcases hn with rfl | rfl
      · exact (List.getElem?_eq_some_iff.1 e1).1
      · exact (List.getElem?_eq_some_iff.1 e2).1
  · have := h.lo; simp; omega
  · have := h.hi
    simp only [List.length_append, List.length_cons, List.length_nil]
    rcases c1 with c1 | ⟨c1, c2⟩ <;> omega
  · by_cases hx : k < i
    · obtain ⟨n, hn⟩ := h.vars k hk hx
      exact ⟨n, hpp _ _ hn⟩
    · have : k = i % 250 := by omega
      exact ⟨a, by rw [this]; exact snoc_pre _ _ e1⟩
  · by_cases hx : j < i
    · obtain ⟨n, hn⟩ := h.wides j hx
      exact ⟨n, hn.mono hpp _ _⟩
    · have : j = i := by omega
      subst this
      exact ⟨R1.length, hw _ _ snoc_pre (by simp)⟩
  · rcases snoc_cases hn with hn | ⟨hn, hq⟩
    · rcases x1 _ _ _ hn with h1 | ⟨-, h1⟩
      · exact .inl h1
      · rcases h.all _ _ _ h1 with h2 | ⟨h2, j, hj, h3⟩
        · exact .inl h2
        · exact .inr ⟨h2, j, by omega, h3.mono hpp _ _⟩
    · simp only [Prod.mk.injEq] at hq
      subst hn
      exact .inr ⟨hq.1, i, by omega, hw _ _ snoc_pre (by simp)⟩
/-- Full: what is new is refused, what is there is told. -/
theorem WideInv.full {R : List Rw} {i : Nat} (h : WideInv R i) (hl : 4096 ≤ R.length) (hi : i < 62500) (n : Nat) (hn : n ≤ 900) : putT R (.node ((n : Int) + 100) []) = (R, none) ∧ ∃ m, IsAt R (wide n) m ∧ putT R (wide n) = (R, some m) := by
  constructor
  · refine put_leaf_full hl fun m hm => ?_
    rcases h.all _ _ _ hm with ⟨h1, -⟩ | ⟨h1, -⟩ <;> omega
  · have := h.hi
    obtain ⟨m, hm⟩ := h.wides n (by omega)
    exact ⟨m, hm, putT_there _ _ _ h.good hm⟩
end Go.Proofs.YtefmgooceeigbaaDoor
