/- BankOnce, purely. -/
import Derived.Test.YtefmgooceeigbaaDoorBank8
set_option linter.unusedSimpArgs false
set_option linter.unusedVariables false
namespace Go.Proofs.YtefmgooceeigbaaDoor
open Go.RowKit
theorem sizes_append : ∀ (a b : List Tm), Tm.sizes (a ++ b) = Tm.sizes a + Tm.sizes b
  | [], b => by simp [Tm.sizes]
  | t :: a, b => by simp only [List.cons_append, Tm.sizes, sizes_append a b]; omega
theorem sizes_take (l : List Tm) (i : Nat) (h : i < l.length) : Tm.sizes (l.take (i + 1)) = Tm.sizes (l.take i) + (l[i]).size ∧ Tm.sizes (l.take (i + 1)) ≤ Tm.sizes l := by
  have h1 : Tm.sizes (l.take (i + 1)) = Tm.sizes (l.take i) + (l[i]).size := by rw [List.take_succ_eq_append_getElem h, sizes_append]; simp [Tm.sizes]
  have h2 := congrArg Tm.sizes (List.take_append_drop (i + 1) l)
  rw [sizes_append] at h2
  exact ⟨h1, by omega⟩
/-- A right term is kept; kept again nothing is kept more. -/
theorem once_put {R : List Rw} {t : Tm} (hg : Good R) (hc : chk t = 0) (hl : R.length + t.size ≤ 4000) : ∃ (R' : List Rw) (n : Nat), putB R t = (R', (n : Int), 0) ∧ IsAt R' t n ∧ Kept R R' t.size ∧ putB R' t = (R', (n : Int), 0) ∧ findT R' t = some n ∧ (R'[n]?).map (fun r => r.2.length) = some t.args.length := by
  obtain ⟨h1, h2, h3⟩ := putT_kept t R hg
  rcases hp : putT R t with ⟨R', o⟩
  rw [hp] at h1 h2 h3
  simp only at h1 h2 h3
  cases o with
  | none => have := h3 rfl; have := h1.few; omega
  | some n =>
    have hat := h2 n rfl
    obtain ⟨hi, e1, e2⟩ := isAt_row hat
    exact ⟨R', n, by rw [putB, if_pos hc, hp]; rfl, hat, h1, by rw [putB, if_pos hc, putT_there _ _ _ h1.good hat]; rfl, (findT_iff h1.good t n).2 hat, by rw [List.getElem?_eq_getElem hi]; simp [AreAt.length _ _ e2]⟩
/-- Two terms have one number just if they are the same. -/
theorem once_same {R : List Rw} (hg : Good R) {t u : Tm} {n m : Nat} (h : IsAt R t n) (h' : findT R u = some m) : (decide ((m : Int) = (n : Int)) != sameB u t) = false := by
  have h2 := (findT_iff hg u m).1 h'
  by_cases e : m = n
  · subst e
    obtain rfl := IsAt.one _ _ _ h h2
    simp [sameB_self]
  · have : sameB u t = false := by
      cases hs : sameB u t with
      | false => rfl
      | true => rw [sameB_iff.1 hs] at h2; exact absurd (IsAt.inj hg _ _ _ h2 h) e
    rw [this]; simp; omega
theorem Sized.lens {R : List Rw} {m : Nat} (h : Sized R m) : ∀ i (hi : i < R.length), (R[i]).2.length ≤ m := fun i hi => by
  obtain ⟨t, h1, h2⟩ := h i hi
  obtain ⟨_, _, e2⟩ := isAt_row h1
  have := AreAt.length _ _ e2
  have := t.size_eq
  have := Tm.sizes_length t.args
  omega
end Go.Proofs.YtefmgooceeigbaaDoor
