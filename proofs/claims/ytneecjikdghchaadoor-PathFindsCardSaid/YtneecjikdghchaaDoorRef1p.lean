/- Comparing terms, purely. -/
import Derived.Test.YtneecjikdghchaaDoorRef1c
set_option linter.unusedSimpArgs false
set_option linter.unusedVariables false
namespace Go.Proofs.YtneecjikdghchaaDoor
open Go.RowKit

def ordI (a b : Int) : Int := if a < b then -1 else if b < a then 1 else 0
mutual
def cmpT : Tm → Tm → Int
  | .node h l, u => if (Tm.node h l).size ≠ u.size then ordI (Tm.node h l).size u.size else if h ≠ u.h then ordI h u.h else if l.length ≠ u.args.length then ordI l.length u.args.length else cmpL l u.args
def cmpL : List Tm → List Tm → Int
  | [], _ => 0
  | _ :: _, [] => 0
  | t :: ts, us => match us with | [] => 0 | u :: us => if cmpT t u ≠ 0 then cmpT t u else cmpL ts us
end
theorem cmpT_eq (t u : Tm) : cmpT t u = if t.size ≠ u.size then ordI t.size u.size else if t.h ≠ u.h then ordI t.h u.h else if t.args.length ≠ u.args.length then ordI t.args.length u.args.length else cmpL t.args u.args := by
  cases t; simp only [cmpT]; rfl
theorem cmpL_drop (l m : List Tm) (k : Nat) (h : k < l.length) (h2 : k < m.length) : cmpL (l.drop k) (m.drop k) = if cmpT l[k] m[k] ≠ 0 then cmpT l[k] m[k] else cmpL (l.drop (k + 1)) (m.drop (k + 1)) := by
  rw [List.drop_eq_getElem_cons h, List.drop_eq_getElem_cons h2]; simp only [cmpL]
theorem ordI_zero {a b : Int} (h : ordI a b = 0) : a = b := by
  unfold ordI at h
  by_cases h1 : a < b
  · rw [if_pos h1] at h; omega
  · by_cases h2 : b < a
    · rw [if_neg h1, if_pos h2] at h; omega
    · omega
mutual
theorem cmpT_zero : ∀ (t u : Tm), cmpT t u = 0 ↔ t = u
  | .node h l, .node h' l' => by
    have hl := cmpL_zero l l'
    have e0 : cmpT (.node h l) (.node h' l') = if (Tm.node h l).size ≠ (Tm.node h' l').size then ordI (Tm.node h l).size (Tm.node h' l').size else if h ≠ h' then ordI h h' else if l.length ≠ l'.length then ordI l.length l'.length else cmpL l l' := by
      simp only [cmpT]; rfl
    rw [e0]
    by_cases h1 : (Tm.node h l).size ≠ (Tm.node h' l').size
    · rw [if_pos h1]
      constructor
      · intro e; have := ordI_zero e; omega
      · intro e; rw [e] at h1; exact absurd rfl h1
    · rw [if_neg h1]
      by_cases h2 : h ≠ h'
      · rw [if_pos h2]
        constructor
        · intro e; exact absurd (ordI_zero e) h2
        · intro e; cases e; exact absurd rfl h2
      · rw [if_neg h2]
        by_cases h3 : l.length ≠ l'.length
        · rw [if_pos h3]
          constructor
          · intro e; have := ordI_zero e; omega
          · intro e; cases e; exact absurd rfl h3
        · rw [if_neg h3]
          simp only [ne_eq, Decidable.not_not] at h2 h3
          rw [hl h3, h2]; simp
theorem cmpL_zero : ∀ (l m : List Tm), l.length = m.length → (cmpL l m = 0 ↔ l = m)
  | [], [], _ => by simp [cmpL]
  | [], _ :: _, h => by simp at h
  | _ :: _, [], h => by simp at h
  | t :: ts, u :: us, h => by
    have h1 := cmpT_zero t u
    have h2 := cmpL_zero ts us (by simpa using h)
    simp only [cmpL]
    split
    · rename_i hne
      constructor
      · intro e; exact absurd e hne
      · rintro ⟨⟩; exact h1.2 rfl
    · rename_i hne
      simp only [ne_eq, Decidable.not_not] at hne
      rw [h2, h1.1 hne]; simp
end
/-- Are two the same? -/
def sameB (t u : Tm) : Bool := cmpT t u == 0
theorem sameB_iff {t u : Tm} : sameB t u = true ↔ t = u := by simp [sameB, cmpT_zero]
theorem sameB_self (t : Tm) : sameB t t = true := sameB_iff.2 rfl
end Go.Proofs.YtneecjikdghchaaDoor
