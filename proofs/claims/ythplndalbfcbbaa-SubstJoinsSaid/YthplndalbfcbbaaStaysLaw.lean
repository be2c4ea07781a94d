/- What stays: plain Lean. -/
import Derived.Test.YthplndalbfcbbaaVars
set_option linter.unusedSimpArgs false
set_option linter.unusedVariables false
namespace Go.Proofs.Ythplndalbfcbbaa
open Go.RowKit

def allT (bs : List Bd) (vs : List Int) : List Int := vs.flatMap fun v => varsT (ofBs v bs)
theorem all_iff {bs : List Bd} {t : Tm} (hg : t.good = true) (v : Int) : v ∈ allT bs (varsT t) ↔ v ∈ varsT (putT bs t) := by
  rw [mem_varsT (t := putT bs t), put_heads bs v t hg]
  simp only [allT, List.mem_flatMap]
  constructor
  · rintro ⟨x, hx, hv⟩
    obtain ⟨h, h1, h2, rfl⟩ := mem_varsT.1 hx
    exact ⟨h, h1, h2, hv⟩
  · rintro ⟨h, h1, h2, hv⟩
    exact ⟨-1 - h, mem_varsT.2 ⟨h, h1, h2, rfl⟩, hv⟩
def noneB (bs : List Bd) (vs : List Int) : Bool := vs.all fun v => sameB (ofBs v bs) (.node (-1 - v) [])
theorem none_same {bs : List Bd} {t : Tm} (hg : t.good = true) (h : noneB bs (varsT t) = true) : putT bs t = t := by
  refine put_same bs t hg fun x hx hn => ?_
  have := List.all_eq_true.1 h (-1 - x) (mem_varsT.2 ⟨x, hx, hn, rfl⟩)
  rw [sameB_iff.1 this]
  congr 1; omega
theorem noneB_snoc (bs : List Bd) (vs : List Int) (v : Int) : noneB bs (vs ++ [v]) = (noneB bs vs && sameB (ofBs v bs) (.node (-1 - v) [])) := by simp [noneB]
theorem allT_snoc (bs : List Bd) (vs : List Int) (v : Int) : allT bs (vs ++ [v]) = allT bs vs ++ varsT (ofBs v bs) := by simp [allT]
theorem allT_length (bs : List Bd) (m : Nat) (hm : 1 ≤ m) (h : ∀ b, b ∈ bs → b.t.size ≤ m) : ∀ vs : List Int, (allT bs vs).length ≤ vs.length * m
  | [] => by simp [allT]
  | v :: vs => by
    have h1 := allT_length bs m hm h vs
    have h2 := Nat.le_trans (varsT_length (ofBs v bs)) (ofBs_size v hm bs h)
    have h3 : allT bs (v :: vs) = varsT (ofBs v bs) ++ allT bs vs := by simp [allT]
    rw [h3, List.length_append, List.length_cons, Nat.succ_mul]; omega
theorem apply_nil (t : Tm) : applyT [] t = if rightB t = true then (t, 0) else (.node 0 [], 1) := by
  unfold applyT
  by_cases h : rightB t = true
  · have h0 : rightBs [] = true := rfl
    have h1 : chk t = 0 := by simpa [rightB] using h
    rw [if_pos ⟨h0, h⟩, put_nil (chk_good h), if_pos h]
    simp [endT, h1]
  · rw [if_neg (fun hh => h hh.2), if_neg h]
theorem apply_ok {bs : List Bd} {t : Tm} (h : (applyT bs t).2 = 0) : rightBs bs = true ∧ rightB t = true ∧ chk (putT bs t) = 0 ∧ (applyT bs t).1 = putT bs t := by
  unfold applyT at h ⊢
  split at h
  · rename_i hc
    unfold endT at h ⊢
    split at h
    · rename_i h2
      exact ⟨hc.1, hc.2, h2, by rw [if_pos hc, if_pos h2]⟩
    · rename_i h2; exact absurd h h2
  · cases h
theorem apply_bad {bs : List Bd} {t : Tm} (h : rightB t = false) : applyT bs t = (.node 0 [], 1) := by
  unfold applyT; rw [if_neg]; simp [h]
end Go.Proofs.Ythplndalbfcbbaa
