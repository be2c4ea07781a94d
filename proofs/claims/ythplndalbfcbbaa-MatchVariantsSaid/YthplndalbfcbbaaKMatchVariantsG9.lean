/- What the proof of the law rests on: contracts of the functions, plain laws, and words. -/
import Derived.Test.YthplndalbfcbbaaKMatchVariantsG5
set_option linter.unusedSimpArgs false
set_option linter.unusedVariables false
namespace Go.Proofs.Ythplndalbfcbbaa
open Go.RowKit
abbrev Sub := Int → Tm
def varT (v : Int) : Tm := .node (-1 - v) []
mutual
def app (S : Sub) : Tm → Tm
  | .node h l => if h < 0 then S (-1 - h) else .node h (appL S l)
def appL (S : Sub) : List Tm → List Tm
  | [] => []
  | t :: ts => app S t :: appL S ts
end
theorem app_neg {S : Sub} {t : Tm} (h : t.h < 0) : app S t = S (-1 - t.h) := by cases t; simp only [Tm.h] at h ⊢; simp [app, h]
theorem app_var (S : Sub) {v : Int} (h : 0 ≤ v) : app S (varT v) = S v := by
  rw [app_neg (by simp only [varT, Tm.h]; omega)]; congr 1; simp only [varT, Tm.h]; omega
def occ (v : Int) (t : Tm) : Prop := 0 ≤ v ∧ (-1 - v) ∈ t.heads
theorem occ_iff {v : Int} {t : Tm} : occ v t ↔ v ∈ varsT t := by
  rw [mem_varsT]
  constructor
  · rintro ⟨h0, h⟩; exact ⟨_, h, by omega, by omega⟩
  · rintro ⟨x, h, h0, rfl⟩; exact ⟨by omega, by rw [show -1 - (-1 - x) = x by omega]; exact h⟩
theorem occ_range {t : Tm} (hg : t.good = true) {v : Int} (h : occ v t) : 0 ≤ v ∧ v ≤ 255 := by
  have := good_heads t hg _ h.2
  exact ⟨h.1, by omega⟩
theorem good_varT {v : Int} (h0 : 0 ≤ v) (h1 : v ≤ 255) : (varT v).good = true := node_var_good h0 h1
end Go.Proofs.Ythplndalbfcbbaa
