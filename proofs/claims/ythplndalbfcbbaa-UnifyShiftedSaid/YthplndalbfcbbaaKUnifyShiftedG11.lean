/- What the proof of the law rests on: contracts of the functions, plain laws, and words. -/
import Derived.Test.YthplndalbfcbbaaKUnifyShiftedG9
set_option linter.unusedSimpArgs false
set_option linter.unusedVariables false
namespace Go.Proofs.Ythplndalbfcbbaa
open Go.RowKit
def tidyF (g : Sub) : List Bd := ((upto 256).filter fun v => (g v).h != -1 - v).map fun v => ⟨v, g v⟩
theorem tidyF_mem {g : Sub} {b : Bd} : b ∈ tidyF g ↔ (0 ≤ b.v ∧ b.v ≤ 255) ∧ b.t = g b.v ∧ (g b.v).h ≠ -1 - b.v := by
  simp only [tidyF, List.mem_map, List.mem_filter, mem_upto, bne_iff_ne, ne_eq]
  constructor
  · rintro ⟨v, ⟨⟨h0, h1⟩, h2⟩, rfl⟩; exact ⟨⟨h0, by show v ≤ 255; omega⟩, rfl, h2⟩
  · rintro ⟨⟨h0, h1⟩, h2, h3⟩
    exact ⟨b.v, ⟨⟨h0, by omega⟩, h3⟩, by cases b; simp only at h2; rw [h2]⟩
theorem tidyF_of {g : Sub} {v : Int} (h0 : 0 ≤ v) (h1 : v ≤ 255) (hg : (g v).good = true) : ofBs v (tidyF g) = g v := by
  rw [tidyF, ofBs_map]
  by_cases hm : (g v).h = -1 - v
  · rw [if_neg (by simp [hm])]
    have := good_is_var hg (by omega)
    rw [this, varT, hm]; congr 1; omega
  · rw [if_pos (by simp only [List.mem_filter, mem_upto, bne_iff_ne, ne_eq]; exact ⟨⟨h0, by omega⟩, hm⟩)]
theorem tidyF_right {g : Sub} (h : ∀ v, 0 ≤ v → v ≤ 255 → (g v).h ≠ -1 - v → rightB (g v) = true) : rightBs (tidyF g) = true := by
  unfold rightBs tidyF
  refine okBs_map g _ _ ?_ fun v hv => ?_
  · rw [List.pairwise_cons]
    refine ⟨fun v hv => ?_, (upto_sorted 256).filter _⟩
    simp only [List.mem_filter, mem_upto] at hv
    omega
  · simp only [List.mem_filter, mem_upto, bne_iff_ne, ne_eq] at hv
    exact ⟨by omega, h v hv.1.1 (by omega) hv.2, hv.2⟩
theorem okBs_mem : ∀ {bs : List Bd} {x : Int}, okBs x bs = true → ∀ b, b ∈ bs → x < b.v ∧ b.v ≤ 255 ∧ rightB b.t = true ∧ b.t.h ≠ -1 - b.v
  | [], x, _, b, hb => by simp at hb
  | c :: bs, x, h, b, hb => by
    simp only [okBs, Bool.and_eq_true, decide_eq_true_eq, bne_iff_ne, ne_eq] at h
    rcases List.mem_cons.1 hb with rfl | hb
    · exact ⟨h.1.1.1.1, h.1.1.1.2, h.1.1.2, h.1.2⟩
    · have := okBs_mem h.2 b hb
      exact ⟨by omega, this.2⟩
theorem rightB_var {v : Int} (h0 : 0 ≤ v) (h1 : v ≤ 255) : rightB (varT v) = true := by
  have := chk_var h0 h1
  unfold rightB varT
  rw [this]; rfl
theorem rightB_chk {t : Tm} : rightB t = true ↔ chk t = 0 := by simp [rightB]
end Go.Proofs.Ythplndalbfcbbaa
