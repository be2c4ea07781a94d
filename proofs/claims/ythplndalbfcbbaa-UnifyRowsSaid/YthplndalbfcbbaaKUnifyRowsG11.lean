/- What the proof of the law rests on: contracts of the functions, plain laws, and words. -/
import Derived.Test.YthplndalbfcbbaaKUnifyRowsG9
set_option linter.unusedSimpArgs false
set_option linter.unusedVariables false
namespace Go.Proofs.Ythplndalbfcbbaa
open Go.RowKit
def tidyF (g : Sub) : List Bd := ((upto 256).filter fun v => (g v).h != -1 - v).map fun v => ⟨v, g v⟩
theorem tidyF_mem {g : Sub} {b : Bd} : b ∈ tidyF g ↔ (0 ≤ b.v ∧ b.v ≤ 255) ∧ b.t = g b.v ∧ (g b.v).h ≠ -1 - b.v := by
  simp only [tidyF, List.mem_map, List.mem_filter, mem_upto, bne_iff_ne, ne_eq]
  constructor
  · rintro ⟨v, ⟨⟨h0, h1⟩, h2⟩, rfl⟩; exact ⟨⟨h0, by show v ≤ 255; omega⟩, rfl, h2⟩
  · rintro ⟨⟨h0, h1⟩, h2, h3⟩
    exact ⟨b.v, ⟨⟨h0, by omega⟩, h3⟩, by cases b; simp only at h2; rw [h2]⟩
theorem rightB_var {v : Int} (h0 : 0 ≤ v) (h1 : v ≤ 255) : rightB (varT v) = true := by
  have := chk_var h0 h1
  unfold rightB varT
  rw [this]; rfl
theorem rightB_chk {t : Tm} : rightB t = true ↔ chk t = 0 := by simp [rightB]
end Go.Proofs.Ythplndalbfcbbaa
