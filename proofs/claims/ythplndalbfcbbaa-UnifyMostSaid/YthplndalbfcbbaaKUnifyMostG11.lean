/- What the proof of the law rests on: contracts of the functions, plain laws, and words. -/
import Derived.Test.YthplndalbfcbbaaKUnifyMostG9
set_option linter.unusedSimpArgs false
set_option linter.unusedVariables false
namespace Go.Proofs.Ythplndalbfcbbaa
open Go.RowKit
def tidyF (g : Sub) : List Bd := ((upto 256).filter fun v => (g v).h != -1 - v).map fun v => ⟨v, g v⟩
theorem tidyF_mem {g : Sub} {b : Bd} : b ∈ tidyF g ↔ (0 ≤ b.v ∧ b.v ≤ 255) ∧ b.t = g b.v ∧ (g b.v).h ≠ -1 - b.v := by
  simp only [tidyF, List.mem_map, List.mem_filter, mem_upto, bne_iff_ne, ne_eq]
  constructor
  · rintro ⟨v, ⟨⟨h0, h1⟩, h2⟩, rfl⟩; exact ⟨⟨h0, by show v ≤ 255; omega⟩, rfl, h2⟩
  · rintro ⟨⟨h0, h1⟩, h2, h3⟩
    exact ⟨b.v, ⟨⟨h0, by omega⟩, h3⟩, by cases b; simp only at h2; rw [h2]⟩
theorem tidyF_length (g : Sub) : (tidyF g).length ≤ 256 := by
  rw [tidyF, List.length_map]
  have := List.length_filter_le (fun v => (g v).h != -1 - v) (upto 256)
  have h2 : (upto 256).length = 256 := by simp [upto]
  omega
theorem okBs_mem : ∀ {bs : List Bd} {x : Int}, okBs x bs = true → ∀ b, b ∈ bs → x < b.v ∧ b.v ≤ 255 ∧ rightB b.t = true ∧ b.t.h ≠ -1 - b.v
  | [], x, _, b, hb => by simp at hb
  | c :: bs, x, h, b, hb => by
    simp only [okBs, Bool.and_eq_true, decide_eq_true_eq, bne_iff_ne, ne_eq] at h
    rcases List.mem_cons.1 hb with rfl | hb
    · exact ⟨h.1.1.1.1, h.1.1.1.2, h.1.1.2, h.1.2⟩
    · have := okBs_mem h.2 b hb
      exact ⟨by omega, this.2⟩
theorem ofBs_cases (v : Int) : ∀ bs : List Bd, (∃ b, b ∈ bs ∧ b.v = v ∧ ofBs v bs = b.t) ∨ ofBs v bs = varT v
  | [] => .inr rfl
  | c :: bs => by
    by_cases h : c.v = v
    · exact .inl ⟨c, by simp, h, by simp [ofBs, h]⟩
    · rcases ofBs_cases v bs with ⟨b, hb, h1, h2⟩ | h2
      · exact .inl ⟨b, by simp [hb], h1, by simp [ofBs, h, h2]⟩
      · exact .inr (by simp [ofBs, h, h2])
theorem rightB_var {v : Int} (h0 : 0 ≤ v) (h1 : v ≤ 255) : rightB (varT v) = true := by
  have := chk_var h0 h1
  unfold rightB varT
  rw [this]; rfl
theorem ofBs_rightB {bs : List Bd} (h : rightBs bs = true) {v : Int} (h0 : 0 ≤ v) (h1 : v ≤ 255) : rightB (ofBs v bs) = true := by
  rcases ofBs_cases v bs with ⟨b, hb, _, h2⟩ | h2
  · rw [h2]; exact (okBs_mem h b hb).2.2.1
  · rw [h2]; exact rightB_var h0 h1
theorem rightB_chk {t : Tm} : rightB t = true ↔ chk t = 0 := by simp [rightB]
theorem applied_ok {u : List Bd} {p : Tm} (h : (applyT u p).2 = 0) : rightBs u = true ∧ rightB p = true ∧ chk (putT u p) = 0 ∧ applyT u p = (putT u p, 0) := by
  unfold applyT at h ⊢
  split at h
  · rename_i hc
    unfold endT at h
    split at h
    · rename_i h0
      exact ⟨hc.1, hc.2, h0, by rw [if_pos hc, endT, if_pos h0]⟩
    · rename_i h0; exact absurd h h0
  · cases h
end Go.Proofs.Ythplndalbfcbbaa
