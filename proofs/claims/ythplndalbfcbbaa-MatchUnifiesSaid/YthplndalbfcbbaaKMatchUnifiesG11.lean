/- What the proof of the law rests on: contracts of the functions, plain laws, and words. -/
import Derived.Test.YthplndalbfcbbaaKMatchUnifiesG9
set_option linter.unusedSimpArgs false
set_option linter.unusedVariables false
namespace Go.Proofs.Ythplndalbfcbbaa
open Go.RowKit
def tidyF (g : Sub) : List Bd := ((upto 256).filter fun v => (g v).h != -1 - v).map fun v => ⟨v, g v⟩
theorem tidyF_mem {g : Sub} {b : Bd} : b ∈ tidyF g ↔ (0 ≤ b.v ∧ b.v ≤ 255) ∧ b.t = g b.v ∧ (g b.v).h ≠ -1 - b.v := by
  simp only [tidyF, List.mem_map, List.mem_filter, mem_upto, bne_iff_ne, ne_eq]
  constructor
  · rintro ⟨v, ⟨⟨h0, h1⟩, h2⟩, rfl⟩; exact ⟨⟨h0, by show v ≤ 255; omega⟩, rfl, h2⟩
  · rintro ⟨⟨h0, h1⟩, h2, h3⟩
    exact ⟨b.v, ⟨⟨h0, by omega⟩, h3⟩, by cases b; simp only at h2; rw [h2]⟩
theorem tidyT_F (f : Env) : tidyT f = tidyF (fun v => (f v).getD (varT v)) := by
  rw [tidyT_eq, tidyF]
  generalize upto 256 = vs
  induction vs with
  | nil => rfl
  | cons v vs ih =>
    rw [List.filterMap_cons, ih]
    cases hf : f v with
    | none => simp [bindOf, hf, varT, Tm.h]
    | some t =>
      by_cases hm : t.h = -1 - v
      · simp [bindOf, hf, hm]
      · simp [bindOf, hf, hm]
theorem rightB_var {v : Int} (h0 : 0 ≤ v) (h1 : v ≤ 255) : rightB (varT v) = true := by
  have := chk_var h0 h1
  unfold rightB varT
  rw [this]; rfl
theorem rightB_chk {t : Tm} : rightB t = true ↔ chk t = 0 := by simp [rightB]
mutual
theorem makes_app {σ : Env} {S : Sub} : ∀ p : Tm, p.good = true → (∀ v, occ v p → σ v = some (S v)) → Makes σ p (app S p)
  | .node h l, hg, hs => by
    by_cases hn : h < 0
    · rw [makes_var (p := .node h l) hn, app_neg (t := .node h l) hn]
      exact hs _ ⟨by show 0 ≤ -1 - h; omega, by rw [show -1 - (-1 - (Tm.node h l).h) = h by simp only [Tm.h]; omega]; simp [Tm.heads]⟩
    · rw [makes_fun (p := .node h l) hn, app_pos (t := .node h l) hn]
      exact ⟨rfl, makesL_app l (goodsOf hg) fun c hc v hv => hs v ((occ_args (t := .node h l) hn).2 ⟨c, hc, hv⟩)⟩
theorem makesL_app {σ : Env} {S : Sub} : ∀ ps : List Tm, Tm.goods ps = true → (∀ c, c ∈ ps → ∀ v, occ v c → σ v = some (S v)) → MakesL σ ps (appL S ps)
  | [], _, _ => by simp [MakesL, appL]
  | p :: ps, hg, hs => by
    simp only [Tm.goods, Bool.and_eq_true] at hg
    simp only [appL, MakesL]
    exact ⟨makes_app p hg.1 (hs p (by simp)), makesL_app ps hg.2 fun c hc => hs c (by simp [hc])⟩
end
end Go.Proofs.Ythplndalbfcbbaa
