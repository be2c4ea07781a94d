/- What the proof of the law rests on: contracts of the functions, plain laws, and words. -/
import Derived.Test.YthplndalbfcbbaaKFeatureOrderG8
import Derived.Test.YthplndalbfcbbaaKFeatureOrderG4
set_option linter.unusedSimpArgs false
set_option linter.unusedVariables false
namespace Go.Proofs.Ythplndalbfcbbaa
open Go.RowKit Go.ChangeShapes Go.WideShapes Go.ChangeAt
section
variable {H : Type} {enc : TypeId × Value → H} {W : World} {sp : Nat → Bool} {held : Bool}
theorem readInts (fuel : Nat) (s : Value) (x : DataW H × List MemPlace) (h : DataW.trod enc Try.prog W 0 sp held fuel 37 [s] = some x) :
    ∃ ns : List Int, (∀ n, n ∈ ns → -9223372036854775808 ≤ n ∧ n ≤ 9223372036854775807) ∧ Ints (fun _ => False) W s ns := by
  obtain ⟨us, hus⟩ := read_slice Try.underlying37 cellsInt (by omega) (fun n : { n : Int // -9223372036854775808 ≤ n ∧ n ≤ 9223372036854775807 } => intD n.1) h (fun m cs y _ hy => by
    obtain ⟨v, hv, _, hw⟩ := DataW.trod_int Try.underlying3 hy
    exact ⟨⟨v, wf_range hw⟩, by simp only [intD, RepD]; exact hv⟩)
  refine ⟨us.map (·.1), fun b hb => ?_, ?_⟩
  · obtain ⟨u, _, rfl⟩ := List.mem_map.1 hb
    exact u.2
  · unfold Ints
    rw [List.map_map]
    exact hus
end
end Go.Proofs.Ythplndalbfcbbaa
