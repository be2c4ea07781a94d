/- The closed facts of FeatureSubsumes's row. -/
import Derived.Test.YthplndalbfcbbaaRows
import Derived.JoinedOf
import Derived.WalkKit
import Derived.Test.YthplndalbfcbbaaKFeatureSubsumesG8
set_option linter.unusedSimpArgs false
set_option linter.unusedVariables false
namespace Go.Proofs.Ythplndalbfcbbaa
open Go.RowKit
set_option maxHeartbeats 4000000 in
theorem featureSubsumes_facts : joinedFacts Try.checked.prog 23 Try.f23 Rows.featureSubsumesSpec Rows.featureSubsumesRow = true := by
  unfold joinedFacts
  simp only [Bool.and_eq_true]
  refine ⟨⟨⟨⟨⟨⟨⟨⟨⟨⟨⟨⟨⟨⟨⟨⟨⟨⟨⟨⟨⟨⟨⟨⟨⟨⟨⟨⟨⟨⟨⟨?_, ?_⟩, ?_⟩, ?_⟩, ?_⟩, ?_⟩, ?_⟩, ?_⟩, ?_⟩, ?_⟩, ?_⟩, ?_⟩, ?_⟩, ?_⟩, ?_⟩, ?_⟩, ?_⟩, ?_⟩, ?_⟩, ?_⟩, ?_⟩, ?_⟩, ?_⟩, ?_⟩, ?_⟩, fact_mayEnter⟩, (congrArg (fun x => Rows.featureSubsumesRow.lifted == x) fact_liftsFinal).trans (by kernel_rfl)⟩, (congrArg (fun x => x == some Rows.featureSubsumesRow.make) fact_make).trans (by kernel_rfl)⟩, ?_⟩, ?_⟩, ?_⟩, ?_⟩
  all_goals (as_aux_lemma => kernel_rfl)
end Go.Proofs.Ythplndalbfcbbaa
