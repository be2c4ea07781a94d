/- The closed facts of FeatureCounts's row. -/
import Derived.Test.YthplndalbfcbbaaRows
import Derived.JoinedOf
import Derived.WalkKit
import Derived.Test.YthplndalbfcbbaaKFeatureCountsG8
set_option linter.unusedSimpArgs false
set_option linter.unusedVariables false
namespace Go.Proofs.Ythplndalbfcbbaa
open Go.RowKit
set_option maxHeartbeats 4000000 in
theorem featureCounts_facts : joinedFacts Try.checked.prog 15 Try.f15 Rows.featureCountsSpec Rows.featureCountsRow = true := by
  unfold joinedFacts
  simp only [Bool.and_eq_true]
  refine ⟨⟨⟨⟨⟨⟨⟨⟨⟨⟨⟨⟨⟨⟨⟨⟨⟨⟨⟨⟨⟨⟨⟨⟨⟨⟨⟨⟨⟨⟨⟨?_, ?_⟩, ?_⟩, ?_⟩, ?_⟩, ?_⟩, ?_⟩, ?_⟩, ?_⟩, ?_⟩, ?_⟩, ?_⟩, ?_⟩, ?_⟩, ?_⟩, ?_⟩, ?_⟩, ?_⟩, ?_⟩, ?_⟩, ?_⟩, ?_⟩, ?_⟩, ?_⟩, ?_⟩, fact_mayEnter⟩, (congrArg (fun x => Rows.featureCountsRow.lifted == x) fact_liftsFinal).trans (by kernel_rfl)⟩, (congrArg (fun x => x == some Rows.featureCountsRow.make) fact_make).trans (by kernel_rfl)⟩, ?_⟩, ?_⟩, ?_⟩, ?_⟩
  all_goals (as_aux_lemma => kernel_rfl)
end Go.Proofs.Ythplndalbfcbbaa
