/- The closed facts of FeatureDoes's row. -/
import Derived.Test.YthplndalbfcbbaaRows
import Derived.JoinedOf
import Derived.WalkKit
import Derived.Test.YthplndalbfcbbaaKFeatureDoesG8
set_option linter.unusedSimpArgs false
set_option linter.unusedVariables false
namespace Go.Proofs.Ythplndalbfcbbaa
open Go.RowKit
set_option maxHeartbeats 4000000 in
theorem featureDoes_facts : joinedFacts Try.checked.prog 18 Try.f18 Rows.featureDoesSpec Rows.featureDoesRow = true := by
  unfold joinedFacts
  simp only [Bool.and_eq_true]
  refine ⟨⟨⟨⟨⟨⟨⟨⟨⟨⟨⟨⟨⟨⟨⟨⟨⟨⟨⟨⟨⟨⟨⟨⟨⟨⟨⟨⟨⟨⟨⟨?_, ?_⟩, ?_⟩, ?_⟩, ?_⟩, ?_⟩, ?_⟩, ?_⟩, ?_⟩, ?_⟩, ?_⟩, ?_⟩, ?_⟩, ?_⟩, ?_⟩, ?_⟩, ?_⟩, ?_⟩, ?_⟩, ?_⟩, ?_⟩, ?_⟩, ?_⟩, ?_⟩, ?_⟩, fact_mayEnter⟩, (congrArg (fun x => Rows.featureDoesRow.lifted == x) fact_liftsFinal).trans (by kernel_rfl)⟩, (congrArg (fun x => x == some Rows.featureDoesRow.make) fact_make).trans (by kernel_rfl)⟩, ?_⟩, ?_⟩, ?_⟩, ?_⟩
  all_goals (as_aux_lemma => kernel_rfl)
end Go.Proofs.Ythplndalbfcbbaa
