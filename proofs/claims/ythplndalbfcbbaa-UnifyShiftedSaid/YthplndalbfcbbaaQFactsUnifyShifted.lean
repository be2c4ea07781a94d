/- The closed facts of UnifyShifted's row. -/
import Derived.Test.YthplndalbfcbbaaRows
import Derived.JoinedOf
import Derived.WalkKit
import Derived.Test.YthplndalbfcbbaaKUnifyShiftedG8
set_option linter.unusedSimpArgs false
set_option linter.unusedVariables false
namespace Go.Proofs.Ythplndalbfcbbaa
open Go.RowKit
set_option maxHeartbeats 4000000 in
theorem unifyShifted_facts : joinedFacts Try.checked.prog 21 Try.f21 Rows.unifyShiftedSpec Rows.unifyShiftedRow = true := by
  unfold joinedFacts
  simp only [Bool.and_eq_true]
  refine ⟨⟨⟨⟨⟨⟨⟨⟨⟨⟨⟨⟨⟨⟨⟨⟨⟨⟨⟨⟨⟨⟨⟨⟨⟨⟨⟨⟨⟨⟨⟨?_, ?_⟩, ?_⟩, ?_⟩, ?_⟩, ?_⟩, ?_⟩, ?_⟩, ?_⟩, ?_⟩, ?_⟩, ?_⟩, ?_⟩, ?_⟩, ?_⟩, ?_⟩, ?_⟩, ?_⟩, ?_⟩, ?_⟩, ?_⟩, ?_⟩, ?_⟩, ?_⟩, ?_⟩, fact_mayEnter⟩, (congrArg (fun x => Rows.unifyShiftedRow.lifted == x) fact_liftsFinal).trans (by kernel_rfl)⟩, (congrArg (fun x => x == some Rows.unifyShiftedRow.make) fact_make).trans (by kernel_rfl)⟩, ?_⟩, ?_⟩, ?_⟩, ?_⟩
  all_goals (as_aux_lemma => kernel_rfl)
end Go.Proofs.Ythplndalbfcbbaa
