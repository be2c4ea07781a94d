/- What the proof of the law rests on: contracts of the functions, plain laws, and words. -/
import Derived.Test.YthplndalbfcbbaaKMatchVariantsG9
set_option linter.unusedSimpArgs false
set_option linter.unusedVariables false
namespace Go.Proofs.Ythplndalbfcbbaa
open Go.RowKit
theorem rightB_chk {t : Tm} : rightB t = true ↔ chk t = 0 := by simp [rightB]
end Go.Proofs.Ythplndalbfcbbaa
