/- What a call that makes a term answers. -/
import Derived.Test.YtneecjikdghchaaDoorGrow
set_option linter.unusedSimpArgs false
set_option linter.unusedVariables false
namespace Go.Proofs.YtneecjikdghchaaDoor
open Go.RowKit

def GivesB (A : Nat → Prop) (w : World) (t : Tm) (e : Ending) (w' : World) : Prop := ∃ s, e = .returned (.agg #[.int .i64 t.h, s]) ∧ Terms A w' s t.args ∧ Below w.heap.size w w'
end Go.Proofs.YtneecjikdghchaaDoor
