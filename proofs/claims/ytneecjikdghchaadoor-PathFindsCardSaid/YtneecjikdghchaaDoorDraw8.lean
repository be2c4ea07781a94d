/- A call of a region that draws its order, left out by its guard. Nothing of the program. -/
import Derived.Test.YtneecjikdghchaaDoorDraw6
set_option linter.unusedSimpArgs false
set_option linter.unusedVariables false
namespace Go.Proofs.YtneecjikdghchaaDoor
open Go.RowKit
theorem t_one_skip {P : Program} {Q : Exit → Act → World → Prop} {S : World → Prop} {os : List Oper} {i : Nat} {t : Tr} {o : Oper} {a : Act} {w : World} (ho : os[i]? = some o) (hw : Region.wanted o (yielded os.toArray a.tmps) = false) (hS : S w) (h : SeqT P os.toArray Q S t (a.put o.dst undef) w) : SeqT P os.toArray Q S (.one i t) a w := by
  simp only [SeqT, wpOp, List.getElem?_toArray, ho, hw]
  exact ⟨hS, h⟩
end Go.Proofs.YtneecjikdghchaaDoor
