/- The dump's head, as signs: so that the closed facts that look at it are cheap for the kernel. -/
import Derived.Test.YthplndalbfcbbaaRows
import Derived.JoinedOf
import Derived.WalkKit
import Derived.ProofKit
import Derived.ChangeSame
import Derived.ChangeArms
import Derived.Test.YthplndalbfcbbaaG7
import Derived.Test.YthplndalbfcbbaaG6
import Derived.Test.YthplndalbfcbbaaG2
import Derived.Test.YthplndalbfcbbaaG4
import Derived.Test.YthplndalbfcbbaaG5
set_option linter.unusedSimpArgs false
set_option linter.unusedVariables false
namespace Go.Proofs.Ythplndalbfcbbaa
def headSigns : List Char := [Char.ofNat 104, Char.ofNat 97, Char.ofNat 114, Char.ofNat 110, Char.ofNat 101, Char.ofNat 115, Char.ofNat 115, Char.ofNat 32, Char.ofNat 51, Char.ofNat 100, Char.ofNat 102, Char.ofNat 56, Char.ofNat 48, Char.ofNat 55, Char.ofNat 56, Char.ofNat 100, Char.ofNat 57, Char.ofNat 54, Char.ofNat 50, Char.ofNat 99, Char.ofNat 52, Char.ofNat 102, Char.ofNat 98, Char.ofNat 50, Char.ofNat 54, Char.ofNat 102, Char.ofNat 55, Char.ofNat 48, Char.ofNat 49, Char.ofNat 49, Char.ofNat 54, Char.ofNat 53, Char.ofNat 100, Char.ofNat 49, Char.ofNat 100, Char.ofNat 51, Char.ofNat 98, Char.ofNat 102, Char.ofNat 101, Char.ofNat 51, Char.ofNat 57, Char.ofNat 100, Char.ofNat 100, Char.ofNat 97, Char.ofNat 57, Char.ofNat 48, Char.ofNat 57, Char.ofNat 102, Char.ofNat 49, Char.ofNat 49, Char.ofNat 100, Char.ofNat 100, Char.ofNat 50, Char.ofNat 55, Char.ofNat 101, Char.ofNat 52, Char.ofNat 97, Char.ofNat 99, Char.ofNat 57, Char.ofNat 49, Char.ofNat 100, Char.ofNat 99, Char.ofNat 102, Char.ofNat 54, Char.ofNat 57, Char.ofNat 53, Char.ofNat 48, Char.ofNat 100, Char.ofNat 49, Char.ofNat 100, Char.ofNat 49, Char.ofNat 51, Char.ofNat 32, Char.ofNat 99, Char.ofNat 117, Char.ofNat 116, Char.ofNat 32, Char.ofNat 97, Char.ofNat 116, Char.ofNat 32, Char.ofNat 101, Char.ofNat 108, Char.ofNat 101, Char.ofNat 110, Char.ofNat 99, Char.ofNat 104, Char.ofNat 117, Char.ofNat 115, Char.ofNat 47, Char.ofNat 101, Char.ofNat 108, Char.ofNat 101, Char.ofNat 110, Char.ofNat 99, Char.ofNat 104, Char.ofNat 117, Char.ofNat 115, Char.ofNat 108, Char.ofNat 97, Char.ofNat 119, Char.ofNat 48, Char.ofNat 51, Char.ofNat 46, Char.ofNat 83, Char.ofNat 117, Char.ofNat 98, Char.ofNat 115, Char.ofNat 116, Char.ofNat 68, Char.ofNat 111, Char.ofNat 101, Char.ofNat 115, Char.ofNat 32, Char.ofNat 101, Char.ofNat 108, Char.ofNat 101, Char.ofNat 110, Char.ofNat 99, Char.ofNat 104, Char.ofNat 117, Char.ofNat 115, Char.ofNat 47, Char.ofNat 101, Char.ofNat 108, Char.ofNat 101, Char.ofNat 110, Char.ofNat 99, Char.ofNat 104, Char.ofNat 117, Char.ofNat 115, Char.ofNat 108, Char.ofNat 97, Char.ofNat 119, Char.ofNat 48, Char.ofNat 51, Char.ofNat 46, Char.ofNat 83, Char.ofNat 117, Char.ofNat 98, Char.ofNat 115, Char.ofNat 116, Char.ofNat 83, Char.ofNat 116, Char.ofNat 97, Char.ofNat 121, Char.ofNat 115, Char.ofNat 32, Char.ofNat 101, Char.ofNat 108, Char.ofNat 101, Char.ofNat 110, Char.ofNat 99, Char.ofNat 104, Char.ofNat 117, Char.ofNat 115, Char.ofNat 47, Char.ofNat 101, Char.ofNat 108, Char.ofNat 101, Char.ofNat 110, Char.ofNat 99, Char.ofNat 104, Char.ofNat 117, Char.ofNat 115, Char.ofNat 108, Char.ofNat 97, Char.ofNat 119, Char.ofNat 48, Char.ofNat 53, Char.ofNat 46, Char.ofNat 77, Char.ofNat 97, Char.ofNat 116, Char.ofNat 99, Char.ofNat 104, Char.ofNat 77, Char.ofNat 97, Char.ofNat 107, Char.ofNat 101, Char.ofNat 115, Char.ofNat 32, Char.ofNat 101, Char.ofNat 108, Char.ofNat 101, Char.ofNat 110, Char.ofNat 99, Char.ofNat 104, Char.ofNat 117, Char.ofNat 115, Char.ofNat 47, Char.ofNat 101, Char.ofNat 108, Char.ofNat 101, Char.ofNat 110, Char.ofNat 99, Char.ofNat 104, Char.ofNat 117, Char.ofNat 115, Char.ofNat 108, Char.ofNat 97, Char.ofNat 119, Char.ofNat 48, Char.ofNat 53, Char.ofNat 46, Char.ofNat 77, Char.ofNat 97, Char.ofNat 116, Char.ofNat 99, Char.ofNat 104, Char.ofNat 66, Char.ofNat 101, Char.ofNat 104, Char.ofNat 105, Char.ofNat 110, Char.ofNat 100, Char.ofNat 32, Char.ofNat 101, Char.ofNat 108, Char.ofNat 101, Char.ofNat 110, Char.ofNat 99, Char.ofNat 104, Char.ofNat 117, Char.ofNat 115, Char.ofNat 47, Char.ofNat 101, Char.ofNat 108, Char.ofNat 101, Char.ofNat 110, Char.ofNat 99, Char.ofNat 104, Char.ofNat 117, Char.ofNat 115, Char.ofNat 108, Char.ofNat 97, Char.ofNat 119, Char.ofNat 48, Char.ofNat 51, Char.ofNat 46, Char.ofNat 83, Char.ofNat 117, Char.ofNat 98, Char.ofNat 115, Char.ofNat 116, Char.ofNat 74, Char.ofNat 111, Char.ofNat 105, Char.ofNat 110, Char.ofNat 115, Char.ofNat 32, Char.ofNat 101, Char.ofNat 108, Char.ofNat 101, Char.ofNat 110, Char.ofNat 99, Char.ofNat 104, Char.ofNat 117, Char.ofNat 115, Char.ofNat 47, Char.ofNat 101, Char.ofNat 108, Char.ofNat 101, Char.ofNat 110, Char.ofNat 99, Char.ofNat 104, Char.ofNat 117, Char.ofNat 115, Char.ofNat 108, Char.ofNat 97, Char.ofNat 119, Char.ofNat 48, Char.ofNat 51, Char.ofNat 46, Char.ofNat 83, Char.ofNat 117, Char.ofNat 98, Char.ofNat 115, Char.ofNat 116, Char.ofNat 84, Char.ofNat 104, Char.ofNat 101, Char.ofNat 110, Char.ofNat 32, Char.ofNat 101, Char.ofNat 108, Char.ofNat 101, Char.ofNat 110, Char.ofNat 99, Char.ofNat 104, Char.ofNat 117, Char.ofNat 115, Char.ofNat 47, Char.ofNat 101, Char.ofNat 108, Char.ofNat 101, Char.ofNat 110, Char.ofNat 99, Char.ofNat 104, Char.ofNat 117, Char.ofNat 115, Char.ofNat 108, Char.ofNat 97, Char.ofNat 119, Char.ofNat 48, Char.ofNat 51, Char.ofNat 46, Char.ofNat 83, Char.ofNat 117, Char.ofNat 98, Char.ofNat 115, Char.ofNat 116, Char.ofNat 84, Char.ofNat 111, Char.ofNat 103, Char.ofNat 101, Char.ofNat 116, Char.ofNat 104, Char.ofNat 101, Char.ofNat 114, Char.ofNat 32, Char.ofNat 101, Char.ofNat 108, Char.ofNat 101, Char.ofNat 110, Char.ofNat 99, Char.ofNat 104, Char.ofNat 117, Char.ofNat 115, Char.ofNat 47, Char.ofNat 101, Char.ofNat 108, Char.ofNat 101, Char.ofNat 110, Char.ofNat 99, Char.ofNat 104, Char.ofNat 117, Char.ofNat 115, Char.ofNat 108, Char.ofNat 97, Char.ofNat 119, Char.ofNat 48, Char.ofNat 53, Char.ofNat 46, Char.ofNat 77, Char.ofNat 97, Char.ofNat 116, Char.ofNat 99, Char.ofNat 104, Char.ofNat 78, Char.ofNat 111, Char.ofNat 114, Char.ofNat 109, Char.ofNat 115, Char.ofNat 32, Char.ofNat 101, Char.ofNat 108, Char.ofNat 101, Char.ofNat 110, Char.ofNat 99, Char.ofNat 104, Char.ofNat 117, Char.ofNat 115, Char.ofNat 47, Char.ofNat 101, Char.ofNat 108, Char.ofNat 101, Char.ofNat 110, Char.ofNat 99, Char.ofNat 104, Char.ofNat 117, Char.ofNat 115, Char.ofNat 108, Char.ofNat 97, Char.ofNat 119, Char.ofNat 48, Char.ofNat 53, Char.ofNat 46, Char.ofNat 77, Char.ofNat 97, Char.ofNat 116, Char.ofNat 99, Char.ofNat 104, Char.ofNat 86, Char.ofNat 97, Char.ofNat 114, Char.ofNat 105, Char.ofNat 97, Char.ofNat 110, Char.ofNat 116, Char.ofNat 115, Char.ofNat 32, Char.ofNat 101, Char.ofNat 108, Char.ofNat 101, Char.ofNat 110, Char.ofNat 99, Char.ofNat 104, Char.ofNat 117, Char.ofNat 115, Char.ofNat 47, Char.ofNat 101, Char.ofNat 108, Char.ofNat 101, Char.ofNat 110, Char.ofNat 99, Char.ofNat 104, Char.ofNat 117, Char.ofNat 115, Char.ofNat 108, Char.ofNat 97, Char.ofNat 119, Char.ofNat 48, Char.ofNat 52, Char.ofNat 46, Char.ofNat 85, Char.ofNat 110, Char.ofNat 105, Char.ofNat 102, Char.ofNat 121, Char.ofNat 77, Char.ofNat 97, Char.ofNat 107, Char.ofNat 101, Char.ofNat 115, Char.ofNat 32, Char.ofNat 101, Char.ofNat 108, Char.ofNat 101, Char.ofNat 110, Char.ofNat 99, Char.ofNat 104, Char.ofNat 117, Char.ofNat 115, Char.ofNat 47, Char.ofNat 101, Char.ofNat 108, Char.ofNat 101, Char.ofNat 110, Char.ofNat 99, Char.ofNat 104, Char.ofNat 117, Char.ofNat 115, Char.ofNat 108, Char.ofNat 97, Char.ofNat 119, Char.ofNat 48, Char.ofNat 52, Char.ofNat 46, Char.ofNat 85, Char.ofNat 110, Char.ofNat 105, Char.ofNat 102, Char.ofNat 121, Char.ofNat 82, Char.ofNat 111, Char.ofNat 119, Char.ofNat 115, Char.ofNat 32, Char.ofNat 101, Char.ofNat 108, Char.ofNat 101, Char.ofNat 110, Char.ofNat 99, Char.ofNat 104, Char.ofNat 117, Char.ofNat 115, Char.ofNat 47, Char.ofNat 101, Char.ofNat 108, Char.ofNat 101, Char.ofNat 110, Char.ofNat 99, Char.ofNat 104, Char.ofNat 117, Char.ofNat 115, Char.ofNat 108, Char.ofNat 97, Char.ofNat 119, Char.ofNat 48, Char.ofNat 53, Char.ofNat 46, Char.ofNat 77, Char.ofNat 97, Char.ofNat 116, Char.ofNat 99, Char.ofNat 104, Char.ofNat 83, Char.ofNat 111, Char.ofNat 108, Char.ofNat 118, Char.ofNat 101, Char.ofNat 115, Char.ofNat 32, Char.ofNat 101, Char.ofNat 108, Char.ofNat 101, Char.ofNat 110, Char.ofNat 99, Char.ofNat 104, Char.ofNat 117, Char.ofNat 115, Char.ofNat 47, Char.ofNat 101, Char.ofNat 108, Char.ofNat 101, Char.ofNat 110, Char.ofNat 99, Char.ofNat 104, Char.ofNat 117, Char.ofNat 115, Char.ofNat 108, Char.ofNat 97, Char.ofNat 119, Char.ofNat 49, Char.ofNat 54, Char.ofNat 46, Char.ofNat 70, Char.ofNat 101, Char.ofNat 97, Char.ofNat 116, Char.ofNat 117, Char.ofNat 114, Char.ofNat 101, Char.ofNat 67, Char.ofNat 111, Char.ofNat 117, Char.ofNat 110, Char.ofNat 116, Char.ofNat 115, Char.ofNat 32, Char.ofNat 101, Char.ofNat 108, Char.ofNat 101, Char.ofNat 110, Char.ofNat 99, Char.ofNat 104, Char.ofNat 117, Char.ofNat 115, Char.ofNat 47, Char.ofNat 101, Char.ofNat 108, Char.ofNat 101, Char.ofNat 110, Char.ofNat 99, Char.ofNat 104, Char.ofNat 117, Char.ofNat 115, Char.ofNat 108, Char.ofNat 97, Char.ofNat 119, Char.ofNat 49, Char.ofNat 54, Char.ofNat 46, Char.ofNat 70, Char.ofNat 101, Char.ofNat 97, Char.ofNat 116, Char.ofNat 117, Char.ofNat 114, Char.ofNat 101, Char.ofNat 79, Char.ofNat 114, Char.ofNat 100, Char.ofNat 101, Char.ofNat 114, Char.ofNat 32, Char.ofNat 101, Char.ofNat 108, Char.ofNat 101, Char.ofNat 110, Char.ofNat 99, Char.ofNat 104, Char.ofNat 117, Char.ofNat 115, Char.ofNat 47, Char.ofNat 101, Char.ofNat 108, Char.ofNat 101, Char.ofNat 110, Char.ofNat 99, Char.ofNat 104, Char.ofNat 117, Char.ofNat 115, Char.ofNat 108, Char.ofNat 97, Char.ofNat 119, Char.ofNat 48, Char.ofNat 52, Char.ofNat 46, Char.ofNat 85, Char.ofNat 110, Char.ofNat 105, Char.ofNat 102, Char.ofNat 121, Char.ofNat 83, Char.ofNat 105, Char.ofNat 100, Char.ofNat 101, Char.ofNat 115, Char.ofNat 32, Char.ofNat 101, Char.ofNat 108, Char.ofNat 101, Char.ofNat 110, Char.ofNat 99, Char.ofNat 104, Char.ofNat 117, Char.ofNat 115, Char.ofNat 47, Char.ofNat 101, Char.ofNat 108, Char.ofNat 101, Char.ofNat 110, Char.ofNat 99, Char.ofNat 104, Char.ofNat 117, Char.ofNat 115, Char.ofNat 108, Char.ofNat 97, Char.ofNat 119, Char.ofNat 49, Char.ofNat 54, Char.ofNat 46, Char.ofNat 70, Char.ofNat 101, Char.ofNat 97, Char.ofNat 116, Char.ofNat 117, Char.ofNat 114, Char.ofNat 101, Char.ofNat 68, Char.ofNat 111, Char.ofNat 101, Char.ofNat 115, Char.ofNat 32, Char.ofNat 101, Char.ofNat 108, Char.ofNat 101, Char.ofNat 110, Char.ofNat 99, Char.ofNat 104, Char.ofNat 117, Char.ofNat 115, Char.ofNat 47, Char.ofNat 101, Char.ofNat 108, Char.ofNat 101, Char.ofNat 110, Char.ofNat 99, Char.ofNat 104, Char.ofNat 117, Char.ofNat 115, Char.ofNat 108, Char.ofNat 97, Char.ofNat 119, Char.ofNat 49, Char.ofNat 54, Char.ofNat 46, Char.ofNat 70, Char.ofNat 101, Char.ofNat 97, Char.ofNat 116, Char.ofNat 117, Char.ofNat 114, Char.ofNat 101, Char.ofNat 78, Char.ofNat 105, Char.ofNat 108, Char.ofNat 32, Char.ofNat 101, Char.ofNat 108, Char.ofNat 101, Char.ofNat 110, Char.ofNat 99, Char.ofNat 104, Char.ofNat 117, Char.ofNat 115, Char.ofNat 47, Char.ofNat 101, Char.ofNat 108, Char.ofNat 101, Char.ofNat 110, Char.ofNat 99, Char.ofNat 104, Char.ofNat 117, Char.ofNat 115, Char.ofNat 108, Char.ofNat 97, Char.ofNat 119, Char.ofNat 48, Char.ofNat 52, Char.ofNat 46, Char.ofNat 85, Char.ofNat 110, Char.ofNat 105, Char.ofNat 102, Char.ofNat 121, Char.ofNat 77, Char.ofNat 111, Char.ofNat 115, Char.ofNat 116, Char.ofNat 32, Char.ofNat 101, Char.ofNat 108, Char.ofNat 101, Char.ofNat 110, Char.ofNat 99, Char.ofNat 104, Char.ofNat 117, Char.ofNat 115, Char.ofNat 47, Char.ofNat 101, Char.ofNat 108, Char.ofNat 101, Char.ofNat 110, Char.ofNat 99, Char.ofNat 104, Char.ofNat 117, Char.ofNat 115, Char.ofNat 108, Char.ofNat 97, Char.ofNat 119, Char.ofNat 48, Char.ofNat 52, Char.ofNat 46, Char.ofNat 85, Char.ofNat 110, Char.ofNat 105, Char.ofNat 102, Char.ofNat 121, Char.ofNat 83, Char.ofNat 104, Char.ofNat 105, Char.ofNat 102, Char.ofNat 116, Char.ofNat 101, Char.ofNat 100, Char.ofNat 32, Char.ofNat 101, Char.ofNat 108, Char.ofNat 101, Char.ofNat 110, Char.ofNat 99, Char.ofNat 104, Char.ofNat 117, Char.ofNat 115, Char.ofNat 47, Char.ofNat 101, Char.ofNat 108, Char.ofNat 101, Char.ofNat 110, Char.ofNat 99, Char.ofNat 104, Char.ofNat 117, Char.ofNat 115, Char.ofNat 108, Char.ofNat 97, Char.ofNat 119, Char.ofNat 48, Char.ofNat 53, Char.ofNat 46, Char.ofNat 77, Char.ofNat 97, Char.ofNat 116, Char.ofNat 99, Char.ofNat 104, Char.ofNat 85, Char.ofNat 110, Char.ofNat 105, Char.ofNat 102, Char.ofNat 105, Char.ofNat 101, Char.ofNat 115, Char.ofNat 32, Char.ofNat 101, Char.ofNat 108, Char.ofNat 101, Char.ofNat 110, Char.ofNat 99, Char.ofNat 104, Char.ofNat 117, Char.ofNat 115, Char.ofNat 47, Char.ofNat 101, Char.ofNat 108, Char.ofNat 101, Char.ofNat 110, Char.ofNat 99, Char.ofNat 104, Char.ofNat 117, Char.ofNat 115, Char.ofNat 108, Char.ofNat 97, Char.ofNat 119, Char.ofNat 49, Char.ofNat 54, Char.ofNat 46, Char.ofNat 70, Char.ofNat 101, Char.ofNat 97, Char.ofNat 116, Char.ofNat 117, Char.ofNat 114, Char.ofNat 101, Char.ofNat 83, Char.ofNat 117, Char.ofNat 98, Char.ofNat 115, Char.ofNat 117, Char.ofNat 109, Char.ofNat 101, Char.ofNat 115, Char.ofNat 32, Char.ofNat 101, Char.ofNat 108, Char.ofNat 101, Char.ofNat 110, Char.ofNat 99, Char.ofNat 104, Char.ofNat 117, Char.ofNat 115, Char.ofNat 47, Char.ofNat 101, Char.ofNat 108, Char.ofNat 101, Char.ofNat 110, Char.ofNat 99, Char.ofNat 104, Char.ofNat 117, Char.ofNat 115, Char.ofNat 108, Char.ofNat 97, Char.ofNat 119, Char.ofNat 48, Char.ofNat 52, Char.ofNat 46, Char.ofNat 85, Char.ofNat 110, Char.ofNat 105, Char.ofNat 102, Char.ofNat 121, Char.ofNat 83, Char.ofNat 111, Char.ofNat 108, Char.ofNat 118, Char.ofNat 101, Char.ofNat 115]
theorem head_string : Try.checked.prog.initOrder = String.ofList headSigns := by kernel_rfl
theorem head_list : Try.checked.prog.initOrder.toList = headSigns := (congrArg String.toList head_string).trans String.toList_ofList
theorem make_of (P : Program) (h : P.initOrder.toList = headSigns) : P.make = some .cut := by
  unfold Program.make
  rw [h]
  kernel_rfl
theorem fact_make : Try.checked.prog.make = some .cut := make_of _ head_list
theorem liftsFinal_of (P : Program) (h : P.initOrder.toList = headSigns) : P.liftsFinal = false := by
  unfold Program.liftsFinal Program.headLifts
  rw [h]
  kernel_rfl
theorem fact_liftsFinal : Try.checked.prog.liftsFinal = false := liftsFinal_of _ head_list
theorem mayEnter_of (P : Program) (h : P.initOrder.toList = headSigns) (h2 : P.laysLater = false) (h3 : P.bearsReflect = false) (h4 : P.doorFits [] = true) : P.mayEnter = true := by
  unfold Program.mayEnter
  rw [h, h2, h3]
  exact Eq.trans (b := P.doorFits []) (by kernel_rfl) h4
theorem fact_mayEnter : Try.checked.prog.mayEnter = true := mayEnter_of _ head_list (by kernel_rfl) (by kernel_rfl) (by kernel_rfl)
end Go.Proofs.Ythplndalbfcbbaa
/- elenchusref03.Then; SubstJoins, walked. -/
set_option linter.unusedSimpArgs false
set_option linter.unusedVariables false
namespace Go.Proofs.Ythplndalbfcbbaa
open Go.RowKit

theorem firstE_append : ∀ a b : List Bd, firstE (a ++ b) = if firstE a = 0 then firstE b else firstE a
  | [], b => by simp [firstE]
  | v :: a, b => by
    simp only [List.cons_append, firstE, firstE_append a b]
    split <;> simp_all
theorem firstE_snoc {L : List Bd} {k : Nat} (h : k < L.length) (h0 : firstE (L.take k) = 0) : firstE (L.take (k + 1)) = chk L[k].t := by
  rw [List.take_succ_eq_append_getElem h, firstE_append, if_pos h0]
  simp only [firstE]
  split <;> simp_all
theorem firstE_stop {L : List Bd} {k : Nat} (h : k < L.length) (h0 : firstE (L.take k) = 0) (hc : chk L[k].t ≠ 0) : firstE L = chk L[k].t := by
  have h1 := firstE_snoc h h0
  have h3 := firstE_append (L.take (k + 1)) (L.drop (k + 1))
  rw [List.take_append_drop, h1, if_neg hc] at h3
  exact h3
theorem bothL_size {ss us : List Bd} {m : Nat} (hm : 1 ≤ m) (hm2 : m * m ≤ 1000000000) (hb1 : ∀ b, b ∈ ss → b.t.size ≤ m) (hb2 : ∀ b, b ∈ us → b.t.size ≤ m) : ∀ b, b ∈ bothL ss us (upto 256) → b.t.size ≤ 1000000000 := by
  intro b hb
  simp only [bothL, List.mem_map] at hb
  obtain ⟨v, -, rfl⟩ := hb
  exact Nat.le_trans (putT_size us hm hb2 _) (Nat.le_trans (Nat.mul_le_mul_right m (ofBs_size v hm ss hb1)) hm2)

set_option maxHeartbeats 8000000 in
set_option maxRecDepth 100000 in
theorem then3_calls (ss us : List Bd) (m : Nat) (sb ub : Value) (w : World) (hm : 1 ≤ m) (hm2 : m * m ≤ 1000000000) (hm9 : m ≤ 1000000000) (hb1 : ∀ b, b ∈ ss → b.t.size ≤ m) (hb2 : ∀ b, b ∈ us → b.t.size ≤ m) (hsb : Binds (fun _ => False) w sb ss) (hub : Binds (fun _ => False) w ub us) :
    Calls Try.prog 48 #[sb, ub] w fun e w' => ∃ v, e = .returned (.tuple #[v, .int .i64 (thenT ss us).2]) ∧ Binds (fun _ => False) w' v (thenT ss us).1 ∧ Below w.heap.size w w' := by
  obtain ⟨a1, d1, rfl, hc1, hc1'⟩ := hsb.shape
  obtain ⟨a2, d2, rfl, hc2, hc2'⟩ := hub.shape
  go_enter Try.func48, Try.ntmps48
  have HB1 := hide (fun b hb => Nat.le_trans (hb1 b hb) hm9)
  have HB2 := hide (fun b hb => Nat.le_trans (hb2 b hb) hm9)
  have HC1 := hide hb1
  have HC2 := hide hb2
  clear hb1 hb2
  have NILB := hide (fun W => (by simp only [Binds, RepD, List.map_nil]; exact ⟨none, 0, 0, rfl, rfl, by omega, by omega, by simp⟩ : Binds (fun _ => False) W (.slice none 0 0) []))
  go_wp2_with fail
  refine (right3_calls ss (fun _ => False) _ _ HB1.out hsb).mono ?_
  rintro e w1 ⟨rfl, B1⟩
  cases hrs : rightBs ss
  · have HT := hide (show thenT ss us = ([], 1) by rw [thenT, if_neg]; simp [hrs])
    have HRS := hide hrs
    clear hrs
    go_wp2
    exact bodyPost_ret (v := .tuple #[.slice none 0 0, .int .i64 1]) (by simp [results, Try.results48, go_sem]) rfl ⟨_, by rw [HT.out], by rw [HT.out]; exact NILB.out _, B1⟩
  have HRS := hide hrs
  clear hrs
  go_wp2_with fail
  refine (right3_calls us (fun _ => False) _ _ HB2.out (hub.below B1)).mono ?_
  rintro e w2 ⟨rfl, h2⟩
  have B2 := more_below B1 h2
  clear h2 B1
  cases hru : rightBs us
  · have HT := hide (show thenT ss us = ([], 1) by rw [thenT, if_neg]; simp [hru])
    have HRU := hide hru
    clear hru
    go_wp2
    exact bodyPost_ret (v := .tuple #[.slice none 0 0, .int .i64 1]) (by simp [results, Try.results48, go_sem]) rfl ⟨_, by rw [HT.out], by rw [HT.out]; exact NILB.out _, B2⟩
  have HRU := hide hru
  have HT := hide (show thenT ss us = thenP ss us (upto 256) by rw [thenT, if_pos ⟨HRS.out, hru⟩])
  have HE := hide (thenE_bothL HRS.out hru)
  have HZ := hide (bothL_size hm hm2 HC1.out HC2.out)
  clear hru
  go_wp2_with fail
  refine (both3_calls ss us m _ _ _ HRS.out HRU.out hm hm2 HC1.out HC2.out (hsb.below B2) (hub.below B2)).mono ?_
  rintro e w3 ⟨vb, rfl, hL, h3⟩
  have B3 := more_below B2 h3
  clear h3 B2
  generalize hll : bothL ss us (upto 256) = L at *
  have HLL := hide hll
  clear hll
  obtain ⟨al, cl, rfl, hlc, hlc'⟩ := hL.shape
  have hl9 : L.length ≤ 9223372036854775807 := by omega
  go_wp2
  go_loopw [7] (fun i wr => ∃ k : Nat, k ≤ L.length ∧ i = .int .i64 k ∧ Below w3.heap.size w3 wr ∧ Hid (firstE (L.take k) = 0)) (fun i _ => L.length - (intOf i).toNat)
  case atStart => exact ⟨0, by omega, rfl, Below.refl _ _, hide rfl⟩
  case round =>
    obtain ⟨k, hk, rfl, hB, hE⟩ := hrel
    by_cases hlt : k < L.length
    · obtain ⟨b, off, a', c', rfl, g0, g1, g2, gt⟩ := hL.getW hB k hlt
      have hz := HZ.out L[k] (List.getElem_mem hlt)
      have HSTOP := hide (firstE_stop hlt hE.out)
      have HSN := hide (firstE_snoc hlt hE.out)
      go_wp2_with fail
      refine (rcheck_calls L[k].t (fun _ => False) _ _ _ hz gt).mono ?_
      rintro e w4 ⟨rfl, h4⟩
      have hB4 := hB.trans (h4.mono hB.size)
      generalize chk L[k].t = x at *
      clear h4 hB g0 g1 g2 gt
      by_cases hx : x = 0
      · have HE2 := hide (show firstE (L.take (k + 1)) = 0 by rw [HSN.out, hx])
        subst hx
        clear HSN HSTOP
        go_wp2
        go_roundw
        case rel => exact ⟨k + 1, by omega, by go_num, hB4, HE2⟩
        case measure => simp [intOf]; omega
      · have HRES := hide (show thenT ss us = ([], x) by rw [HT.out, thenP, ← HE.out, HSTOP.out hx, if_neg hx])
        have hne : (x != 0) = true := by simpa using hx
        have hBe := more_below B3 hB4
        clear hx HSN HSTOP
        go_wp2
        exact bodyPost_ret (v := .tuple #[.slice none 0 0, .int .i64 x]) (by simp [results, Try.results48, go_sem]) rfl ⟨_, by rw [HRES.out], by rw [HRES.out]; exact NILB.out _, hBe⟩
    · obtain rfl : k = L.length := by omega
      have hE' := hE.out
      rw [List.take_length] at hE'
      have HRES := hide (show thenT ss us = (L, 0) by rw [HT.out, thenP, ← HE.out, if_pos hE', HLL.out])
      have hBe := more_below B3 hB
      have hL' := hL.below hB
      clear hE hE' hlt hk
      go_wp2
      exact bodyPost_ret (v := .tuple #[.slice al L.length cl, .int .i64 0]) (by simp [results, Try.results48, go_sem]) rfl ⟨_, by rw [HRES.out], by rw [HRES.out]; exact hL', hBe⟩

set_option maxHeartbeats 8000000 in
set_option maxRecDepth 100000 in
theorem joins_calls (ss us : List Bd) (sb ub : Value) (w : World) (hr1 : ∀ b, b ∈ ss → -9223372036854775808 ≤ b.v ∧ b.v ≤ 9223372036854775807) (hr2 : ∀ b, b ∈ us → -9223372036854775808 ≤ b.v ∧ b.v ≤ 9223372036854775807)
    (hsb : Binds (fun _ => False) w sb ss) (hub : Binds (fun _ => False) w ub us) :
    Calls Try.prog 7 #[sb, ub] w fun e w' => e = .returned (.bool true) ∧ Below w.heap.size w w' := by
  obtain ⟨a1, d1, rfl, hd1, hd1'⟩ := hsb.shape
  obtain ⟨a2, d2, rfl, hd2, hd2'⟩ := hub.shape
  have HR1 := hide hr1
  have HR2 := hide hr2
  clear hr1 hr2
  go_enter Try.func7, Try.ntmps7
  go_wp2_with fail
  refine (few3_calls ss (fun _ => False) _ _ hsb).mono ?_
  rintro e w1 ⟨rfl, B1⟩
  cases hf1 : fewBs ss
  · have HF := hide hf1
    clear hf1
    go_wp2
    go_ret
    exact ⟨rfl, B1⟩
  have HM1 := hide (few_sizes hf1)
  have HL1 := hide (few_length hf1)
  clear hf1
  go_wp2_with fail
  refine (few3_calls us (fun _ => False) _ _ (hub.below B1)).mono ?_
  rintro e w2 ⟨rfl, h2⟩
  have B2 := more_below B1 h2
  clear h2 B1
  cases hf2 : fewBs us
  · have HF := hide hf2
    clear hf2
    go_wp2
    go_ret
    exact ⟨rfl, B2⟩
  have HM2 := hide (few_sizes hf2)
  have HL2 := hide (few_length hf2)
  clear hf2
  have HTS := hide (then_small ss us)
  go_wp2_with fail
  have hc1 := subthen_calls ss us 500 (.slice a1 ss.length d1) (.slice a2 us.length d2) w2 HR1.out HR2.out (by omega) (by omega) (by omega) HM1.out HM2.out (by have := HL1.out; omega) (by have := HL2.out; omega) (hsb.below B2) (hub.below B2)
  refine hc1.mono ?_
  rintro e w3 ⟨v1, rfl, hx, h3⟩
  have B3 := more_below B2 h3
  clear hc1 h3 B2
  have hc2 := then3_calls ss us 500 (.slice a1 ss.length d1) (.slice a2 us.length d2) w3 (by omega) (by omega) (by omega) HM1.out HM2.out (hsb.below B3) (hub.below B3)
  generalize hRx : thenT ss us = Rx at *
  obtain ⟨xx, xe⟩ := Rx
  have HSX := hide (fun b hb => Nat.le_trans ((HTS.out b hb).1) (by omega : 400 ≤ 1000000000))
  clear HTS hRx
  obtain ⟨a6, d6, rfl, -, -⟩ := hx.shape
  go_wp2_with fail
  refine hc2.mono ?_
  rintro e w4 ⟨v2, rfl, hy, h4⟩
  obtain ⟨a7, d7, rfl, -, -⟩ := hy.shape
  have B4 := more_below B3 h4
  have hx4 := hx.below h4
  clear hc2 h4 B3 hx
  go_wp2_with fail
  refine (awake_calls _).mono ?_
  rintro e x1 ⟨rfl, h1⟩
  have B5 := more_below B4 h1
  have hx5 := hx4.below h1
  have hy5 := hy.below h1
  clear h1 B4 hx4 hy
  go_wp2_with fail
  refine (same3_calls xx (fun _ => False) (fun _ => False) _ _ _ HSX.out hx5 hy5).mono ?_
  rintro e x2 ⟨rfl, h2⟩
  have B6 := more_below B5 h2
  go_wp2
  go_ret
  exact ⟨rfl, B6⟩
end Go.Proofs.Ythplndalbfcbbaa
/- The arguments, read: terms, binds. -/
set_option linter.unusedSimpArgs false
set_option linter.unusedVariables false
namespace Go.Proofs.Ythplndalbfcbbaa
open Go.RowKit Go.ChangeShapes Go.WideShapes Go.ChangeAt

section
variable {H : Type} {enc : TypeId × Value → H} {P : Program} {W : World} {sp : Nat → Bool} {held : Bool}
theorem cells_get {base : Nat} {a : Addr} {n : Nat} {cs : List Value} (h : W.cells? base a n = some cs) : cs.length = n ∧ ∀ i, i < n → W.cell? (a.add i) = cs[i]? := by
  unfold World.cells? at h
  split at h
  · refine ⟨by simpa using mapM_some_length h, fun i hi => ?_⟩
    have := mapM_some_get h i i (by simp [hi])
    exact this
  · cases h
/-- A slice that is read, each of its elements being read so. -/
theorem read_slice {t e k : Nat} {fuel : Nat} {cs : List Value} {x : DataW H × List MemPlace} (ht : P.underlying t = some (.slice e)) (hk : P.cellsOf e = k) (hk0 : 0 < k) {α : Type} (f : α → D)
    (h : DataW.trod enc P W 0 sp held fuel t cs = some x) (hel : ∀ n cs y, n < fuel → DataW.trod enc P W 0 sp held n e cs = some y → ∃ u : α, RepD (fun _ => False) W (f u) cs) :
    ∃ us : List α, RepD (fun _ => False) W (.row k (us.map f)) cs := by
  rcases DataW.trod_slice ht h with ⟨rfl, _⟩ | ⟨a, len, cap, elems, rest, n, hn, rfl, _, _, hl, hm, hlen, hget, _, _⟩
  · exact ⟨[], by simp only [RepD]; exact ⟨none, 0, 0, rfl, rfl, by omega, by omega, by omega⟩⟩
  · have hx : ∀ i : Fin len, ∃ (u : α) (cs : List Value), cs.length = k ∧ (∀ j, j < k → W.cell? ((a.add (i * k)).add j) = cs[j]?) ∧ RepD (fun _ => False) W (f u) cs := by
      intro i
      have h1 := hget i i.2
      have h2 : elems[i.1]? = some (elems[i.1]'(by omega)) := List.getElem?_eq_getElem _
      rw [h2, hk] at h1
      obtain ⟨cs', h3, h4⟩ := Option.bind_eq_some_iff.1 h1
      obtain ⟨u, hu⟩ := hel n cs' _ (by omega) h4
      obtain ⟨g1, g2⟩ := cells_get h3
      exact ⟨u, cs', g1, g2, hu⟩
    refine ⟨List.ofFn fun i => Classical.choose (hx i), ?_⟩
    simp only [RepD]
    refine ⟨some a, len, cap, rfl, by simp, hl, Nat.le_trans hl (by simpa [maxLen] using hm), fun h0 => ?_⟩
    obtain ⟨cs0, hc1, hc2, _⟩ := Classical.choose_spec (hx ⟨0, h0⟩)
    have hc0 := hc2 0 hk0
    have hcell : W.cell? a = some (cs0[0]'(by omega)) := by
      rw [List.getElem?_eq_getElem (by omega)] at hc0
      simpa [Addr.add] using hc0
    have hspot := World.cell?_spot hcell
    obtain ⟨b, off, spot⟩ := a
    simp only at hspot
    subst hspot
    refine ⟨b, off, rfl, World.block_lt_of_cell? W _ hcell, id, ?_⟩
    have hadd : ∀ i j : Nat, ((⟨b, off, none⟩ : Addr).add i).add j = ⟨b, off + i + j, none⟩ := fun i j => by
      unfold Addr.add
      split <;> split <;> simp_all
    have main : ∀ (m : Nat) (us : List α) (o : Nat), (∀ i (hi : i < us.length), ∃ cs : List Value, cs.length = k ∧ (∀ j, j < k → W.cell? ⟨b, o + i * k + j, none⟩ = cs[j]?) ∧ RepD (fun _ => False) W (f us[i]) cs) → RepR (fun _ => False) W b k o (us.map f) := by
      intro _ us
      induction us with
      | nil => intro o _; simp only [List.map_nil, RepR]
      | cons u us ih =>
        intro o hu
        simp only [List.map_cons, RepR]
        refine ⟨?_, ih (o + k) fun i hi => ?_⟩
        · obtain ⟨cs, g1, g2, g3⟩ := hu 0 (by simp)
          exact ⟨cs, g1, fun j hj => by have := g2 j hj; simpa using this, g3⟩
        · obtain ⟨cs, g1, g2, g3⟩ := hu (i + 1) (by simpa using hi)
          exact ⟨cs, g1, fun j hj => by have := g2 j hj; rwa [show o + k + i * k + j = o + (i + 1) * k + j by rw [Nat.succ_mul]; omega], by simpa using g3⟩
    refine main 0 _ off fun i hi => ?_
    have hi' : i < len := by simpa using hi
    obtain ⟨cs, g1, g2, g3⟩ := Classical.choose_spec (hx ⟨i, hi'⟩)
    exact ⟨cs, g1, fun j hj => by have := g2 j hj; rwa [hadd] at this, by simpa using g3⟩
end
end Go.Proofs.Ythplndalbfcbbaa
/- The arguments of this program, read. -/
set_option linter.unusedSimpArgs false
set_option linter.unusedVariables false
namespace Go.Proofs.Ythplndalbfcbbaa
open Go.RowKit Go.ChangeShapes Go.WideShapes Go.ChangeAt

section
variable {H : Type} {enc : TypeId × Value → H} {W : World} {sp : Nat → Bool} {held : Bool}
theorem cellsTerm : Try.prog.cellsOf 25 = 2 := by kernel_rfl
theorem cellsBind : Try.prog.cellsOf 60 = 3 := by kernel_rfl
theorem cellsInt : Try.prog.cellsOf 3 = 1 := by kernel_rfl
theorem cellsTerms : Try.prog.cellsOf 23 = 1 := by kernel_rfl
theorem wf_range {x : Int} (h : (Lit.int .i64 x).wf = true) : -9223372036854775808 ≤ x ∧ x ≤ 9223372036854775807 := by
  have e1 : IntKind.i64.min = -9223372036854775808 := by decide
  have e2 : IntKind.i64.max = 9223372036854775807 := by decide
  simp [Lit.wf, e1, e2] at h
  omega
theorem list2 {l : List Value} (h : l.length = 2) : ∃ a b, l = [a, b] := by
  match l, h with
  | [a, b], _ => exact ⟨a, b, rfl⟩
theorem list3 {l : List Value} (h : l.length = 3) : ∃ a b c, l = [a, b, c] := by
  match l, h with
  | [a, b, c], _ => exact ⟨a, b, c, rfl⟩
theorem readTm : ∀ (fuel : Nat) (cs : List Value) (x : DataW H × List MemPlace), DataW.trod enc Try.prog W 0 sp held fuel 25 cs = some x → ∃ t : Tm, RepD (fun _ => False) W t.d cs := by
  intro fuel
  induction fuel using Nat.strongRecOn with
  | ind fuel ih =>
    intro cs x h
    obtain ⟨xs, n, rfl, _, hl, hlen, hf⟩ := DataW.trod_struct Try.underlying25 h
    rw [cellsTerm] at hl
    obtain ⟨c0, c1, rfl⟩ := list2 hl
    have h0 := hf 0 _ rfl
    have h1 := hf 1 _ rfl
    have e0 : xs[0]? = some (xs[0]'(by rw [hlen]; decide)) := List.getElem?_eq_getElem _
    have e1 : xs[1]? = some (xs[1]'(by rw [hlen]; decide)) := List.getElem?_eq_getElem _
    rw [e0] at h0
    rw [e1] at h1
    obtain ⟨v, hv, _, hw⟩ := DataW.trod_int Try.underlying3 h0
    obtain ⟨us, hus⟩ := read_slice Try.underlying23 cellsTerm (by omega) Tm.d h1 (fun m cs y hm hy => ih m (by omega) cs y hy)
    replace hv : [c0, c1].take (Try.prog.cellsOf 3) = [.int .i64 v] := hv
    replace hus : RepD (fun _ => False) W (.row 2 (us.map Tm.d)) ([c1].take (Try.prog.cellsOf 23)) := hus
    rw [cellsInt] at hv
    rw [cellsTerms] at hus
    simp at hv hus
    subst hv
    exact ⟨.node v us, repTm.2 ⟨c1, rfl, by rw [Terms, Tm.ds_eq]; exact hus⟩⟩
theorem readBd (fuel : Nat) (cs : List Value) (x : DataW H × List MemPlace) (h : DataW.trod enc Try.prog W 0 sp held fuel 60 cs = some x) :
    ∃ b : { b : Bd // -9223372036854775808 ≤ b.v ∧ b.v ≤ 9223372036854775807 }, RepD (fun _ => False) W b.1.d cs := by
  obtain ⟨xs, n, rfl, _, hl, hlen, hf⟩ := DataW.trod_struct Try.underlying60 h
  rw [cellsBind] at hl
  obtain ⟨c0, c1, c2, rfl⟩ := list3 hl
  have h0 := hf 0 _ rfl
  have h1 := hf 1 _ rfl
  have e0 : xs[0]? = some (xs[0]'(by rw [hlen]; decide)) := List.getElem?_eq_getElem _
  have e1 : xs[1]? = some (xs[1]'(by rw [hlen]; decide)) := List.getElem?_eq_getElem _
  rw [e0] at h0
  rw [e1] at h1
  obtain ⟨v, hv, _, hw⟩ := DataW.trod_int Try.underlying3 h0
  obtain ⟨t, ht⟩ := readTm n _ _ h1
  replace hv : [c0, c1, c2].take (Try.prog.cellsOf 3) = [.int .i64 v] := hv
  replace ht : RepD (fun _ => False) W t.d ([c1, c2].take (Try.prog.cellsOf 25)) := ht
  rw [cellsInt] at hv
  rw [cellsTerm] at ht
  simp at hv ht
  subst hv
  obtain ⟨s, hs, hts⟩ := repTm.1 ht
  simp at hs
  obtain ⟨rfl, rfl⟩ := hs
  exact ⟨⟨⟨v, t⟩, wf_range hw⟩, repBd.2 ⟨c2, rfl, hts⟩⟩
theorem readBinds (fuel : Nat) (s : Value) (x : DataW H × List MemPlace) (h : DataW.trod enc Try.prog W 0 sp held fuel 22 [s] = some x) :
    ∃ bs : List Bd, (∀ b, b ∈ bs → -9223372036854775808 ≤ b.v ∧ b.v ≤ 9223372036854775807) ∧ Binds (fun _ => False) W s bs := by
  obtain ⟨us, hus⟩ := read_slice Try.underlying22 cellsBind (by omega) (fun b : { b : Bd // -9223372036854775808 ≤ b.v ∧ b.v ≤ 9223372036854775807 } => b.1.d) h (fun m cs y _ hy => readBd m cs y hy)
  refine ⟨us.map (·.1), fun b hb => ?_, ?_⟩
  · obtain ⟨u, _, rfl⟩ := List.mem_map.1 hb
    exact u.2
  · unfold Binds
    rw [List.map_map]
    exact hus
theorem readTerm (fuel : Nat) (h0 : Value) (s : Value) (x : DataW H × List MemPlace) (h : DataW.trod enc Try.prog W 0 sp held fuel 25 [h0, s] = some x) : ∃ t : Tm, h0 = .int .i64 t.h ∧ IsTm (fun _ => False) W t.h s t := by
  obtain ⟨t, ht⟩ := readTm fuel _ _ h
  obtain ⟨s', hs, hts⟩ := repTm.1 ht
  simp at hs
  obtain ⟨rfl, rfl⟩ := hs
  exact ⟨t, rfl, rfl, hts⟩
end
end Go.Proofs.Ythplndalbfcbbaa
/- SubstStays, walked. -/
set_option linter.unusedSimpArgs false
set_option linter.unusedVariables false
namespace Go.Proofs.Ythplndalbfcbbaa
open Go.RowKit

theorem stays_none_snoc (bs : List Bd) (vs : List Int) (k : Nat) (h : k < vs.length) : noneB bs (vs.take (k + 1)) = (noneB bs (vs.take k) && sameB (ofBs vs[k] bs) (.node (-1 - vs[k]) [])) := by
  rw [List.take_succ_eq_append_getElem h, noneB_snoc]
theorem stays_all_snoc (bs : List Bd) (vs : List Int) (k : Nat) (h : k < vs.length) : allT bs (vs.take (k + 1)) = allT bs (vs.take k) ++ varsT (ofBs vs[k] bs) := by
  rw [List.take_succ_eq_append_getElem h, allT_snoc]
/-- What the loops' round needs of the own variables. -/
theorem own_range {t : Tm} (hg : t.good = true) {v : Int} (hv : v ∈ varsT t) : 0 ≤ v ∧ v ≤ 255 := by
  obtain ⟨h, h1, h2, rfl⟩ := mem_varsT.1 hv
  have := good_heads t hg h h1
  omega

set_option maxHeartbeats 8000000 in
set_option maxRecDepth 100000 in
theorem stays_calls (bs : List Bd) (t : Tm) (h : Int) (s sb : Value) (w : World) (hrange : ∀ b, b ∈ bs → -9223372036854775808 ≤ b.v ∧ b.v ≤ 9223372036854775807)
    (hsb : Binds (fun _ => False) w sb bs) (hs : IsTm (fun _ => False) w h s t) :
    Calls Try.prog 4 #[sb, .agg #[.int .i64 h, s]] w fun e w' => e = .returned (.bool true) ∧ Below w.heap.size w w' := by
  obtain ⟨rfl, a, c, rfl, hlc, hc⟩ := hs.shape
  obtain ⟨ab, cb, rfl, hlcb, hcb⟩ := hsb.shape
  go_enter Try.func4, Try.ntmps4
  have hal : Below w.heap.size w (w.alloc (.cells #[.int .i64 t.h, .slice a t.args.length c] 25)) := (Below.refl _ _).alloc (Nat.le_refl _) _
  have k0 : (w.alloc (.cells #[.int .i64 t.h, .slice a t.args.length c] 25)).heap[w.heap.size]? = some (.cells #[.int .i64 t.h, .slice a t.args.length c] 25 (0, 0)) := World.alloc_heap_new _ _
  go_wp2_with fail
  refine (few3_calls bs (fun _ => False) _ _ (hsb.below hal)).mono ?_
  rintro e w1 ⟨rfl, h1⟩
  have B1 := more_below hal h1
  have k1 := (h1.block _ (Array.getElem?_eq_some_iff.1 k0).1).trans k0
  clear h1 k0 hal
  obtain ⟨-, z0, z1, -, -⟩ := box2 k1
  cases hf : fewBs bs
  · have HF := hide hf
    clear hf
    go_wp2
    go_ret
    exact ⟨rfl, B1⟩
  have hbm := few_sizes hf
  clear hf
  go_wp2_with fail
  refine (few1_calls t (fun _ => False) _ _ _ (hs.below B1)).mono ?_
  rintro e w2 ⟨rfl, h2⟩
  have B2 := more_below B1 h2
  have k2 := (h2.block _ (Array.getElem?_eq_some_iff.1 k1).1).trans k1
  clear h2 k1 z0 z1 B1
  obtain ⟨-, z0, z1, -, -⟩ := box2 k2
  cases hf : fewB t
  · have HF := hide hf
    clear hf
    go_wp2
    go_ret
    exact ⟨rfl, B2⟩
  have hts := few_size hf
  clear hf
  have htm : t.size * 500 ≤ 1000000000 := by omega
  have HA := hide (applyT_size (bs := bs) (t := t) (by omega) hbm htm)
  have HOK := hide (apply_ok (bs := bs) (t := t))
  have HBAD := hide (apply_bad (bs := bs) (t := t))
  have HNIL := hide (apply_nil t)
  generalize hRa : applyT bs t = Ra at *
  obtain ⟨ra, ea⟩ := Ra
  go_wp2_with fail
  have hc1 := subapply_calls bs t 500 (fun _ => False) t.h (.slice a t.args.length c) (.slice ab bs.length cb) w2 (fun _ h => h.elim) hrange (by omega) hbm (by omega) htm (hsb.below B2) (hs.below B2)
  rw [hRa] at hc1
  refine hc1.mono ?_
  rintro e w3 ⟨s3', he, t3, h3⟩
  subst he
  obtain ⟨a3, c3, rfl, -, -⟩ := t3.shape
  have B3 := more_below B2 h3
  have k3 := (h3.block _ (Array.getElem?_eq_some_iff.1 k2).1).trans k2
  clear hc1 h3 k2 z0 z1 B2
  obtain ⟨L3, z0, z1, -, -⟩ := box2 k3
  go_wp2_with fail
  have hal : Below w3.heap.size w3 (w3.alloc (.cells #[.int .i64 ra.h, .slice a3 ra.args.length c3] 25)) := (Below.refl _ _).alloc (Nat.le_refl _) _
  have m4 : (w3.alloc (.cells #[.int .i64 ra.h, .slice a3 ra.args.length c3] 25)).heap[w3.heap.size]? = some (.cells #[.int .i64 ra.h, .slice a3 ra.args.length c3] 25 (0, 0)) := World.alloc_heap_new _ _
  have B4 := more_below B3 hal
  have k4 := (hal.block _ L3).trans k3
  have t4 := t3.below hal
  generalize (w3.alloc (.cells #[.int .i64 ra.h, .slice a3 ra.args.length c3] 25)) = V4 at *
  clear hal k3 z0 z1 B3 t3
  obtain ⟨L4, z0, z1, -, -⟩ := box2 k4
  generalize hRb : applyT [] t = Rb at *
  obtain ⟨rb, eb⟩ := Rb
  have hc2 := subapply_calls [] t 500 (fun _ => False) t.h (.slice a t.args.length c) (.slice none 0 0) V4 (fun _ h => h.elim) (by simp) (by omega) (by simp) (by omega) htm (by simp only [Binds, RepD, List.map_nil]; exact ⟨none, 0, 0, rfl, rfl, by omega, by omega, by simp⟩) (hs.below B4)
  rw [hRb] at hc2
  refine hc2.mono ?_
  rintro e w5 ⟨s5', he, t5, h5⟩
  subst he
  obtain ⟨a5, c5, rfl, -, -⟩ := t5.shape
  have B5 := more_below B4 h5
  have k5 := (h5.block _ L4).trans k4
  have m5 := (h5.block _ (Array.getElem?_eq_some_iff.1 m4).1).trans m4
  have t4' := t4.below h5
  clear hc2 h5 k4 m4 B4 t4 z0 z1
  obtain ⟨L5, z0, z1, -, -⟩ := box2 k5
  cases hrt : rightB t
  · -- the term is not right: both are refused
    have e1 := HBAD.out hrt
    have e2 := HNIL.out
    rw [hrt] at e2
    simp only [Bool.false_eq_true, if_false, Prod.mk.injEq] at e1 e2
    obtain ⟨rfl, rfl⟩ := e1
    obtain ⟨rfl, rfl⟩ := e2
    have hal := (Below.refl w5.heap.size w5).alloc (Nat.le_refl _) (.cells #[.int .i64 (Tm.node 0 []).h, .slice a5 (Tm.node 0 []).args.length c5] 25)
    clear HA HOK HBAD HNIL hRa hRb
    go_wp2_with fail
    refine (awake_calls _).mono ?_
    rintro e x1 ⟨rfl, h1⟩
    go_wp2
    go_ret
    exact ⟨rfl, more_below (more_below B5 hal) h1⟩
  have e2 := HNIL.out
  rw [hrt, if_pos rfl] at e2
  simp only [Prod.mk.injEq] at e2
  obtain ⟨h6, rfl⟩ := e2
  obtain rfl := h6.symm
  clear HNIL HBAD hRb
  have hal : Below w5.heap.size w5 (w5.alloc (.cells #[.int .i64 t.h, .slice a5 t.args.length c5] 25)) := (Below.refl _ _).alloc (Nat.le_refl _) _
  have m6 : (w5.alloc (.cells #[.int .i64 t.h, .slice a5 t.args.length c5] 25)).heap[w5.heap.size]? = some (.cells #[.int .i64 t.h, .slice a5 t.args.length c5] 25 (0, 0)) := World.alloc_heap_new _ _
  have B6 := more_below B5 hal
  have k6 := (hal.block _ L5).trans k5
  have m5' := (hal.block _ (Array.getElem?_eq_some_iff.1 m5).1).trans m5
  have t6 := t5.below hal
  have t4a := t4'.below hal
  clear hal k5 z0 z1 B5 t5 m5 t4'
  by_cases hea : ea = 0
  rotate_left
  · have hea' : (ea != 0) = true := by simpa using hea
    clear hea HOK HA hRa
    go_wp2_with fail
    generalize (w5.alloc (.cells #[.int .i64 t.h, .slice a5 t.args.length c5] 25)) = V6 at *
    refine (awake_calls _).mono ?_
    rintro e x1 ⟨rfl, h1⟩
    go_wp2
    go_ret
    exact ⟨rfl, more_below B6 h1⟩
  subst hea
  have hr3 := (HOK.out rfl).1
  have hput : ra = putT bs t := (HOK.out rfl).2.2.2
  have hgt := chk_good hrt
  have hga : ra.good = true := by rw [hput]; exact putT_good hr3 t hgt
  have hchk : chk ra = 0 := by rw [hput]; exact (HOK.out rfl).2.2.1
  have hsa := right_size hchk
  have hst : t.size ≤ 400 := right_size (by simpa [rightB] using hrt)
  have HPUT := hide hput
  have HR3 := hide hr3
  have HGT := hide hgt
  have HGA := hide hga
  clear HOK HA hRa hput hr3 hgt hga hchk hrt
  obtain ⟨L6, z0, z1, -, -⟩ := box2 k6
  obtain ⟨-, y0, y1, -, -⟩ := box2 m6
  go_wp2_with fail
  generalize (w5.alloc (.cells #[.int .i64 t.h, .slice a5 t.args.length c5] 25)) = V6 at *
  refine (same_calls t t (fun _ => False) (fun _ => False) _ _ _ _ _ (by omega) (by omega) ⟨rfl, t6⟩ (hs.below B6)).mono ?_
  rw [sameB_self]
  rintro e w7 ⟨rfl, h7⟩
  have B7 := more_below B6 h7
  have k7 := (h7.block _ L6).trans k6
  have m7 := (h7.block _ (Array.getElem?_eq_some_iff.1 m5').1).trans m5'
  have t7 := t4a.below h7
  clear h7 z0 z1 y0 y1 m6 k6 m5' B6 t6 t4a
  obtain ⟨L7, z0, z1, -, -⟩ := box2 k7
  obtain ⟨M7, y0, y1, -, -⟩ := box2 m7
  go_wp2_with fail
  refine (tvars_calls t (fun _ => False) (fun _ => False) _ _ _ (fun _ h => h.elim) (hs.below B7) (by omega) (good_heads t HGT.out)).mono ?_
  rintro e w8 ⟨vo, rfl, io, h8⟩
  have B8 := more_below B7 h8
  have k8 := (h8.block _ L7).trans k7
  have m8 := (h8.block _ M7).trans m7
  have t8 := t7.below h8
  obtain ⟨ao, co, rfl, hlo, hco⟩ := io.shape
  clear h8 z0 z1 y0 y1 k7 m7 B7 t7
  obtain ⟨L8, z0, z1, -, -⟩ := box2 k8
  obtain ⟨M8, y0, y1, -, -⟩ := box2 m8
  go_wp2_with fail
  refine (tvars_calls ra (fun _ => False) (fun _ => False) _ _ _ (fun _ h => h.elim) ⟨rfl, t8⟩ (by omega) (good_heads ra HGA.out)).mono ?_
  rintro e w9 ⟨vn, rfl, inw, h9⟩
  have B9 := more_below B8 h9
  have k9 := (h9.block _ L8).trans k8
  have m9 := (h9.block _ M8).trans m8
  have t9 := t8.below h9
  have io9 := io.below h9
  obtain ⟨an, cn, rfl, hln, hcn⟩ := inw.shape
  clear h9 z0 z1 y0 y1 k8 m8 B8 t8 io
  have HALL := hide (fun v => all_iff (bs := bs) (t := t) HGT.out v)
  have HNONE := hide (none_same (bs := bs) (t := t) HGT.out)
  rw [← HPUT.out] at HALL HNONE
  have hown : ∀ v, v ∈ varsT t → 0 ≤ v ∧ v ≤ 255 := fun v hv => own_range HGT.out hv
  have HOWN := hide hown
  clear hown
  have hol : (varsT t).length ≤ 400 := Nat.le_trans (varsT_length t) hst
  have hnl : (varsT ra).length ≤ 400 := Nat.le_trans (varsT_length ra) hsa
  generalize hOw : varsT t = own at *
  generalize hNw : varsT ra = now at *
  clear hOw hNw
  go_wp2
  go_loopw [11, 12, 13] (fun q v i wr => ∃ k : Nat, k ≤ own.length ∧ i = .int .i64 k ∧ q = .bool (noneB bs (own.take k)) ∧ OwnD (fun _ => False) wr w9.heap.size 3 1 v ((allT bs (own.take k)).map intD) ∧ Below w9.heap.size w9 wr) (fun _ _ i _ => own.length - (intOf i).toNat)
  case atStart => exact ⟨0, by omega, rfl, by simp [noneB], by simpa [allT] using OwnD.nil _ _ _ _ _, Below.refl _ _⟩
  case round =>
    obtain ⟨k, hk, rfl, rfl, hO, hB⟩ := hrel
    by_cases hlt : k < own.length
    · have hv := HOWN.out own[k] (List.getElem_mem hlt)
      obtain ⟨b, off, rfl, hbs, -, g0⟩ := io9.get k hlt
      have hc1 := (hB.cell (p := ⟨b, off + k, none⟩) hbs).trans g0
      have Bwr := more_below B9 hB
      have kr := (hB.block _ (Array.getElem?_eq_some_iff.1 k9).1).trans k9
      obtain ⟨Lr, z0, z1, -, -⟩ := box2 kr
      clear g0
      go_wp2_with fail
      refine (subof_calls bs own[k] (fun _ => False) _ _ hv.1 (by omega) (fun _ h => h.elim) hrange (hsb.below Bwr)).mono ?_
      rintro e w10 ⟨su, rfl, tu, h10⟩
      have HUG := hide (ofBs_good HR3.out hv.1 hv.2)
      have HUS := hide (ofBs_size own[k] (by omega) bs hbm)
      have HNS := hide (stays_none_snoc bs own k hlt)
      have HAS := hide (stays_all_snoc bs own k hlt)
      generalize hu : ofBs own[k] bs = u at *
      clear hu
      obtain ⟨au, cu, rfl, -, -⟩ := tu.shape
      have B10 := hB.trans (h10.mono hB.size)
      have O10 := hO.below h10
      have hc2 := (B10.cell (p := ⟨b, off + k, none⟩) hbs).trans (by first | exact g0' | exact (io9.get k hlt).elim (fun _ h => by obtain ⟨_, h1, _, _, h2⟩ := h; cases h1; exact h2))
      clear hc1 h10 Bwr kr Lr z0 z1 hB hO
      go_wp2_with fail
      have hal : Below w10.heap.size w10 (w10.alloc (.cells #[.int .i64 u.h, .slice au u.args.length cu] 25)) := (Below.refl _ _).alloc (Nat.le_refl _) _
      have kU : (w10.alloc (.cells #[.int .i64 u.h, .slice au u.args.length cu] 25)).heap[w10.heap.size]? = some (.cells #[.int .i64 u.h, .slice au u.args.length cu] 25 (0, 0)) := World.alloc_heap_new _ _
      have BV := B10.trans (hal.mono B10.size)
      have OV := O10.below hal
      have tV := tu.below hal
      generalize (w10.alloc (.cells #[.int .i64 u.h, .slice au u.args.length cu] 25)) = V at *
      clear B10 O10 tu hal hc2
      have hS : ∀ W', Below V.heap.size V W' → Below V.heap.size V W' ∧ W'.cell? ⟨w10.heap.size, 0, none⟩ = some (.int .i64 u.h) ∧ W'.cell? ⟨w10.heap.size, 1, none⟩ = some (.slice au u.args.length cu) ∧ W'.cell? ⟨b, off + k, none⟩ = some (.int .i64 own[k]) := fun W' hW => by
        obtain ⟨-, x0, x1, -, -⟩ := box2 ((hW.block _ (Array.getElem?_eq_some_iff.1 kU).1).trans kU)
        exact ⟨hW, x0, x1, ((BV.trans (hW.mono BV.size)).cell (p := ⟨b, off + k, none⟩) hbs).trans (by obtain ⟨_, _, h1, _, _, h2⟩ := io9.get k hlt; cases h1; exact h2)⟩
      have hi0 : (k : Int) < own.length := by omega
      refine cut_cap (fun a0 a' w' => ∃ x72 x73 x74 x75 x76 x77 x78 x79 x80 x81, a' = ((((((((((a0.put (some 72) x72).put (some 73) x73).put (some 74) x74).put (some 75) x75).put (some 76) x76).put (some 77) x77).put (some 78) x78).put (some 79) x79).put (some 80) x80).put (some 81) x81).put (some 11) (.bool (noneB bs (own.take (k + 1)))) ∧ Below V.heap.size V w') ?_ ?_
      · refine drawn_two (fun W' => Below V.heap.size V W' ∧ W'.cell? ⟨w10.heap.size, 0, none⟩ = some (.int .i64 u.h) ∧ W'.cell? ⟨w10.heap.size, 1, none⟩ = some (.slice au u.args.length cu) ∧ W'.cell? ⟨b, off + k, none⟩ = some (.int .i64 own[k])) [.take 0, .take 1, .take 2, .take 3, .take 4, .take 5, .take 6, .one 7, .one 8, .take 9, .take 10] (by kernel_rfl) (by kernel_rfl) (by kernel_rfl) (by kernel_rfl) (fun _ _ _ _ _ h => h) (hS _ (Below.refl _ _).drew) ?_
        have HN2 := HNS.out
        cases hnb : noneB bs (own.take k)
        · rw [hnb, Bool.false_and] at HN2
          have HNF := hide HN2
          clear HN2
          iterate 2 (refine p_take (v := ?_) rfl (by rfl) ?_ ?_; rotate_left; (intro w hS; obtain ⟨-, S1, S2, S3⟩ := hS; go_simp; try with_reducible rfl); simp only [Act.put, List.setIfInBounds_toArray, List.set_cons_zero, List.set_cons_succ])
          iterate 5 (refine p_skip rfl (by rfl) ?_; simp only [Act.put, List.setIfInBounds_toArray, List.set_cons_zero, List.set_cons_succ])
          refine p_pass rfl (by rfl) (hS _ (Below.refl _ _).drew) ?_
          simp only [Act.put, List.setIfInBounds_toArray, List.set_cons_zero, List.set_cons_succ]
          refine p_pass rfl (by rfl) (hS _ (Below.refl _ _).drew) ?_
          simp only [Act.put, List.setIfInBounds_toArray, List.set_cons_zero, List.set_cons_succ]
          iterate 2 (refine p_take (v := ?_) rfl (by rfl) ?_ ?_; rotate_left; (intro w hS; obtain ⟨-, S1, S2, S3⟩ := hS; go_simp; try with_reducible rfl); simp only [Act.put, List.setIfInBounds_toArray, List.set_cons_zero, List.set_cons_succ])
          refine p_done ⟨.bool false, .bool false, undef, undef, undef, undef, undef, undef, undef, .bool false, ?_, (Below.refl _ _).drew⟩
          rw [HNF.out]
        · rw [hnb, Bool.true_and] at HN2
          have HNF := hide HN2
          clear HN2
          iterate 7 (refine p_take (v := ?_) rfl (by rfl) ?_ ?_; rotate_left; (intro w hS; obtain ⟨-, S1, S2, S3⟩ := hS; go_simp; try with_reducible rfl); simp only [Act.put, List.setIfInBounds_toArray, List.set_cons_zero, List.set_cons_succ])
          refine p_one rfl (by rfl) ?_
          intro K hK
          go_simp
          refine (var_calls own[k] hv.1 (by omega) _).mono ?_
          rintro e x1 ⟨rfl, h1⟩
          have h1' := more_below (Below.refl V.heap.size V).drew h1
          refine hK.out _ _ (hS _ h1') ?_
          clear hK K h1
          try simp only [Act.put, List.setIfInBounds_toArray, List.set_cons_zero, List.set_cons_succ]
          refine p_one rfl (by rfl) ?_
          intro K hK
          go_simp
          refine (tsame_calls u (.node (-1 - own[k]) []) (fun _ => False) (fun _ => False) _ _ _ _ _ (by have := HUS.out; omega) ⟨rfl, tV.below h1'⟩ ⟨rfl, Terms.nil _ _⟩).mono ?_
          rintro e x2 ⟨rfl, h2⟩
          have h2' := more_below h1' h2
          refine hK.out _ _ (hS _ h2') ?_
          clear hK K h2
          try simp only [Act.put, List.setIfInBounds_toArray, List.set_cons_zero, List.set_cons_succ]
          rw [← HNF.out]
          generalize hnn : noneB bs (own.take (k + 1)) = nn at *
          clear hnn
          iterate 2 (refine p_take (v := ?_) rfl (by rfl) ?_ ?_; rotate_left; (intro w hS; obtain ⟨-, S1, S2, S3⟩ := hS; go_simp; try with_reducible rfl); simp only [Act.put, List.setIfInBounds_toArray, List.set_cons_zero, List.set_cons_succ])
          refine p_done ⟨.bool true, .bool true, .agg #[.int .i64 u.h, .slice au u.args.length cu], .slice (some ⟨b, off, none⟩) own.length co, .int .i64 k, .pointer (some ⟨b, off + k, none⟩), .int .i64 own[k], .agg #[.int .i64 (-1 - own[k]), .slice none 0 0], .bool nn, .bool nn, ?_, h2'⟩
          try simp only [Act.put, List.setIfInBounds_toArray, List.set_cons_zero, List.set_cons_succ]
          try rfl
      rintro _ W2 ⟨x72, x73, x74, x75, x76, x77, x78, x79, x80, x81, rfl, hW2⟩
      simp only [Act.put, List.setIfInBounds_toArray, List.set_cons_zero, List.set_cons_succ]
      go_wp2_with fail
      have B2 := BV.trans (hW2.mono BV.size)
      have O2 := OV.below hW2
      have tu2 := tV.below hW2
      refine (tvars_calls u (fun b => u12.ownBlock = some b) (fun _ => False) _ _ _ (fun b hb => (O2.lt b hb).2) ⟨rfl, tu2⟩ (by have := HUS.out; omega) (good_heads u HUG.out)).mono ?_
      rintro e w11 ⟨vv, rfl, iv, h11⟩
      have B11 := B2.trans (h11.mono B2.size)
      have O11 := O2.below h11
      have hl1 := allT_length bs 500 (by omega) hbm (own.take k)
      have hl2 : (own.take k).length ≤ 400 := by rw [List.length_take]; omega
      have hl3 := Nat.le_trans (varsT_length u) HUS.out
      have hl4 : (allT bs (own.take k)).length + (varsT u).length ≤ 1000000 := by omega
      have hb9 := B11.size
      clear hl1 hl2 hl3 O2 tu2 B2 hW2 OV tV BV kU
      have IV : RepD (fun b => False ∨ u12.ownBlock = some b) w11 (.row 1 ((varsT u).map intD)) [vv] := iv.bar fun b _ h => by
        rcases h with h | h
        · exact h.elim
        · exact h
      have HIV := hide IV
      have HO11 := hide O11
      have HNN := hide HAS.out
      clear IV iv O11
      go_wp2_with (at_builtin; refine app_all_pl rfl (.tmp 82) (.tmp 84) 37 rfl w9.heap.size 3 (.int .i64 0) 1 8 Try.underlying37 (by kernel_rfl) rfl (by decide) (v := u12) (xv := vv) rfl rfl HO11.out HIV.out (fun d hd => by obtain ⟨z, -, rfl⟩ := List.mem_map.1 hd; exact intD_oneD z) (by simp [maxLen]; omega) (by simp; omega) hb9 ?_; intro v' w' o' kp ob hsh)
      go_roundw
      case rel =>
        refine ⟨k + 1, by omega, by go_num, rfl, ?_, B11.trans (kp.below (fun b hb h => by have := (HO11.out.lt b h).1; omega) hb9)⟩
        rw [HNN.out, List.map_append]; exact o'
      case measure => simp [intOf]; omega
    · have hke : k = own.length := by omega
      subst hke
      rw [List.take_length] at hO
      have IA := hO.ints (A := fun _ => False) (fun _ h => h.elim)
      have HNE := hide (show noneB bs (own.take own.length) = noneB bs own by rw [List.take_length])
      have B10 := more_below B9 hB
      have k10 := (hB.block _ (Array.getElem?_eq_some_iff.1 k9).1).trans k9
      have m10 := (hB.block _ (Array.getElem?_eq_some_iff.1 m9).1).trans m9
      have t10 := t9.below hB
      have in10 := inw.below hB
      obtain ⟨aa, ca, rfl, hla, hca⟩ := IA.shape
      generalize hnn : noneB bs (own.take own.length) = nn at *
      generalize hal : allT bs own = al at *
      clear hnn hal hO hB k9 m9 t9 B9 io9 hlt hk
      generalize wr = Wa at *
      have hall : al.length ≤ 9223372036854775807 := by omega
      go_wp2
      go_loopw [15] (fun i w' => ∃ j : Nat, j ≤ al.length ∧ i = .int .i64 j ∧ Below Wa.heap.size Wa w') (fun i _ => al.length - (intOf i).toNat)
      case atStart => exact ⟨0, by omega, rfl, Below.refl _ _⟩
      case round =>
        obtain ⟨j, hj, rfl, hB⟩ := hrel
        by_cases hlt : j < al.length
        · obtain ⟨b, off, rfl, hbs, -, g0⟩ := IA.get j hlt
          have hc1 := (hB.cell (p := ⟨b, off + j, none⟩) hbs).trans g0
          have HIN := hide (hasB_iff.2 ((HALL.out al[j]).1 (List.getElem_mem hlt)))
          clear g0
          go_wp2_with fail
          refine (in_calls al[j] now (fun _ => False) _ _ (in10.below hB)).mono ?_
          rw [HIN.out]
          rintro e x1 ⟨rfl, h1⟩
          have hB1 := hB.trans (h1.mono hB.size)
          clear h1 hc1 hB
          go_wp2
          go_roundw
          case rel => exact ⟨j + 1, by omega, by go_num, hB1⟩
          case measure => simp [intOf]; omega
        · obtain rfl : j = al.length := by omega
          clear hlt hj
          generalize wr = Wb at *
          go_wp2
          go_loopw [16] (fun i w' => ∃ j : Nat, j ≤ now.length ∧ i = .int .i64 j ∧ Below Wa.heap.size Wa w') (fun i _ => now.length - (intOf i).toNat)
          case atStart => exact ⟨0, by omega, rfl, hB⟩
          case round =>
            obtain ⟨j2, hj, rfl, hB2⟩ := hrel
            by_cases hlt : j2 < now.length
            · obtain ⟨b, off, rfl, hbs, -, g0⟩ := in10.get j2 hlt
              have hc1 := (hB2.cell (p := ⟨b, off + j2, none⟩) hbs).trans g0
              have HIN := hide (hasB_iff.2 ((HALL.out now[j2]).2 (List.getElem_mem hlt)))
              clear g0
              go_wp2_with fail
              refine (in_calls now[j2] al (fun _ => False) _ _ (IA.below hB2)).mono ?_
              rw [HIN.out]
              rintro e x1 ⟨rfl, h1⟩
              have hB1 := hB2.trans (h1.mono hB2.size)
              clear h1 hc1 hB2
              go_wp2
              go_roundw
              case rel => exact ⟨j2 + 1, by omega, by go_num, hB1⟩
              case measure => simp [intOf]; omega
            · obtain rfl : j2 = now.length := by omega
              clear hlt hj
              generalize wr = Wc at *
              have kc := (hB2.block _ (Array.getElem?_eq_some_iff.1 k10).1).trans k10
              have mc := (hB2.block _ (Array.getElem?_eq_some_iff.1 m10).1).trans m10
              have tc := t10.below hB2
              have Bc := more_below B10 hB2
              clear hB hB2 k10 m10 t10 B10 IA in10
              go_wp2_with fail
              refine (awake_calls _).mono ?_
              rintro e x1 ⟨rfl, h1⟩
              have Bx := more_below Bc h1
              obtain ⟨-, z0, z1, -, -⟩ := box2 ((h1.block _ (Array.getElem?_eq_some_iff.1 kc).1).trans kc)
              obtain ⟨-, y0, y1, -, -⟩ := box2 ((h1.block _ (Array.getElem?_eq_some_iff.1 mc).1).trans mc)
              have tx := tc.below h1
              clear h1 kc mc tc Bc
              cases hnn : nn
              · have HZ := hide hnn
                clear hnn
                go_wp2
                go_ret
                exact ⟨rfl, Bx⟩
              · have HRT := hide (HNONE.out (HNE.out.symm.trans hnn))
                clear hnn
                go_wp2_with fail
                refine (same_calls ra t (fun _ => False) (fun _ => False) _ _ _ _ _ (by omega) (by omega) ⟨rfl, tx⟩ (hs.below Bx)).mono ?_
                rw [sameB_iff.2 HRT.out]
                rintro e x2 ⟨rfl, h2⟩
                have By := more_below Bx h2
                clear h2 z0 z1 y0 y1
                go_wp2
                go_ret
                exact ⟨rfl, By⟩
end Go.Proofs.Ythplndalbfcbbaa
/- SubstTogether, walked. -/
set_option linter.unusedSimpArgs false
set_option linter.unusedVariables false
namespace Go.Proofs.Ythplndalbfcbbaa
open Go.RowKit

set_option maxHeartbeats 8000000 in
set_option maxRecDepth 100000 in
theorem together_calls (ss us vs : List Bd) (sb ub vb : Value) (w : World) (hr1 : ∀ b, b ∈ ss → -9223372036854775808 ≤ b.v ∧ b.v ≤ 9223372036854775807) (hr2 : ∀ b, b ∈ us → -9223372036854775808 ≤ b.v ∧ b.v ≤ 9223372036854775807)
    (hr3 : ∀ b, b ∈ vs → -9223372036854775808 ≤ b.v ∧ b.v ≤ 9223372036854775807) (hsb : Binds (fun _ => False) w sb ss) (hub : Binds (fun _ => False) w ub us) (hvb : Binds (fun _ => False) w vb vs) :
    Calls Try.prog 9 #[sb, ub, vb] w fun e w' => e = .returned (.bool true) ∧ Below w.heap.size w w' := by
  obtain ⟨a1, d1, rfl, hd1, hd1'⟩ := hsb.shape
  obtain ⟨a2, d2, rfl, hd2, hd2'⟩ := hub.shape
  obtain ⟨a3, d3, rfl, hd3, hd3'⟩ := hvb.shape
  have HR1 := hide hr1
  have HR2 := hide hr2
  have HR3 := hide hr3
  clear hr1 hr2 hr3
  go_enter Try.func9, Try.ntmps9
  go_wp2_with fail
  refine (few3_calls ss (fun _ => False) _ _ hsb).mono ?_
  rintro e w1 ⟨rfl, B1⟩
  cases hf1 : fewBs ss
  · have HF := hide hf1
    clear hf1
    go_wp2
    go_ret
    exact ⟨rfl, B1⟩
  have HM1 := hide (few_sizes hf1)
  have HL1 := hide (few_length hf1)
  clear hf1
  go_wp2_with fail
  refine (few3_calls us (fun _ => False) _ _ (hub.below B1)).mono ?_
  rintro e w2 ⟨rfl, h2⟩
  have B2 := more_below B1 h2
  clear h2 B1
  cases hf2 : fewBs us
  · have HF := hide hf2
    clear hf2
    go_wp2
    go_ret
    exact ⟨rfl, B2⟩
  have HM2 := hide (few_sizes hf2)
  have HL2 := hide (few_length hf2)
  clear hf2
  go_wp2_with fail
  refine (few3_calls vs (fun _ => False) _ _ (hvb.below B2)).mono ?_
  rintro e w3 ⟨rfl, h3⟩
  have B3 := more_below B2 h3
  clear h3 B2
  cases hf3 : fewBs vs
  · have HF := hide hf3
    clear hf3
    go_wp2
    go_ret
    exact ⟨rfl, B3⟩
  have HM3 := hide (few_sizes hf3)
  have HL3 := hide (few_length hf3)
  clear hf3
  have HTH := hide (then_three (s := ss) (u := us) (v := vs))
  have HTS1 := hide (then_small ss us)
  have HTL1 := hide (then_length ss us)
  have HTS2 := hide (then_small us vs)
  have HTL2 := hide (then_length us vs)
  go_wp2_with fail
  have hc1 := subthen_calls ss us 500 (.slice a1 ss.length d1) (.slice a2 us.length d2) w3 HR1.out HR2.out (by omega) (by omega) (by omega) HM1.out HM2.out (by have := HL1.out; omega) (by have := HL2.out; omega) (hsb.below B3) (hub.below B3)
  generalize hRt : thenT ss us = Rt at *
  obtain ⟨bb, ee⟩ := Rt
  refine hc1.mono ?_
  rintro e w4 ⟨vb1, rfl, hbb, h4⟩
  obtain ⟨a4, d4, rfl, -, -⟩ := hbb.shape
  have B4 := more_below B3 h4
  clear hc1 h4 B3
  go_wp2_with fail
  have hc2 := subthen_calls us vs 500 (.slice a2 us.length d2) (.slice a3 vs.length d3) w4 HR2.out HR3.out (by omega) (by omega) (by omega) HM2.out HM3.out (by have := HL2.out; omega) (by have := HL3.out; omega) (hub.below B4) (hvb.below B4)
  generalize hRu : thenT us vs = Ru at *
  obtain ⟨cc, fe⟩ := Ru
  refine hc2.mono ?_
  rintro e w5 ⟨vb2, rfl, hcc, h5⟩
  obtain ⟨a5, d5, rfl, -, -⟩ := hcc.shape
  have B5 := more_below B4 h5
  have hbb5 := hbb.below h5
  clear hc2 h5 B4 hbb
  by_cases hee : ee = 0
  rotate_left
  · have hne : (ee != 0) = true := by simpa using hee
    clear hee HTH HTS1 HTS2 HTL1 HTL2 hRt hRu
    go_wp2_with fail
    refine (awake_calls _).mono ?_
    rintro e x1 ⟨rfl, h1⟩
    go_wp2
    go_ret
    exact ⟨rfl, more_below B5 h1⟩
  subst hee
  by_cases hfe : fe = 0
  rotate_left
  · have hne : (fe != 0) = true := by simpa using hfe
    clear hfe HTH HTS1 HTS2 HTL1 HTL2 hRt hRu
    go_wp2_with fail
    refine (awake_calls _).mono ?_
    rintro e x1 ⟨rfl, h1⟩
    go_wp2
    go_ret
    exact ⟨rfl, more_below B5 h1⟩
  subst hfe
  have HE := hide (show thenT bb vs = thenT ss cc from HTH.out rfl rfl)
  have HSB := hide (show ∀ b, b ∈ bb → b.t.size ≤ 400 ∧ 0 ≤ b.v ∧ b.v ≤ 255 from HTS1.out)
  have HSC := hide (show ∀ b, b ∈ cc → b.t.size ≤ 400 ∧ 0 ≤ b.v ∧ b.v ≤ 255 from HTS2.out)
  have HLB := hide (show bb.length ≤ 256 from HTL1.out)
  have HLC := hide (show cc.length ≤ 256 from HTL2.out)
  clear HTH HTS1 HTS2 HTL1 HTL2 hRt hRu
  have HTS3 := hide (then_small bb vs)
  go_wp2_with fail
  have hc3 := subthen_calls bb vs 500 (.slice a4 bb.length d4) (.slice a3 vs.length d3) w5 (fun b hb => by have := HSB.out b hb; omega) HR3.out (by omega) (by omega) (by omega) (fun b hb => by have := (HSB.out b hb).1; omega) HM3.out (by have := HLB.out; omega) (by have := HL3.out; omega) hbb5 (hvb.below B5)
  refine hc3.mono ?_
  rintro e w6 ⟨vb3, rfl, hxx, h6⟩
  have B6 := more_below B5 h6
  have hcc6 := hcc.below h6
  clear hc3 h6 B5 hbb5 hcc
  obtain ⟨a6, d6, rfl, -, -⟩ := hxx.shape
  have hc4 := subthen_calls ss cc 500 (.slice a1 ss.length d1) (.slice a5 cc.length d5) w6 HR1.out (fun b hb => by have := HSC.out b hb; omega) (by omega) (by omega) (by omega) HM1.out (fun b hb => by have := (HSC.out b hb).1; omega) (by have := HL1.out; omega) (by have := HLC.out; omega) (hsb.below B6) hcc6
  rw [← HE.out] at hc4
  generalize hRx : thenT bb vs = Rx at *
  obtain ⟨xx, xe⟩ := Rx
  have HSX := hide (fun b hb => Nat.le_trans ((HTS3.out b hb).1) (by omega : 400 ≤ 1000000000))
  clear HTS3 HE hRx
  go_wp2_with fail
  refine hc4.mono ?_
  rintro e w7 ⟨vb4, rfl, hyy, h7⟩
  obtain ⟨a7, d7, rfl, -, -⟩ := hyy.shape
  have B7 := more_below B6 h7
  have hxx7 := hxx.below h7
  clear hc4 h7 B6 hxx hcc6
  go_wp2_with fail
  refine (awake_calls _).mono ?_
  rintro e x1 ⟨rfl, h1⟩
  have B8 := more_below B7 h1
  have hxx8 := hxx7.below h1
  have hyy8 := hyy.below h1
  clear h1 B7 hxx7 hyy
  go_wp2_with fail
  refine (same3_calls xx (fun _ => False) (fun _ => False) _ _ _ HSX.out hxx8 hyy8).mono ?_
  rintro e x2 ⟨rfl, h2⟩
  have B9 := more_below B8 h2
  go_wp2
  go_ret
  exact ⟨rfl, B9⟩
end Go.Proofs.Ythplndalbfcbbaa
