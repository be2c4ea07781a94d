/- What the proof of the law rests on: contracts of the functions, plain laws, and words. -/
import Derived.Test.YthplndalbfcbbaaKFeatureSubsumesG0
import Derived.Test.YthplndalbfcbbaaKFeatureSubsumesG1
import Derived.Test.YthplndalbfcbbaaKFeatureSubsumesG2
set_option linter.unusedVariables false
set_option linter.unusedSimpArgs false
namespace Go.Proofs.Ythplndalbfcbbaa
open Go.RowKit Go.Shelf
attribute [local go_sem] Oper.semAt_some
section
variable {F : Fence} {nF : Nat} {P : Program} {W : World} {ops : Array Oper} {rest : List Oper} {o : Oper} {a : Act} {Q : Exit → Act → World → Prop} {k e : TypeId}
theorem look_pl (hg : o.guard = none) (m x : Operand) (t : TypeId) (hop : o.op = .lookup t m x true) (hk : P.underlying k = some (.int .i64)) (ht : P.underlying t = some (.map k e)) {z : Value} (hz : (zeroValue e).run P W = .ok z W)
    (b : Nat) (f : Int → Option Value) (hm : a.eval m = .map (some b)) (h : MapAt W b f) (y : Int) (hx : a.eval x = .int .i64 y) (h0 : -9223372036854775808 ≤ y) (h1 : y ≤ 9223372036854775807)
    (hK : wpList P ops Q rest (a.put o.dst (.tuple #[(f y).getD z, .bool (f y).isSome])) W) : wpList P ops Q (o :: rest) a W := by
  refine wpList_plain hg fun K' hK' => ?_
  have hrun := h.look hk ht hz h0 h1
  unfold Oper.wp
  simp [execOp, hop, hm, hx, hrun, Result.andThen]
  exact hK' _ _ hK
end
theorem zeroTerm (W : World) : (zeroValue 25).run Try.prog W = .ok (.agg #[.int .i64 0, .slice none 0 0]) W := by kernel_rfl
end Go.Proofs.Ythplndalbfcbbaa
set_option linter.unusedVariables false
set_option linter.unusedSimpArgs false
namespace Go.Proofs.Ythplndalbfcbbaa
open Go.RowKit Go.Shelf
attribute [local go_sem] Oper.semAt_some
end Go.Proofs.Ythplndalbfcbbaa
set_option linter.unusedSimpArgs false
set_option linter.unusedVariables false
namespace Go.Proofs.Ythplndalbfcbbaa
open Go.RowKit
theorem box3 {w : World} {b : Nat} {x y z : Value} {t : TypeId} (h : w.heap[b]? = some (.cells #[x, y, z] t (0, 0))) :
    b < w.heap.size ∧ w.cell? ⟨b, 0, none⟩ = some x ∧ w.cell? ⟨b, 1, none⟩ = some y ∧ w.cell? ⟨b, 2, none⟩ = some z :=
  ⟨(Array.getElem?_eq_some_iff.1 h).1, by simp [World.cell?, h], by simp [World.cell?, h], by simp [World.cell?, h]⟩
end Go.Proofs.Ythplndalbfcbbaa
