/- What the proof of the law rests on: contracts of the functions, plain laws, and words. -/
import Derived.OrdersHeld
import Derived.RegionTactic
import Derived.Deep.AppendLies
import Derived.Deep.LoopGhost
import Derived.WalkSmall
import Derived.Shelf.SlIterI.Nil
import Derived.Shelf.SlGeneric
import Derived.Ground.GgzProg
import Derived.Test.YthplndalbfcbbaaProg
import Derived.Lib.SlKeysI
import Derived.Maps.Range
import Derived.Test.YthplndalbfcbbaaKFeatureNilG1
import Derived.Test.YthplndalbfcbbaaKFeatureNilG0
import Derived.Test.YthplndalbfcbbaaKFeatureNilG2
import Derived.Test.YthplndalbfcbbaaKFeatureNilG4
import Derived.Test.YthplndalbfcbbaaKFeatureNilG5
import Derived.Test.YthplndalbfcbbaaKFeatureNilG3
import Derived.Test.YthplndalbfcbbaaKFeatureNilG6
set_option linter.unusedSimpArgs false
set_option linter.unusedVariables false
namespace Go.Proofs.Ythplndalbfcbbaa
open Go.RowKit
theorem box1 {w : World} {b : Nat} {x : Value} {t : TypeId} (h : w.heap[b]? = some (.cells #[x] t (0, 0))) : b < w.heap.size ∧ w.cell? ⟨b, 0, none⟩ = some x ∧ w.frozen? ⟨b, 0, none⟩ = false :=
  ⟨(Array.getElem?_eq_some_iff.1 h).1, by simp [World.cell?, h], by simp [World.frozen?, h]⟩
section
variable {mb pb : Nat} {ns : List Int} {A : Nat → Prop} {w W W' : World} {bo base e : Nat} {bt : TypeId} {h : Int} {v : Value} {ds : List D}
end
end Go.Proofs.Ythplndalbfcbbaa
