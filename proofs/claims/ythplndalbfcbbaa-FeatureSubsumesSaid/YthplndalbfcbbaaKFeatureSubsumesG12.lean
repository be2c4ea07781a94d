/- What the proof of the law rests on: contracts of the functions, plain laws, and words. -/
import Derived.Shelf.SlIterI.Nil
import Derived.Shelf.SlGeneric
import Derived.Ground.GgzProg
import Derived.Test.YthplndalbfcbbaaProg
import Derived.Lib.SlKeysI
import Derived.Maps.Range
import Derived.Test.YthplndalbfcbbaaKFeatureSubsumesG1
import Derived.Test.YthplndalbfcbbaaKFeatureSubsumesG0
import Derived.Test.YthplndalbfcbbaaKFeatureSubsumesG2
import Derived.Test.YthplndalbfcbbaaKFeatureSubsumesG5
import Derived.Test.YthplndalbfcbbaaKFeatureSubsumesG6
set_option linter.unusedSimpArgs false
set_option linter.unusedVariables false
namespace Go.Proofs.Ythplndalbfcbbaa
open Go.RowKit
theorem box1 {w : World} {b : Nat} {x : Value} {t : TypeId} (h : w.heap[b]? = some (.cells #[x] t (0, 0))) : b < w.heap.size ∧ w.cell? ⟨b, 0, none⟩ = some x ∧ w.frozen? ⟨b, 0, none⟩ = false :=
  ⟨(Array.getElem?_eq_some_iff.1 h).1, by simp [World.cell?, h], by simp [World.frozen?, h]⟩
section
variable {mb pb : Nat} {ns : List Int} {A : Nat → Prop} {w W W' : World} {bo base e : Nat} {bt : TypeId} {h : Int} {v : Value} {ds : List D}
end
end Go.Proofs.Ythplndalbfcbbaa
