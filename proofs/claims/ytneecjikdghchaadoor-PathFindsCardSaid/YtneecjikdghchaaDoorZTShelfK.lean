/- maps.Keys and slices.Sorted at a map of numbers, over this program: laid by the shelf (its numbers are those of this seat). -/
import Derived.Shelf.SlGeneric
import Derived.Shelf.SlIterI.Nil
import Derived.Ground.GgzProg
import Derived.Test.YtneecjikdghchaaDoorProg
namespace Go.Proofs
open Go.Shelf
def Tryd.keysA_ren : Go.Shelf.Ren := ⟨fun | 7 => 54 | 10 => 68 | n => n, fun | 23 => 91 | 26 => 3 | 3 => 24 | 28 => 95 | 0 => 0 | 27 => 94 | 33 => 111 | 4 => 4 | n => n, fun | n => n⟩
theorem Tryd.keysA : Go.Proofs.SlLaysZI.n7 Tryd.prog Tryd.keysA_ren := {
  mixed := by kernel_rfl
  f7 := ⟨Tryd.f54.name, by decide, Tryd.func54.trans (congrArg some (by kernel_rfl))⟩
  f10 := ⟨Tryd.f68.name, by decide, Tryd.func68.trans (congrArg some (by kernel_rfl))⟩
  t0 := Tryd.underlying0
  a0 := Tryd.isAgg0
  z0 := Tryd.sizeOf0
  v0 := Tryd.zeroValue0
  t4 := Tryd.underlying4
  a4 := Tryd.isAgg4
  z4 := Tryd.sizeOf4
  v4 := Tryd.zeroValue4
  t23 := Tryd.underlying91
  a23 := Tryd.isAgg91
  z23 := Tryd.sizeOf91
  v23 := Tryd.zeroValue91
  t26 := Tryd.underlying3
  a26 := Tryd.isAgg3
  z26 := Tryd.sizeOf3
  v26 := Tryd.zeroValue3
  t27 := Tryd.underlying94
  a27 := Tryd.isAgg94
  z27 := Tryd.sizeOf94
  v27 := Tryd.zeroValue94
  t28 := Tryd.underlying95
  a28 := Tryd.isAgg95
  z28 := Tryd.sizeOf95
  v28 := Tryd.zeroValue95
  t33 := Tryd.underlying111
  a33 := Tryd.isAgg111
  z33 := Tryd.sizeOf111
  v33 := Tryd.zeroValue111 }
def Tryd.sortedA_ren : Go.Shelf.Ren := ⟨fun | 6 => 53 | 8 => 67 | 9 => 50 | 11 => 90 | 13 => 63 | 12 => 62 | 23 => 88 | 24 => 89 | 14 => 79 | 15 => 80 | 16 => 81 | 17 => 82 | 18 => 83 | 19 => 84 | 20 => 85 | 21 => 86 | 22 => 87 | 25 => 98 | 26 => 99 | 27 => 100 | 28 => 101 | 29 => 102 | 30 => 103 | 31 => 111 | n => n, fun | 26 => 3 | 28 => 95 | 24 => 34 | 0 => 0 | 3 => 3 | 37 => 108 | 48 => 134 | 50 => 136 | 4 => 4 | 40 => 126 | 39 => 125 | 45 => 131 | 5 => 5 | 9 => 9 | 51 => 145 | 55 => 149 | 57 => 158 | 58 => 159 | 33 => 111 | n => n, fun | n => n⟩
theorem Tryd.sortedA : Go.Proofs.SlLaysZI.n6 Tryd.prog Tryd.sortedA_ren := {
  mixed := by kernel_rfl
  f6 := ⟨Tryd.f53.name, by decide, Tryd.func53.trans (congrArg some (by kernel_rfl))⟩
  f8 := ⟨Tryd.f67.name, by decide, Tryd.func67.trans (congrArg some (by kernel_rfl))⟩
  f11 := ⟨Tryd.f90.name, by decide, Tryd.func90.trans (congrArg some (by kernel_rfl))⟩
  t0 := Tryd.underlying0
  a0 := Tryd.isAgg0
  z0 := Tryd.sizeOf0
  v0 := Tryd.zeroValue0
  t24 := Tryd.underlying34
  a24 := Tryd.isAgg34
  z24 := Tryd.sizeOf34
  v24 := Tryd.zeroValue34
  t26 := Tryd.underlying3
  a26 := Tryd.isAgg3
  z26 := Tryd.sizeOf3
  v26 := Tryd.zeroValue3
  t28 := Tryd.underlying95
  a28 := Tryd.isAgg95
  z28 := Tryd.sizeOf95
  v28 := Tryd.zeroValue95
  i26 := by kernel_rfl }
end Go.Proofs
