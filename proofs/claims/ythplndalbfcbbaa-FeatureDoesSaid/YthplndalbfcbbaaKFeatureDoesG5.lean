/- What the proof of the law rests on: contracts of the functions, plain laws, and words. -/
import Derived.Shelf.Sort.Plain
import Derived.Ground.Names2Prog
import Derived.Shelf.Slices.CompactI
import Derived.Shelf.Slices.In.SortNone
import Derived.Test.YthplndalbfcbbaaProg
import Derived.Lib.SlKeysI
import Derived.Maps.Range
import Derived.Test.YthplndalbfcbbaaKFeatureDoesG4
import Derived.Test.YthplndalbfcbbaaKFeatureDoesG0
set_option linter.unusedSimpArgs false
set_option linter.unusedVariables false
namespace Go.Proofs.Ythplndalbfcbbaa
open Go.RowKit
def upto (k : Nat) : List Int := (List.range k).map fun (n : Nat) => (n : Int)
end Go.Proofs.Ythplndalbfcbbaa
namespace Go.Proofs
open Go.Shelf
def Try.lays189_ren : Go.Shelf.Ren := ⟨fun | 189 => 104 | 125 => 148 | 257 => 147 | 128 => 180 | 129 => 181 | 294 => 171 | 295 => 172 | 296 => 173 | 297 => 174 | 298 => 175 | 299 => 176 | 216 => 177 | 300 => 178 | 301 => 179 | 328 => 195 | 329 => 196 | 330 => 197 | 331 => 198 | 332 => 199 | 215 => 200 | 343 => 209 | n => n, fun | 28 => 37 | 3 => 3 | 46 => 181 | 0 => 0 | 51 => 211 | 53 => 213 | 4 => 4 | 183 => 204 | 182 => 203 | 131 => 122 | 5 => 5 | 9 => 9 | 218 => 228 | 222 => 232 | 228 => 241 | 229 => 242 | n => n, fun | n => n⟩
theorem Try.lays189 : Go.Proofs.Lays.n189 Try.prog Try.lays189_ren := {
  mixed := by kernel_rfl
  f125 := Try.func148.trans (congrArg some (by kernel_rfl))
  f128 := Try.func180.trans (congrArg some (by kernel_rfl))
  f129 := Try.func181.trans (congrArg some (by kernel_rfl))
  f189 := Try.func104.trans (congrArg some (by kernel_rfl))
  f215 := Try.func200.trans (congrArg some (by kernel_rfl))
  f216 := Try.func177.trans (congrArg some (by kernel_rfl))
  f257 := Try.func147.trans (congrArg some (by kernel_rfl))
  f294 := Try.func171.trans (congrArg some (by kernel_rfl))
  f295 := Try.func172.trans (congrArg some (by kernel_rfl))
  f296 := Try.func173.trans (congrArg some (by kernel_rfl))
  f297 := Try.func174.trans (congrArg some (by kernel_rfl))
  f298 := Try.func175.trans (congrArg some (by kernel_rfl))
  f299 := Try.func176.trans (congrArg some (by kernel_rfl))
  f300 := Try.func178.trans (congrArg some (by kernel_rfl))
  f301 := Try.func179.trans (congrArg some (by kernel_rfl))
  f328 := Try.func195.trans (congrArg some (by kernel_rfl))
  f329 := Try.func196.trans (congrArg some (by kernel_rfl))
  f330 := Try.func197.trans (congrArg some (by kernel_rfl))
  f331 := Try.func198.trans (congrArg some (by kernel_rfl))
  f332 := Try.func199.trans (congrArg some (by kernel_rfl))
  f343 := Try.func209.trans (congrArg some (by kernel_rfl))
  t0 := Try.underlying0
  a0 := Try.isAgg0
  z0 := Try.sizeOf0
  v0 := Try.zeroValue0
  t3 := Try.underlying3
  a3 := Try.isAgg3
  z3 := Try.sizeOf3
  v3 := Try.zeroValue3
  t4 := Try.underlying4
  a4 := Try.isAgg4
  z4 := Try.sizeOf4
  v4 := Try.zeroValue4
  t5 := Try.underlying5
  a5 := Try.isAgg5
  z5 := Try.sizeOf5
  v5 := Try.zeroValue5
  t9 := Try.underlying9
  a9 := Try.isAgg9
  z9 := Try.sizeOf9
  v9 := Try.zeroValue9
  t28 := Try.underlying37
  a28 := Try.isAgg37
  z28 := Try.sizeOf37
  v28 := Try.zeroValue37
  t46 := Try.underlying181
  a46 := Try.isAgg181
  z46 := Try.sizeOf181
  v46 := Try.zeroValue181
  t51 := Try.underlying211
  a51 := Try.isAgg211
  z51 := Try.sizeOf211
  v51 := Try.zeroValue211
  t53 := Try.underlying213
  a53 := Try.isAgg213
  z53 := Try.sizeOf213
  v53 := Try.zeroValue213
  t131 := Try.underlying122
  a131 := Try.isAgg122
  z131 := Try.sizeOf122
  v131 := Try.zeroValue122
  t182 := Try.underlying203
  a182 := Try.isAgg203
  z182 := Try.sizeOf203
  v182 := Try.zeroValue203
  t183 := Try.underlying204
  a183 := Try.isAgg204
  z183 := Try.sizeOf204
  v183 := Try.zeroValue204
  t218 := Try.underlying228
  a218 := Try.isAgg228
  z218 := Try.sizeOf228
  v218 := Try.zeroValue228
  t222 := Try.underlying232
  a222 := Try.isAgg232
  z222 := Try.sizeOf232
  v222 := Try.zeroValue232
  t228 := Try.underlying241
  a228 := Try.isAgg241
  z228 := Try.sizeOf241
  v228 := Try.zeroValue241
  t229 := Try.underlying242
  a229 := Try.isAgg242
  z229 := Try.sizeOf242
  v229 := Try.zeroValue242 }
open Go.Sort Go.RowKit in
theorem Try.slices_Sort_int (blk off cap : Nat) (zs : List Int) (w : World) (hH : Holds (Value.int .i64) w blk off zs.toArray) (hblk : blk < w.heap.size) (hsz : zs.length < 4611686018427387904) :
    Calls Try.prog 104 #[.slice (some ⟨blk, off, none⟩) zs.length cap] w fun e w' =>
      e = .returned (.tuple #[]) ∧ ∃ n os, w' = grow (putRow (Value.int .i64) (Sort.ahead w n) blk off (zs.mergeSort fun x y => decide (x ≤ y)).toArray) os := Any.slices_Sort_int Try.lays189 blk off cap zs w hH hblk hsz
open Go.RowKit Go.Sort in
theorem Try.slices_Sort_int_none (p : Option Addr) (cap : Nat) (w : World) :
    Calls Try.prog 104 #[.slice p 0 cap] w fun e w' => e = .returned (.tuple #[]) ∧ w' = w := Any.slices_Sort_int_none Try.lays189 p cap w
end Go.Proofs
set_option linter.unusedSimpArgs false
set_option linter.unusedVariables false
namespace Go.Proofs.Ythplndalbfcbbaa
open Go.RowKit Go.MapKept Go.WideShapes Go.ChangeMaps Go.WideElems
theorem pigeon : ∀ (n : Nat) (l : List Int), l.Nodup → (∀ x, x ∈ l → 0 ≤ x ∧ x < n) → l.length ≤ n
  | 0, l, _, h => by
    cases l with
    | nil => simp
    | cons x l => have := h x (by simp); omega
  | n + 1, l, hn, h => by
    have h1 := pigeon n (l.erase (n : Int)) (hn.erase _) fun x hx => by
      have h2 := (hn.mem_erase_iff).1 hx
      have h3 := h x h2.2
      have := h2.1
      omega
    rw [List.length_erase] at h1
    split at h1 <;> omega
end Go.Proofs.Ythplndalbfcbbaa
