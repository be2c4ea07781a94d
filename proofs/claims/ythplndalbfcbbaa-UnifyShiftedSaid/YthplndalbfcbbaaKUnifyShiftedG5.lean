/- What the proof of the law rests on: contracts of the functions, plain laws, and words. -/
import Derived.Deep.LoopGhost
import Derived.WalkSmall
import Derived.Shelf.Sort.Plain
import Derived.Ground.Names2Prog
import Derived.Shelf.Slices.CompactI
import Derived.Shelf.Slices.In.SortNone
import Derived.Test.YthplndalbfcbbaaProg
import Derived.Shelf.SlGeneric
import Derived.Shelf.SlIterI.Nil
import Derived.Ground.GgzProg
import Derived.Lib.SlKeysI
import Derived.Maps.Range
import Derived.Test.YthplndalbfcbbaaKUnifyShiftedG4
import Derived.Test.YthplndalbfcbbaaKUnifyShiftedG3
import Derived.Test.YthplndalbfcbbaaKUnifyShiftedG0
set_option linter.unusedSimpArgs false
set_option linter.unusedVariables false
namespace Go.Proofs.Ythplndalbfcbbaa
open Go.RowKit
def bothT (s u : List Bd) (v : Int) : Tm := putT u (ofBs v s)
theorem chk_var {v : Int} (h0 : 0 ≤ v) (h1 : v ≤ 255) : chk (.node (-1 - v) []) = 0 := by
  have := node_var_good h0 h1
  simp [chk, Tm.size, Tm.sizes, Tm.depth, Tm.depths, this]
def thenE (s u : List Bd) : List Int → Int
  | [] => 0
  | v :: vs => if chk (bothT s u v) = 0 then thenE s u vs else chk (bothT s u v)
def upto (k : Nat) : List Int := (List.range k).map fun (n : Nat) => (n : Int)
theorem mem_upto {k : Nat} {v : Int} : v ∈ upto k ↔ 0 ≤ v ∧ v < k := by
  simp only [upto, List.mem_map, List.mem_range]
  constructor
  · rintro ⟨n, h, rfl⟩; omega
  · rintro ⟨h1, h2⟩; exact ⟨v.toNat, by omega, by omega⟩
theorem upto_sorted (k : Nat) : (upto k).Pairwise (· < ·) := by
  simp only [upto, List.pairwise_map]
  exact List.pairwise_lt_range.imp fun h => by omega
theorem sorted_ext : ∀ (a b : List Int), a.Pairwise (· < ·) → b.Pairwise (· < ·) → (∀ v, v ∈ a ↔ v ∈ b) → a = b
  | [], b, _, _, h => by
    cases b with
    | nil => rfl
    | cons y b => exact absurd ((h y).2 (by simp)) (by simp)
  | x :: a, [], _, _, h => absurd ((h x).1 (by simp)) (by simp)
  | x :: a, y :: b, ha, hb, h => by
    rw [List.pairwise_cons] at ha hb
    have hxy : x = y := by
      have h1 := (h x).1 (by simp)
      have h2 := (h y).2 (by simp)
      rcases List.mem_cons.1 h1 with h1 | h1
      · exact h1
      · rcases List.mem_cons.1 h2 with h2 | h2
        · exact h2.symm
        · have := ha.1 y h2; have := hb.1 x h1; omega
    subst hxy
    rw [sorted_ext a b ha.2 hb.2 fun v => ?_]
    constructor
    · intro hv
      rcases List.mem_cons.1 ((h v).1 (by simp [hv])) with rfl | h'
      · exact absurd (ha.1 v hv) (by omega)
      · exact h'
    · intro hv
      rcases List.mem_cons.1 ((h v).2 (by simp [hv])) with rfl | h'
      · exact absurd (hb.1 v hv) (by omega)
      · exact h'
def firstE : List Bd → Int
  | [] => 0
  | b :: bs => if chk b.t = 0 then firstE bs else chk b.t
theorem firstE_map (s u : List Bd) : ∀ vs : List Int, firstE (vs.map fun v => ⟨v, bothT s u v⟩) = thenE s u vs
  | [] => rfl
  | v :: vs => by simp only [List.map_cons, firstE, thenE, firstE_map s u vs]
theorem okBs_map (f : Int → Tm) : ∀ (vs : List Int) (x : Int), (x :: vs).Pairwise (· < ·) → (∀ v, v ∈ vs → v ≤ 255 ∧ rightB (f v) = true ∧ (f v).h ≠ -1 - v) → okBs x (vs.map fun v => ⟨v, f v⟩) = true
  | [], _, _, _ => rfl
  | v :: vs, x, hp, h => by
    rw [List.pairwise_cons] at hp
    obtain ⟨h1, h2, h3⟩ := h v (by simp)
    have hx := hp.1 v (by simp)
    simp only [List.map_cons, okBs, Bool.and_eq_true, decide_eq_true_eq, bne_iff_ne, ne_eq]
    exact ⟨⟨⟨⟨hx, h1⟩, h2⟩, h3⟩, okBs_map f vs v hp.2 fun y hy => h y (by simp [hy])⟩
theorem ofBs_map (f : Int → Tm) (v : Int) : ∀ vs : List Int, ofBs v (vs.map fun v => ⟨v, f v⟩) = if v ∈ vs then f v else .node (-1 - v) []
  | [] => by simp [ofBs]
  | x :: vs => by
    simp only [List.map_cons, ofBs, ofBs_map f v vs, List.mem_cons]
    by_cases h : x = v
    · subst h; simp
    · simp [h, Ne.symm h]
end Go.Proofs.Ythplndalbfcbbaa
set_option linter.unusedSimpArgs false
set_option linter.unusedVariables false
namespace Go.Proofs.Ythplndalbfcbbaa
open Go.RowKit
abbrev Env := Int → Option Tm
def upd (f : Env) (v : Int) (t : Tm) : Env := fun x => if x = v then some t else f x
def noE : Env := fun _ => none
end Go.Proofs.Ythplndalbfcbbaa
set_option linter.unusedSimpArgs false
set_option linter.unusedVariables false
namespace Go.Proofs.Ythplndalbfcbbaa
open Go.RowKit
theorem goods_of_right : ∀ {l : List Tm}, l.all rightB = true → Tm.goods l = true
  | [], _ => rfl
  | t :: l, h => by
    simp only [List.all_cons, Bool.and_eq_true] at h
    simp only [Tm.goods, chk_good h.1, goods_of_right h.2, Bool.and_self]
end Go.Proofs.Ythplndalbfcbbaa
set_option linter.unusedSimpArgs false
set_option linter.unusedVariables false
namespace Go.Proofs.Ythplndalbfcbbaa
open Go.RowKit
def MapEnv (A : Nat → Prop) (W : World) (b : Nat) (g : Env) : Prop :=
  ∃ f, MapAt W b f ∧ ∀ x : Int, (g x = none → f x = none) ∧ ∀ t, g x = some t → ∃ s, f x = some (.agg #[.int .i64 t.h, s]) ∧ Terms A W s t.args
theorem MapEnv.keep {A S : Nat → Prop} {W W' : World} {b : Nat} {g : Env} (h : MapEnv A W b g) (hk : Keep S W W') (hb : S b) (hS : ∀ c, c < W.heap.size → ¬ A c → S c) : MapEnv A W' b g := by
  obtain ⟨f, h1, h2⟩ := h
  exact ⟨f, h1.keep hk hb, fun x => ⟨(h2 x).1, fun t ht => by obtain ⟨s, h3, h4⟩ := (h2 x).2 t ht; exact ⟨s, h3, h4.keep hk hS⟩⟩⟩
theorem MapEnv.below {A : Nat → Prop} {W W' : World} {b : Nat} {g : Env} (h : MapEnv A W b g) (hB : Below W.heap.size W W') : MapEnv A W' b g := h.keep (S := fun _ => True) (.of_below hB) trivial (fun _ _ _ => trivial)
theorem MapEnv.made (A : Nat → Prop) (W : World) : MapEnv A (W.alloc (.map #[] 0)) W.heap.size noE := ⟨_, MapAt.made W, fun x => ⟨fun _ => rfl, fun t ht => by cases ht⟩⟩
section
variable {P : Program} {W : World} {ops : Array Oper} {rest : List Oper} {o : Oper} {a : Act} {Q : Exit → Act → World → Prop} {k e : TypeId}
theorem store_pl (hg : o.guard = none) (m x v : Operand) (t : TypeId) (hop : o.op = .mapUpdate t m x v) (hk : P.underlying k = some (.int .i64)) (ht : P.underlying t = some (.map k e))
    (b : Nat) (f : Int → Option Value) (hm : a.eval m = .map (some b)) (h : MapAt W b f) (y : Int) (hx : a.eval x = .int .i64 y) (h0 : -9223372036854775808 ≤ y) (h1 : y ≤ 9223372036854775807) (u : Value) (hv : a.eval v = u)
    (hK : ∀ W', MapAt W' b (fun z => if z = y then some u else f z) → Keep (fun c => c ≠ b) W W' → wpList P ops Q rest (a.put o.dst undef) W') : wpList P ops Q (o :: rest) a W := by
  refine wpList_plain hg fun K' hK' => ?_
  obtain ⟨w', hrun, r1, r2⟩ := h.store hk ht h0 h1 u
  unfold Oper.wp
  simp [execOp, hop, hm, hx, hv, hrun, Result.andThen]
  exact hK' _ _ (hK w' r1 r2)
end
end Go.Proofs.Ythplndalbfcbbaa
namespace Go.Proofs
open Go.Shelf
def Try.lays189_ren : Go.Shelf.Ren := ⟨fun | 189 => 104 | 125 => 148 | 257 => 147 | 128 => 180 | 129 => 181 | 294 => 171 | 295 => 172 | 296 => 173 | 297 => 174 | 298 => 175 | 299 => 176 | 216 => 177 | 300 => 178 | 301 => 179 | 328 => 195 | 329 => 196 | 330 => 197 | 331 => 198 | 332 => 199 | 215 => 200 | 343 => 209 | n => n, fun | 28 => 37 | 3 => 3 | 46 => 181 | 0 => 0 | 51 => 211 | 53 => 213 | 4 => 4 | 183 => 204 | 182 => 203 | 131 => 122 | 5 => 5 | 9 => 9 | 218 => 228 | 222 => 232 | 228 => 241 | 229 => 242 | n => n, fun | n => n⟩
theorem Try.lays189 : Go.Proofs.Lays.n189 Try.prog Try.lays189_ren := {
  mixed := by kernel_rfl
  f125 := Try.func148.trans (congrArg some (by kernel_rfl))
  f128 := Try.func180.trans (congrArg some (by kernel_rfl))
  f129 := Try.func181.trans (congrArg some (by kernel_rfl))
  f189 := Try.func104.trans (congrArg some (by kernel_rfl))
  f215 := Try.func200.trans (congrArg some (by kernel_rfl))
  f216 := Try.func177.trans (congrArg some (by kernel_rfl))
  f257 := Try.func147.trans (congrArg some (by kernel_rfl))
  f294 := Try.func171.trans (congrArg some (by kernel_rfl))
  f295 := Try.func172.trans (congrArg some (by kernel_rfl))
  f296 := Try.func173.trans (congrArg some (by kernel_rfl))
  f297 := Try.func174.trans (congrArg some (by kernel_rfl))
  f298 := Try.func175.trans (congrArg some (by kernel_rfl))
  f299 := Try.func176.trans (congrArg some (by kernel_rfl))
  f300 := Try.func178.trans (congrArg some (by kernel_rfl))
  f301 := Try.func179.trans (congrArg some (by kernel_rfl))
  f328 := Try.func195.trans (congrArg some (by kernel_rfl))
  f329 := Try.func196.trans (congrArg some (by kernel_rfl))
  f330 := Try.func197.trans (congrArg some (by kernel_rfl))
  f331 := Try.func198.trans (congrArg some (by kernel_rfl))
  f332 := Try.func199.trans (congrArg some (by kernel_rfl))
  f343 := Try.func209.trans (congrArg some (by kernel_rfl))
  t0 := Try.underlying0
  a0 := Try.isAgg0
  z0 := Try.sizeOf0
  v0 := Try.zeroValue0
  t3 := Try.underlying3
  a3 := Try.isAgg3
  z3 := Try.sizeOf3
  v3 := Try.zeroValue3
  t4 := Try.underlying4
  a4 := Try.isAgg4
  z4 := Try.sizeOf4
  v4 := Try.zeroValue4
  t5 := Try.underlying5
  a5 := Try.isAgg5
  z5 := Try.sizeOf5
  v5 := Try.zeroValue5
  t9 := Try.underlying9
  a9 := Try.isAgg9
  z9 := Try.sizeOf9
  v9 := Try.zeroValue9
  t28 := Try.underlying37
  a28 := Try.isAgg37
  z28 := Try.sizeOf37
  v28 := Try.zeroValue37
  t46 := Try.underlying181
  a46 := Try.isAgg181
  z46 := Try.sizeOf181
  v46 := Try.zeroValue181
  t51 := Try.underlying211
  a51 := Try.isAgg211
  z51 := Try.sizeOf211
  v51 := Try.zeroValue211
  t53 := Try.underlying213
  a53 := Try.isAgg213
  z53 := Try.sizeOf213
  v53 := Try.zeroValue213
  t131 := Try.underlying122
  a131 := Try.isAgg122
  z131 := Try.sizeOf122
  v131 := Try.zeroValue122
  t182 := Try.underlying203
  a182 := Try.isAgg203
  z182 := Try.sizeOf203
  v182 := Try.zeroValue203
  t183 := Try.underlying204
  a183 := Try.isAgg204
  z183 := Try.sizeOf204
  v183 := Try.zeroValue204
  t218 := Try.underlying228
  a218 := Try.isAgg228
  z218 := Try.sizeOf228
  v218 := Try.zeroValue228
  t222 := Try.underlying232
  a222 := Try.isAgg232
  z222 := Try.sizeOf232
  v222 := Try.zeroValue232
  t228 := Try.underlying241
  a228 := Try.isAgg241
  z228 := Try.sizeOf241
  v228 := Try.zeroValue241
  t229 := Try.underlying242
  a229 := Try.isAgg242
  z229 := Try.sizeOf242
  v229 := Try.zeroValue242 }
open Go.Sort Go.RowKit in
theorem Try.slices_Sort_int (blk off cap : Nat) (zs : List Int) (w : World) (hH : Holds (Value.int .i64) w blk off zs.toArray) (hblk : blk < w.heap.size) (hsz : zs.length < 4611686018427387904) :
    Calls Try.prog 104 #[.slice (some ⟨blk, off, none⟩) zs.length cap] w fun e w' =>
      e = .returned (.tuple #[]) ∧ ∃ n os, w' = grow (putRow (Value.int .i64) (Sort.ahead w n) blk off (zs.mergeSort fun x y => decide (x ≤ y)).toArray) os := Any.slices_Sort_int Try.lays189 blk off cap zs w hH hblk hsz
open Go.RowKit Go.Sort in
theorem Try.slices_Sort_int_none (p : Option Addr) (cap : Nat) (w : World) :
    Calls Try.prog 104 #[.slice p 0 cap] w fun e w' => e = .returned (.tuple #[]) ∧ w' = w := Any.slices_Sort_int_none Try.lays189 p cap w
end Go.Proofs
namespace Go.Proofs
open Go.Shelf
def Try.keysA_ren : Go.Shelf.Ren := ⟨fun | 7 => 99 | 10 => 144 | n => n, fun | 23 => 97 | 26 => 3 | 3 => 25 | 28 => 112 | 0 => 0 | 27 => 111 | 33 => 175 | 4 => 4 | n => n, fun | n => n⟩
theorem Try.keysA : Go.Proofs.SlLaysZI.n7 Try.prog Try.keysA_ren := {
  mixed := by kernel_rfl
  f7 := ⟨Try.f99.name, by decide, Try.func99.trans (congrArg some (by kernel_rfl))⟩
  f10 := ⟨Try.f144.name, by decide, Try.func144.trans (congrArg some (by kernel_rfl))⟩
  t0 := Try.underlying0
  a0 := Try.isAgg0
  z0 := Try.sizeOf0
  v0 := Try.zeroValue0
  t4 := Try.underlying4
  a4 := Try.isAgg4
  z4 := Try.sizeOf4
  v4 := Try.zeroValue4
  t23 := Try.underlying97
  a23 := Try.isAgg97
  z23 := Try.sizeOf97
  v23 := Try.zeroValue97
  t26 := Try.underlying3
  a26 := Try.isAgg3
  z26 := Try.sizeOf3
  v26 := Try.zeroValue3
  t27 := Try.underlying111
  a27 := Try.isAgg111
  z27 := Try.sizeOf111
  v27 := Try.zeroValue111
  t28 := Try.underlying112
  a28 := Try.isAgg112
  z28 := Try.sizeOf112
  v28 := Try.zeroValue112
  t33 := Try.underlying175
  a33 := Try.isAgg175
  z33 := Try.sizeOf175
  v33 := Try.zeroValue175 }
def Try.sortedA_ren : Go.Shelf.Ren := ⟨fun | 6 => 98 | 8 => 143 | 9 => 104 | 11 => 170 | 13 => 148 | 12 => 147 | 23 => 180 | 24 => 181 | 14 => 171 | 15 => 172 | 16 => 173 | 17 => 174 | 18 => 175 | 19 => 176 | 20 => 177 | 21 => 178 | 22 => 179 | 25 => 195 | 26 => 196 | 27 => 197 | 28 => 198 | 29 => 199 | 30 => 200 | 31 => 209 | n => n, fun | 26 => 3 | 28 => 112 | 24 => 37 | 0 => 0 | 3 => 3 | 37 => 181 | 48 => 211 | 50 => 213 | 4 => 4 | 40 => 204 | 39 => 203 | 45 => 122 | 5 => 5 | 9 => 9 | 51 => 228 | 55 => 232 | 57 => 241 | 58 => 242 | 33 => 175 | n => n, fun | n => n⟩
theorem Try.sortedA : Go.Proofs.SlLaysZI.n6 Try.prog Try.sortedA_ren := {
  mixed := by kernel_rfl
  f6 := ⟨Try.f98.name, by decide, Try.func98.trans (congrArg some (by kernel_rfl))⟩
  f8 := ⟨Try.f143.name, by decide, Try.func143.trans (congrArg some (by kernel_rfl))⟩
  f11 := ⟨Try.f170.name, by decide, Try.func170.trans (congrArg some (by kernel_rfl))⟩
  t0 := Try.underlying0
  a0 := Try.isAgg0
  z0 := Try.sizeOf0
  v0 := Try.zeroValue0
  t24 := Try.underlying37
  a24 := Try.isAgg37
  z24 := Try.sizeOf37
  v24 := Try.zeroValue37
  t26 := Try.underlying3
  a26 := Try.isAgg3
  z26 := Try.sizeOf3
  v26 := Try.zeroValue3
  t28 := Try.underlying112
  a28 := Try.isAgg112
  z28 := Try.sizeOf112
  v28 := Try.zeroValue112
  i26 := by kernel_rfl }
end Go.Proofs
set_option linter.unusedSimpArgs false
set_option linter.unusedVariables false
namespace Go.Proofs.Ythplndalbfcbbaa
open Go.RowKit Go.MapKept Go.WideShapes Go.ChangeMaps Go.WideElems
theorem pigeon : ∀ (n : Nat) (l : List Int), l.Nodup → (∀ x, x ∈ l → 0 ≤ x ∧ x < n) → l.length ≤ n
  | 0, l, _, h => by
    cases l with
    | nil => simp
    | cons x l => have := h x (by simp); omega
  | n + 1, l, hn, h => by
    have h1 := pigeon n (l.erase (n : Int)) (hn.erase _) fun x hx => by
      have h2 := (hn.mem_erase_iff).1 hx
      have h3 := h x h2.2
      have := h2.1
      omega
    rw [List.length_erase] at h1
    split at h1 <;> omega
def R0 : Value → Option (DataW Unit × List MemPlace) := fun _ => some (.nil, [])
theorem MapAt.owns {P : Program} {k : TypeId} {W : World} {b : Nat} {f : Int → Option Value} (h : MapAt W b f) (hk : P.underlying k = some (.int .i64)) (hr : ∀ x v, f x = some v → 0 ≤ x ∧ x ≤ 255) :
    ∃ D : DataW Unit, W.ownsMap P k R0 b 256 D ∧ (∀ x, x ∈ intKeys D ↔ ∃ v, f x = some v) ∧ (intKeys D).Nodup := by
  obtain ⟨es, clock, hb, hkeys, huniq, hval, hdom, hst⟩ := h
  have hkey : ∀ e, e ∈ es.toList → ∃ x : Int, e.key = .int .i64 x ∧ f x = some e.val ∧ keyOf P k e.key = some (.int .i64 x) := fun e he => by
    obtain ⟨x, hx, h0, h1⟩ := hkeys e he
    exact ⟨x, hx, hval e he x hx, by rw [hx]; exact Maps.keyOf_int_mk hk (wf_i64 h0 h1)⟩
  have hnd : (es.toList.map fun e => match e.key with | .int _ x => x | _ => 0).Nodup := by
        have hp := hst.2.2
        rw [List.nodup_iff_pairwise_ne, List.pairwise_map] at hp ⊢
        refine List.Pairwise.imp_of_mem ?_ hp
        intro e e' he he' hne
        obtain ⟨x, hx, _⟩ := hkey e he
        obtain ⟨y, hy, _⟩ := hkey e' he'
        rw [hx, hy] at hne ⊢
        simp only at hne ⊢
        intro e1
        exact hne (by rw [e1])
  have hsize : es.size ≤ 256 := by
    have h1 : (es.toList.map fun e => match e.key with | .int _ x => x | _ => 0).length ≤ 256 := by
      refine pigeon 256 _ hnd ?_
      · intro x hx
        obtain ⟨e, he, rfl⟩ := List.mem_map.1 hx
        obtain ⟨y, hy, hf, _⟩ := hkey e he
        rw [hy]
        have := hr y _ hf
        simp only; omega
    simpa using h1
  have hrd : ∀ e, e ∈ es.toList → ∃ x : Int, e.key = .int .i64 x ∧ rd P k R0 e = some (.int .i64 x, .nil) := fun e he => by
    obtain ⟨x, hx, _, hk2⟩ := hkey e he
    refine ⟨x, hx, ?_⟩
    cases e with
    | mk key val born => exact rd_mk (born := born) hk2 (yv := (.nil, [])) rfl
  refine ⟨_, ⟨es, clock, hb, ⟨by unfold maxLen; omega, hst, fun e he => by obtain ⟨x, _, h2⟩ := hrd e he; exact ⟨_, h2⟩⟩, hsize, rfl⟩, fun x => ?_, ?_⟩
  rotate_left
  · simp only [intKeys]
    refine ((sorted_perm _).map _).nodup_iff.2 ?_
    rw [List.map_map]
    have he : es.toList.map ((fun p => _root_.Go.intOf p.1) ∘ rg P k R0) = es.toList.map fun e => match e.key with | .int _ x => x | _ => 0 := by
      refine List.map_congr_left fun e he => ?_
      obtain ⟨y, hy, h2⟩ := hrd e he
      simp only [Function.comp, rg_of h2, hy]
      rfl
    rw [he]; exact hnd
  simp only [intKeys, List.mem_map, mem_sorted]
  constructor
  · rintro ⟨p, ⟨e, he, rfl⟩, rfl⟩
    obtain ⟨y, hy, h2⟩ := hrd e he
    rw [rg_of h2]
    exact ⟨e.val, hval e he y hy⟩
  · rintro ⟨v, hv⟩
    obtain ⟨e, he, hek⟩ := hdom x v hv
    obtain ⟨y, hy, h2⟩ := hrd e he
    refine ⟨_, ⟨e, he, rfl⟩, ?_⟩
    rw [rg_of h2]
    rw [hek] at hy
    cases hy
    rfl
end Go.Proofs.Ythplndalbfcbbaa
