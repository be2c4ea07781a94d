/- What the proof of the law rests on: contracts of the functions, plain laws, and words. -/
import Derived.Shelf.Sort.Plain
import Derived.Ground.Names2Prog
import Derived.Shelf.Slices.CompactI
import Derived.Shelf.Slices.In.SortNone
import Derived.Test.YthplndalbfcbbaaProg
import Derived.Deep.LoopGhost
import Derived.WalkSmall
import Derived.Test.YthplndalbfcbbaaKFeatureSubsumesG4
import Derived.Test.YthplndalbfcbbaaKFeatureSubsumesG3
set_option linter.unusedSimpArgs false
set_option linter.unusedVariables false
namespace Go.Proofs.Ythplndalbfcbbaa
open Go.RowKit
def upto (k : Nat) : List Int := (List.range k).map fun (n : Nat) => (n : Int)
end Go.Proofs.Ythplndalbfcbbaa
set_option linter.unusedSimpArgs false
set_option linter.unusedVariables false
namespace Go.Proofs.Ythplndalbfcbbaa
open Go.RowKit
abbrev Env := Int → Option Tm
mutual
/-- The environment makes the pattern the term. -/
def Makes (σ : Env) : Tm → Tm → Prop
  | .node h l, t => if h < 0 then σ (-1 - h) = some t else h = t.h ∧ MakesL σ l t.args
def MakesL (σ : Env) : List Tm → List Tm → Prop
  | [], ts => ts = []
  | _ :: _, [] => False
  | p :: ps, t :: ts => Makes σ p t ∧ MakesL σ ps ts
end
theorem makes_var {σ : Env} {p t : Tm} (h : p.h < 0) : Makes σ p t ↔ σ (-1 - p.h) = some t := by
  cases p with
  | node x l => simp only [Tm.h] at h ⊢; simp only [Makes, h, if_true]
theorem makes_fun {σ : Env} {p t : Tm} (h : ¬ p.h < 0) : Makes σ p t ↔ p.h = t.h ∧ MakesL σ p.args t.args := by
  cases p with
  | node x l =>
    have h' : ¬ x < 0 := h
    rw [Makes, if_neg h']
    exact Iff.rfl
theorem makesL_append {σ : Env} : ∀ {a c b d : List Tm}, a.length = c.length → (MakesL σ (a ++ b) (c ++ d) ↔ MakesL σ a c ∧ MakesL σ b d)
  | [], [], b, d, _ => by simp [MakesL]
  | [], _ :: _, b, d, h => by simp at h
  | _ :: _, [], b, d, h => by simp at h
  | p :: a, t :: c, b, d, h => by
    have ih := makesL_append (σ := σ) (a := a) (c := c) (b := b) (d := d) (by simpa using h)
    simp only [List.cons_append, MakesL, ih, and_assoc]
theorem makesL_one {σ : Env} {p t : Tm} : MakesL σ [p] [t] ↔ Makes σ p t := by simp [MakesL]
def Within (f σ : Env) : Prop := ∀ v t, f v = some t → σ v = some t
def upd (f : Env) (v : Int) (t : Tm) : Env := fun x => if x = v then some t else f x
theorem within_upd {f σ : Env} {v : Int} {t : Tm} (h : f v = none ∨ f v = some t) : Within (upd f v t) σ ↔ Within f σ ∧ σ v = some t := by
  constructor
  · intro hw
    have hv : σ v = some t := hw v t (by simp [upd])
    refine ⟨fun x u hx => ?_, hv⟩
    by_cases e : x = v
    · subst e
      rcases h with h | h
      · rw [h] at hx; cases hx
      · rw [h] at hx; cases hx; exact hv
    · exact hw x u (by simp [upd, e, hx])
  · rintro ⟨hw, hv⟩ x u hx
    by_cases e : x = v
    · subst e; simp [upd] at hx; rw [← hx]; exact hv
    · simp [upd, e] at hx; exact hw x u hx
def noE : Env := fun _ => none
end Go.Proofs.Ythplndalbfcbbaa
namespace Go.Proofs
open Go.Shelf
def Try.lays189_ren : Go.Shelf.Ren := ⟨fun | 189 => 104 | 125 => 148 | 257 => 147 | 128 => 180 | 129 => 181 | 294 => 171 | 295 => 172 | 296 => 173 | 297 => 174 | 298 => 175 | 299 => 176 | 216 => 177 | 300 => 178 | 301 => 179 | 328 => 195 | 329 => 196 | 330 => 197 | 331 => 198 | 332 => 199 | 215 => 200 | 343 => 209 | n => n, fun | 28 => 37 | 3 => 3 | 46 => 181 | 0 => 0 | 51 => 211 | 53 => 213 | 4 => 4 | 183 => 204 | 182 => 203 | 131 => 122 | 5 => 5 | 9 => 9 | 218 => 228 | 222 => 232 | 228 => 241 | 229 => 242 | n => n, fun | n => n⟩
theorem Try.lays189 : Go.Proofs.Lays.n189 Try.prog Try.lays189_ren := {
  mixed := by kernel_rfl
  f125 := Try.func148.trans (congrArg some (by kernel_rfl))
  f128 := Try.func180.trans (congrArg some (by kernel_rfl))
  f129 := Try.func181.trans (congrArg some (by kernel_rfl))
  f189 := Try.func104.trans (congrArg some (by kernel_rfl))
  f215 := Try.func200.trans (congrArg some (by kernel_rfl))
  f216 := Try.func177.trans (congrArg some (by kernel_rfl))
  f257 := Try.func147.trans (congrArg some (by kernel_rfl))
  f294 := Try.func171.trans (congrArg some (by kernel_rfl))
  f295 := Try.func172.trans (congrArg some (by kernel_rfl))
  f296 := Try.func173.trans (congrArg some (by kernel_rfl))
  f297 := Try.func174.trans (congrArg some (by kernel_rfl))
  f298 := Try.func175.trans (congrArg some (by kernel_rfl))
  f299 := Try.func176.trans (congrArg some (by kernel_rfl))
  f300 := Try.func178.trans (congrArg some (by kernel_rfl))
  f301 := Try.func179.trans (congrArg some (by kernel_rfl))
  f328 := Try.func195.trans (congrArg some (by kernel_rfl))
  f329 := Try.func196.trans (congrArg some (by kernel_rfl))
  f330 := Try.func197.trans (congrArg some (by kernel_rfl))
  f331 := Try.func198.trans (congrArg some (by kernel_rfl))
  f332 := Try.func199.trans (congrArg some (by kernel_rfl))
  f343 := Try.func209.trans (congrArg some (by kernel_rfl))
  t0 := Try.underlying0
  a0 := Try.isAgg0
  z0 := Try.sizeOf0
  v0 := Try.zeroValue0
  t3 := Try.underlying3
  a3 := Try.isAgg3
  z3 := Try.sizeOf3
  v3 := Try.zeroValue3
  t4 := Try.underlying4
  a4 := Try.isAgg4
  z4 := Try.sizeOf4
  v4 := Try.zeroValue4
  t5 := Try.underlying5
  a5 := Try.isAgg5
  z5 := Try.sizeOf5
  v5 := Try.zeroValue5
  t9 := Try.underlying9
  a9 := Try.isAgg9
  z9 := Try.sizeOf9
  v9 := Try.zeroValue9
  t28 := Try.underlying37
  a28 := Try.isAgg37
  z28 := Try.sizeOf37
  v28 := Try.zeroValue37
  t46 := Try.underlying181
  a46 := Try.isAgg181
  z46 := Try.sizeOf181
  v46 := Try.zeroValue181
  t51 := Try.underlying211
  a51 := Try.isAgg211
  z51 := Try.sizeOf211
  v51 := Try.zeroValue211
  t53 := Try.underlying213
  a53 := Try.isAgg213
  z53 := Try.sizeOf213
  v53 := Try.zeroValue213
  t131 := Try.underlying122
  a131 := Try.isAgg122
  z131 := Try.sizeOf122
  v131 := Try.zeroValue122
  t182 := Try.underlying203
  a182 := Try.isAgg203
  z182 := Try.sizeOf203
  v182 := Try.zeroValue203
  t183 := Try.underlying204
  a183 := Try.isAgg204
  z183 := Try.sizeOf204
  v183 := Try.zeroValue204
  t218 := Try.underlying228
  a218 := Try.isAgg228
  z218 := Try.sizeOf228
  v218 := Try.zeroValue228
  t222 := Try.underlying232
  a222 := Try.isAgg232
  z222 := Try.sizeOf232
  v222 := Try.zeroValue232
  t228 := Try.underlying241
  a228 := Try.isAgg241
  z228 := Try.sizeOf241
  v228 := Try.zeroValue241
  t229 := Try.underlying242
  a229 := Try.isAgg242
  z229 := Try.sizeOf242
  v229 := Try.zeroValue242 }
open Go.Sort Go.RowKit in
theorem Try.slices_Sort_int (blk off cap : Nat) (zs : List Int) (w : World) (hH : Holds (Value.int .i64) w blk off zs.toArray) (hblk : blk < w.heap.size) (hsz : zs.length < 4611686018427387904) :
    Calls Try.prog 104 #[.slice (some ⟨blk, off, none⟩) zs.length cap] w fun e w' =>
      e = .returned (.tuple #[]) ∧ ∃ n os, w' = grow (putRow (Value.int .i64) (Sort.ahead w n) blk off (zs.mergeSort fun x y => decide (x ≤ y)).toArray) os := Any.slices_Sort_int Try.lays189 blk off cap zs w hH hblk hsz
open Go.RowKit Go.Sort in
theorem Try.slices_Sort_int_none (p : Option Addr) (cap : Nat) (w : World) :
    Calls Try.prog 104 #[.slice p 0 cap] w fun e w' => e = .returned (.tuple #[]) ∧ w' = w := Any.slices_Sort_int_none Try.lays189 p cap w
end Go.Proofs
set_option linter.unusedSimpArgs false
set_option linter.unusedVariables false
namespace Go.Proofs.Ythplndalbfcbbaa
open Go.RowKit
def MapEnv (A : Nat → Prop) (W : World) (b : Nat) (g : Env) : Prop :=
  ∃ f, MapAt W b f ∧ ∀ x : Int, (g x = none → f x = none) ∧ ∀ t, g x = some t → ∃ s, f x = some (.agg #[.int .i64 t.h, s]) ∧ Terms A W s t.args
theorem MapEnv.keep {A S : Nat → Prop} {W W' : World} {b : Nat} {g : Env} (h : MapEnv A W b g) (hk : Keep S W W') (hb : S b) (hS : ∀ c, c < W.heap.size → ¬ A c → S c) : MapEnv A W' b g := by
  obtain ⟨f, h1, h2⟩ := h
  exact ⟨f, h1.keep hk hb, fun x => ⟨(h2 x).1, fun t ht => by obtain ⟨s, h3, h4⟩ := (h2 x).2 t ht; exact ⟨s, h3, h4.keep hk hS⟩⟩⟩
theorem MapEnv.below {A : Nat → Prop} {W W' : World} {b : Nat} {g : Env} (h : MapEnv A W b g) (hB : Below W.heap.size W W') : MapEnv A W' b g := h.keep (S := fun _ => True) (.of_below hB) trivial (fun _ _ _ => trivial)
theorem MapEnv.made (A : Nat → Prop) (W : World) : MapEnv A (W.alloc (.map #[] 0)) W.heap.size noE := ⟨_, MapAt.made W, fun x => ⟨fun _ => rfl, fun t ht => by cases ht⟩⟩
theorem goods_append (a b : List Tm) : Tm.goods (a ++ b) = (Tm.goods a && Tm.goods b) := by
  induction a with
  | nil => simp [Tm.goods]
  | cons t a ih => simp [Tm.goods, ih, Bool.and_assoc]
theorem cut_endcap {P : Program} {c : Code} {Q : Exit → Act → World → Prop} {a : Act} {w : World} (R : Act → Act → World → Prop)
    (h : c.wp P (Exit.then (R a) (fun _ _ _ => False)) a w) (k : ∀ a' w', R a a' w' → Q .normal a' w') : c.wp P Q a w := by
  refine wp_mono h ?_
  intro e a' w' hq
  cases e <;> first | exact k _ _ hq | exact hq.elim
section
variable {P : Program} {W : World} {ops : Array Oper} {rest : List Oper} {o : Oper} {a : Act} {Q : Exit → Act → World → Prop} {k e : TypeId}
theorem store_pl (hg : o.guard = none) (m x v : Operand) (t : TypeId) (hop : o.op = .mapUpdate t m x v) (hk : P.underlying k = some (.int .i64)) (ht : P.underlying t = some (.map k e))
    (b : Nat) (f : Int → Option Value) (hm : a.eval m = .map (some b)) (h : MapAt W b f) (y : Int) (hx : a.eval x = .int .i64 y) (h0 : -9223372036854775808 ≤ y) (h1 : y ≤ 9223372036854775807) (u : Value) (hv : a.eval v = u)
    (hK : ∀ W', MapAt W' b (fun z => if z = y then some u else f z) → Keep (fun c => c ≠ b) W W' → wpList P ops Q rest (a.put o.dst undef) W') : wpList P ops Q (o :: rest) a W := by
  refine wpList_plain hg fun K' hK' => ?_
  obtain ⟨w', hrun, r1, r2⟩ := h.store hk ht h0 h1 u
  unfold Oper.wp
  simp [execOp, hop, hm, hx, hv, hrun, Result.andThen]
  exact hK' _ _ (hK w' r1 r2)
end
structure Gst (A : Nat → Prop) (mb : Nat) (w W : World) (v u : Value) (ls rs : List Tm) (f : Env) : Prop where
  below : Below mb w W
  more : w.heap.size ≤ W.heap.size
  left : OwnD (fun b => mb ≤ b ∨ A b) W w.heap.size 25 2 v (ls.map Tm.d)
  right : OwnD (fun b => mb ≤ b ∨ A b) W w.heap.size 25 2 u (rs.map Tm.d)
  apart : Apart v u
  len : ls.length = rs.length
  size : Tm.sizes ls ≤ 1000000000
  env : MapEnv (fun b => mb ≤ b ∨ A b) W mb f
  good : Tm.goods ls = true
  size2 : Tm.sizes rs ≤ 1000000000
  esz : ∀ v t, f v = some t → t.size ≤ 1000000000
end Go.Proofs.Ythplndalbfcbbaa
