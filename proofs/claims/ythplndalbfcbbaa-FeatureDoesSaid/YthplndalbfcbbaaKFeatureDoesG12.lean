/- What the proof of the law rests on: contracts of the functions, plain laws, and words. -/
import Derived.Deep.LoopGhost
import Derived.WalkSmall
import Derived.Shelf.SlIterI.Nil
import Derived.Shelf.SlGeneric
import Derived.Ground.GgzProg
import Derived.Test.YthplndalbfcbbaaProg
import Derived.Test.YthplndalbfcbbaaKFeatureDoesG1
import Derived.Test.YthplndalbfcbbaaKFeatureDoesG4
import Derived.Test.YthplndalbfcbbaaKFeatureDoesG2
import Derived.Test.YthplndalbfcbbaaKFeatureDoesG5
import Derived.Test.YthplndalbfcbbaaKFeatureDoesG3
import Derived.Test.YthplndalbfcbbaaKFeatureDoesG6
import Derived.Test.YthplndalbfcbbaaKFeatureDoesG9
set_option linter.unusedSimpArgs false
set_option linter.unusedVariables false
namespace Go.Proofs.Ythplndalbfcbbaa
open Go.RowKit
def posN (v : Int) : List Int → Nat
  | [] => 0
  | x :: l => if x = v then 0 else 1 + posN v l
def numStep (ns : List Int) (v : Int) : List Int := if v ∈ ns then ns else ns ++ [v]
theorem mem_numStep {ns : List Int} {v x : Int} : x ∈ numStep ns v ↔ x ∈ ns ∨ x = v := by
  unfold numStep
  split
  · rename_i h
    exact ⟨.inl, fun h' => h'.elim id fun e => e ▸ h⟩
  · simp
end Go.Proofs.Ythplndalbfcbbaa
set_option linter.unusedSimpArgs false
set_option linter.unusedVariables false
namespace Go.Proofs.Ythplndalbfcbbaa
open Go.RowKit
mutual
def numT (ns : List Int) : Tm → List Int
  | .node h l => if h < 0 then numStep ns (-1 - h) else numL ns l
def numL (ns : List Int) : List Tm → List Int
  | [] => ns
  | t :: ts => numL (numT ns t) ts
end
mutual
def renT (ns : List Int) : Tm → Tm
  | .node h l => if h < 0 then .node (-1 - (posN (-1 - h) (numStep ns (-1 - h)) : Int)) [] else .node h (renL ns l)
def renL (ns : List Int) : List Tm → List Tm
  | [] => []
  | t :: ts => renT ns t :: renL (numT ns t) ts
end
theorem renT_neg (ns : List Int) (t : Tm) (h : t.h < 0) : renT ns t = .node (-1 - (posN (-1 - t.h) (numStep ns (-1 - t.h)) : Int)) [] ∧ numT ns t = numStep ns (-1 - t.h) := by
  cases t; simp only [Tm.h] at h ⊢; rw [renT, numT, if_pos h, if_pos h]; exact ⟨rfl, rfl⟩
theorem renT_pos (ns : List Int) (t : Tm) (h : ¬ t.h < 0) : renT ns t = .node t.h (renL ns t.args) ∧ numT ns t = numL ns t.args := by
  cases t; simp only [Tm.h, Tm.args] at h ⊢; rw [renT, numT, if_neg h, if_neg h]; exact ⟨rfl, rfl⟩
theorem box1 {w : World} {b : Nat} {x : Value} {t : TypeId} (h : w.heap[b]? = some (.cells #[x] t (0, 0))) : b < w.heap.size ∧ w.cell? ⟨b, 0, none⟩ = some x ∧ w.frozen? ⟨b, 0, none⟩ = false :=
  ⟨(Array.getElem?_eq_some_iff.1 h).1, by simp [World.cell?, h], by simp [World.frozen?, h]⟩
section
variable {mb pb : Nat} {ns : List Int} {A : Nat → Prop} {w W W' : World} {bo base e : Nat} {bt : TypeId} {h : Int} {v : Value} {ds : List D}
end
end Go.Proofs.Ythplndalbfcbbaa
set_option linter.unusedSimpArgs false
set_option linter.unusedVariables false
namespace Go.Proofs.Ythplndalbfcbbaa
open Go.RowKit
theorem mem_step (ns : List Int) (v : Int) : v ∈ numStep ns v := mem_numStep.2 (.inr rfl)
mutual
theorem num_heads : ∀ (t : Tm) (ns : List Int), t.good = true → numT ns t = t.heads.foldl vstep ns
  | .node h l, ns, hg => by
    simp only [numT, Tm.heads, List.foldl_cons]
    by_cases hn : h < 0
    · obtain rfl := good_var hg hn
      simp only [if_pos hn, Tm.headsL, List.foldl_nil, numStep, vstep]
      by_cases hv : (-1 - h) ∈ ns
      · rw [if_pos hv, if_neg (by simp [hv])]
      · rw [if_neg hv, if_pos ⟨hn, hv⟩]
    · simp only [Tm.good, Bool.and_eq_true] at hg
      simp only [if_neg hn]
      rw [show vstep ns h = ns by simp [vstep, hn], numL_heads l ns hg.2]
theorem numL_heads : ∀ (l : List Tm) (ns : List Int), Tm.goods l = true → numL ns l = (Tm.headsL l).foldl vstep ns
  | [], _, _ => rfl
  | t :: ts, ns, hg => by
    simp only [Tm.goods, Bool.and_eq_true] at hg
    simp only [numL, Tm.headsL, List.foldl_append]
    rw [num_heads t ns hg.1, numL_heads ts _ hg.2]
end
end Go.Proofs.Ythplndalbfcbbaa
