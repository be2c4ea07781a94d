/- What the proof of the law rests on: contracts of the functions, plain laws, and words. -/
import Derived.Test.YthplndalbfcbbaaKMatchUnifiesXUniFun
import Derived.Test.YthplndalbfcbbaaKMatchUnifiesXEnd
set_option linter.unusedSimpArgs false
set_option linter.unusedVariables false
namespace Go.Proofs.Ythplndalbfcbbaa
open Go.RowKit
def movesS (S : Sub) (v : Int) : Bool := (S v).h != -1 - v
def tidyS (S : Sub) : List Bd × Int := endL S ((upto 256).filter (movesS S)) []
def fuelU (ps ts : List Tm) : Nat := meas (nsubsL (ps ++ ts)) noE varT (ps.zip ts) + 1
def unifyT (ps ts : List Tm) : List Bd × Bool × Int :=
  if ps.length = ts.length ∧ ps.all rightB = true ∧ ts.all rightB = true then
    match unS (fuelU ps ts) varT (ps.zip ts) with
    | some (some S) => ((tidyS S).1, (tidyS S).2 == 0, (tidyS S).2)
    | _ => ([], false, 0)
  else ([], false, 1)
theorem endL_congr {S S' : Sub} : ∀ (vs : List Int) (acc : List Bd), (∀ v, v ∈ vs → S v = S' v) → endL S vs acc = endL S' vs acc
  | [], _, _ => rfl
  | v :: vs, acc, h => by
    simp only [endL]
    rw [h v (by simp), endL_congr vs _ fun u hu => h u (by simp [hu])]
theorem moves_iff {f : Env} {S : Sub} (hS : Solved f S) {v : Int} (h0 : 0 ≤ v) (h1 : v ≤ 255) : movesS S v = (f v).isSome := by
  unfold movesS
  cases hf : f v with
  | none => rw [hS.free v hf]; simp [varT, Tm.h]
  | some t =>
    have hne : (S v).h ≠ -1 - v := fun e => by
      have := hS.idem v v h0 h1 ⟨h0, by rw [← e, Tm.heads_eq]; exact List.mem_cons_self⟩
      rw [hf] at this; cases this
    simpa using hne
theorem dom_moves {f : Env} {S : Sub} (hS : Solved f S) : domL f = (upto 256).filter (movesS S) := by
  unfold domL
  refine List.filter_congr fun v hv => ?_
  have := mem_upto.1 hv
  exact (moves_iff hS this.1 (by omega)).symm
theorem tidyS_congr {S S' : Sub} (h : ∀ v, 0 ≤ v → S v = S' v) : tidyS S = tidyS S' := by
  unfold tidyS
  have e : (upto 256).filter (movesS S) = (upto 256).filter (movesS S') := List.filter_congr fun v hv => by unfold movesS; rw [h v (mem_upto.1 hv).1]
  rw [e]
  exact endL_congr _ _ fun v hv => h v (mem_upto.1 (List.mem_filter.1 hv).1).1
section
variable {ps ts : List Tm}
theorem goods_pair (hp : ps.all rightB = true) (ht : ts.all rightB = true) : Tm.goods (ps ++ ts) = true := goods_of_mem fun t h => by
  rcases List.mem_append.1 h with h | h
  · exact goods_mem (goods_of_right hp) t h
  · exact goods_mem (goods_of_right ht) t h
theorem unify_start (hl : ps.length = ts.length) (h10 : ps.length ≤ 10) (hp : ps.all rightB = true) (ht : ts.all rightB = true) : SState (nsubsL (ps ++ ts)) (ps.zip ts) noE varT (ps.zip ts) :=
  sstate_start (closedL (goods_pair hp ht)) hl h10 (fun t h => inD_nsubsL (goods_pair hp ht) (by simp [h])) (fun t h => inD_nsubsL (goods_pair hp ht) (by simp [h]))
theorem unify_ends (hl : ps.length = ts.length) (h10 : ps.length ≤ 10) (hp : ps.all rightB = true) (ht : ts.all rightB = true) : ∃ r, unS (fuelU ps ts) varT (ps.zip ts) = some r ∧ Ends (nsubsL (ps ++ ts)) (ps.zip ts) r :=
  unS_law (closedL (goods_pair hp ht)) _ _ _ _ _ (unify_start hl h10 hp ht) (RelL.refl _) (Nat.lt_succ_self _)
theorem unify_some (hl : ps.length = ts.length) (h10 : ps.length ≤ 10) (hp : ps.all rightB = true) (ht : ts.all rightB = true) {S : Sub} (hS : Mgu (ps.zip ts) S) : unifyT ps ts = ((tidyS S).1, (tidyS S).2 == 0, (tidyS S).2) := by
  obtain ⟨r, h1, h2⟩ := unify_ends hl h10 hp ht
  unfold unifyT
  rw [if_pos ⟨hl, hp, ht⟩, h1]
  cases r with
  | none => exact absurd hS.sol (h2 S)
  | some S' =>
    obtain ⟨f, g1, g2, g3⟩ := h2
    have e := tidyS_congr (mgu_unique (mgu_of g1 g2) hS)
    simp only [e]
theorem unify_none (hl : ps.length = ts.length) (h10 : ps.length ≤ 10) (hp : ps.all rightB = true) (ht : ts.all rightB = true) (hS : ∀ τ, ¬ Sol τ (ps.zip ts)) : unifyT ps ts = ([], false, 0) := by
  obtain ⟨r, h1, h2⟩ := unify_ends hl h10 hp ht
  unfold unifyT
  rw [if_pos ⟨hl, hp, ht⟩, h1]
  cases r with
  | none => rfl
  | some S' =>
    obtain ⟨f, g1, g2, g3⟩ := h2
    exact absurd (mgu_of g1 g2).sol (hS S')
theorem unify_wrong (h : ¬ (ps.length = ts.length ∧ ps.all rightB = true ∧ ts.all rightB = true)) : unifyT ps ts = ([], false, 1) := by
  unfold unifyT; rw [if_neg h]
end
end Go.Proofs.Ythplndalbfcbbaa
