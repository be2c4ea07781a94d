/- The arguments of the path index's laws, read: terms whose heads are numbers. -/
import Derived.Test.YtneecjikdghchaaDoorRead
set_option linter.unusedSimpArgs false
set_option linter.unusedVariables false
namespace Go.Proofs.YtneecjikdghchaaDoor
open Go.RowKit Go.ChangeShapes Go.WideShapes Go.ChangeAt

mutual
def HOk : Tm → Prop
  | .node h l => (-9223372036854775808 ≤ h ∧ h ≤ 9223372036854775807) ∧ HOks l
def HOks : List Tm → Prop
  | [] => True
  | t :: ts => HOk t ∧ HOks ts
end
theorem hoks_map : ∀ us : List { t : Tm // HOk t }, HOks (us.map (·.1))
  | [] => by simp only [List.map_nil, HOks]
  | u :: us => by simp only [List.map_cons, HOks]; exact ⟨u.2, hoks_map us⟩
section
variable {H : Type} {enc : TypeId × Value → H} {W : World} {sp : Nat → Bool} {held : Bool}
theorem cellsTerm : Tryd.prog.cellsOf 24 = 2 := by kernel_rfl
theorem cellsInt : Tryd.prog.cellsOf 3 = 1 := by kernel_rfl
theorem cellsTerms : Tryd.prog.cellsOf 22 = 1 := by kernel_rfl
theorem wf_range {x : Int} (h : (Lit.int .i64 x).wf = true) : -9223372036854775808 ≤ x ∧ x ≤ 9223372036854775807 := by
  have e1 : IntKind.i64.min = -9223372036854775808 := by decide
  have e2 : IntKind.i64.max = 9223372036854775807 := by decide
  simp [Lit.wf, e1, e2] at h
  omega
theorem list2 {l : List Value} (h : l.length = 2) : ∃ a b, l = [a, b] := by
  match l, h with
  | [a, b], _ => exact ⟨a, b, rfl⟩
theorem readTmH : ∀ (fuel : Nat) (cs : List Value) (x : DataW H × List MemPlace), DataW.trod enc Tryd.prog W 0 sp held fuel 24 cs = some x → ∃ t : { t : Tm // HOk t }, RepD (fun _ => False) W t.1.d cs := by
  intro fuel
  induction fuel using Nat.strongRecOn with
  | ind fuel ih =>
    intro cs x h
    obtain ⟨xs, n, rfl, _, hl, hlen, hf⟩ := DataW.trod_struct Tryd.underlying24 h
    rw [cellsTerm] at hl
    obtain ⟨c0, c1, rfl⟩ := list2 hl
    have h0 := hf 0 _ rfl
    have h1 := hf 1 _ rfl
    have e0 : xs[0]? = some (xs[0]'(by rw [hlen]; decide)) := List.getElem?_eq_getElem _
    have e1 : xs[1]? = some (xs[1]'(by rw [hlen]; decide)) := List.getElem?_eq_getElem _
    rw [e0] at h0
    rw [e1] at h1
    obtain ⟨v, hv, _, hw⟩ := DataW.trod_int Tryd.underlying3 h0
    obtain ⟨us, hus⟩ := read_slice Tryd.underlying22 cellsTerm (by omega) (fun u : { t : Tm // HOk t } => u.1.d) h1 (fun m cs y hm hy => ih m (by omega) cs y hy)
    replace hv : [c0, c1].take (Tryd.prog.cellsOf 3) = [.int .i64 v] := hv
    replace hus : RepD (fun _ => False) W (.row 2 (us.map fun u => u.1.d)) ([c1].take (Tryd.prog.cellsOf 22)) := hus
    rw [cellsInt] at hv
    rw [cellsTerms] at hus
    simp at hv hus
    subst hv
    refine ⟨⟨.node v (us.map (·.1)), by simp only [HOk]; exact ⟨wf_range hw, hoks_map us⟩⟩, repTm.2 ⟨c1, rfl, ?_⟩⟩
    rw [Terms, Tm.ds_eq, Tm.args]
    exact hus
theorem readTermH (fuel : Nat) (h0 : Value) (s : Value) (x : DataW H × List MemPlace) (h : DataW.trod enc Tryd.prog W 0 sp held fuel 24 [h0, s] = some x) : ∃ t : Tm, HOk t ∧ h0 = .int .i64 t.h ∧ IsTm (fun _ => False) W t.h s t := by
  obtain ⟨t, ht⟩ := readTmH fuel _ _ h
  obtain ⟨s', hs, hts⟩ := repTm.1 ht
  simp at hs
  obtain ⟨rfl, rfl⟩ := hs
  exact ⟨t.1, t.2, rfl, rfl, hts⟩
theorem readTermsH (fuel : Nat) (s : Value) (x : DataW H × List MemPlace) (h : DataW.trod enc Tryd.prog W 0 sp held fuel 22 [s] = some x) : ∃ ts : List Tm, HOks ts ∧ Terms (fun _ => False) W s ts := by
  obtain ⟨us, hus⟩ := read_slice Tryd.underlying22 cellsTerm (by omega) (fun u : { t : Tm // HOk t } => u.1.d) h (fun m cs y _ hy => readTmH m cs y hy)
  refine ⟨us.map (·.1), hoks_map us, ?_⟩
  rw [Terms, Tm.ds_eq, List.map_map]
  exact hus
end
end Go.Proofs.YtneecjikdghchaaDoor
