/- The arguments of this program, read. -/
import Derived.Test.YthplndalbfcbbaaRead
set_option linter.unusedSimpArgs false
set_option linter.unusedVariables false
namespace Go.Proofs.Ythplndalbfcbbaa
open Go.RowKit Go.ChangeShapes Go.WideShapes Go.ChangeAt

section
variable {H : Type} {enc : TypeId × Value → H} {W : World} {sp : Nat → Bool} {held : Bool}
theorem cellsTerm : Try.prog.cellsOf 25 = 2 := by kernel_rfl
theorem cellsBind : Try.prog.cellsOf 60 = 3 := by kernel_rfl
theorem cellsInt : Try.prog.cellsOf 3 = 1 := by kernel_rfl
theorem cellsTerms : Try.prog.cellsOf 23 = 1 := by kernel_rfl
theorem wf_range {x : Int} (h : (Lit.int .i64 x).wf = true) : -9223372036854775808 ≤ x ∧ x ≤ 9223372036854775807 := by
  have e1 : IntKind.i64.min = -9223372036854775808 := by decide
  have e2 : IntKind.i64.max = 9223372036854775807 := by decide
  simp [Lit.wf, e1, e2] at h
  omega
theorem list2 {l : List Value} (h : l.length = 2) : ∃ a b, l = [a, b] := by
  match l, h with
  | [a, b], _ => exact ⟨a, b, rfl⟩
theorem list3 {l : List Value} (h : l.length = 3) : ∃ a b c, l = [a, b, c] := by
  match l, h with
  | [a, b, c], _ => exact ⟨a, b, c, rfl⟩
theorem readTm : ∀ (fuel : Nat) (cs : List Value) (x : DataW H × List MemPlace), DataW.trod enc Try.prog W 0 sp held fuel 25 cs = some x → ∃ t : Tm, RepD (fun _ => False) W t.d cs := by
  intro fuel
  induction fuel using Nat.strongRecOn with
  | ind fuel ih =>
    intro cs x h
    obtain ⟨xs, n, rfl, _, hl, hlen, hf⟩ := DataW.trod_struct Try.underlying25 h
    rw [cellsTerm] at hl
    obtain ⟨c0, c1, rfl⟩ := list2 hl
    have h0 := hf 0 _ rfl
    have h1 := hf 1 _ rfl
    have e0 : xs[0]? = some (xs[0]'(by rw [hlen]; decide)) := List.getElem?_eq_getElem _
    have e1 : xs[1]? = some (xs[1]'(by rw [hlen]; decide)) := List.getElem?_eq_getElem _
    rw [e0] at h0
    rw [e1] at h1
    obtain ⟨v, hv, _, hw⟩ := DataW.trod_int Try.underlying3 h0
    obtain ⟨us, hus⟩ := read_slice Try.underlying23 cellsTerm (by omega) Tm.d h1 (fun m cs y hm hy => ih m (by omega) cs y hy)
    replace hv : [c0, c1].take (Try.prog.cellsOf 3) = [.int .i64 v] := hv
    replace hus : RepD (fun _ => False) W (.row 2 (us.map Tm.d)) ([c1].take (Try.prog.cellsOf 23)) := hus
    rw [cellsInt] at hv
    rw [cellsTerms] at hus
    simp at hv hus
    subst hv
    exact ⟨.node v us, repTm.2 ⟨c1, rfl, by rw [Terms, Tm.ds_eq]; exact hus⟩⟩
theorem readBd (fuel : Nat) (cs : List Value) (x : DataW H × List MemPlace) (h : DataW.trod enc Try.prog W 0 sp held fuel 60 cs = some x) :
    ∃ b : { b : Bd // -9223372036854775808 ≤ b.v ∧ b.v ≤ 9223372036854775807 }, RepD (fun _ => False) W b.1.d cs := by
  obtain ⟨xs, n, rfl, _, hl, hlen, hf⟩ := DataW.trod_struct Try.underlying60 h
  rw [cellsBind] at hl
  obtain ⟨c0, c1, c2, rfl⟩ := list3 hl
  have h0 := hf 0 _ rfl
  have h1 := hf 1 _ rfl
  have e0 : xs[0]? = some (xs[0]'(by rw [hlen]; decide)) := List.getElem?_eq_getElem _
  have e1 : xs[1]? = some (xs[1]'(by rw [hlen]; decide)) := List.getElem?_eq_getElem _
  rw [e0] at h0
  rw [e1] at h1
  obtain ⟨v, hv, _, hw⟩ := DataW.trod_int Try.underlying3 h0
  obtain ⟨t, ht⟩ := readTm n _ _ h1
  replace hv : [c0, c1, c2].take (Try.prog.cellsOf 3) = [.int .i64 v] := hv
  replace ht : RepD (fun _ => False) W t.d ([c1, c2].take (Try.prog.cellsOf 25)) := ht
  rw [cellsInt] at hv
  rw [cellsTerm] at ht
  simp at hv ht
  subst hv
  obtain ⟨s, hs, hts⟩ := repTm.1 ht
  simp at hs
  obtain ⟨rfl, rfl⟩ := hs
  exact ⟨⟨⟨v, t⟩, wf_range hw⟩, repBd.2 ⟨c2, rfl, hts⟩⟩
theorem readBinds (fuel : Nat) (s : Value) (x : DataW H × List MemPlace) (h : DataW.trod enc Try.prog W 0 sp held fuel 22 [s] = some x) :
    ∃ bs : List Bd, (∀ b, b ∈ bs → -9223372036854775808 ≤ b.v ∧ b.v ≤ 9223372036854775807) ∧ Binds (fun _ => False) W s bs := by
  obtain ⟨us, hus⟩ := read_slice Try.underlying22 cellsBind (by omega) (fun b : { b : Bd // -9223372036854775808 ≤ b.v ∧ b.v ≤ 9223372036854775807 } => b.1.d) h (fun m cs y _ hy => readBd m cs y hy)
  refine ⟨us.map (·.1), fun b hb => ?_, ?_⟩
  · obtain ⟨u, _, rfl⟩ := List.mem_map.1 hb
    exact u.2
  · unfold Binds
    rw [List.map_map]
    exact hus
theorem readTerm (fuel : Nat) (h0 : Value) (s : Value) (x : DataW H × List MemPlace) (h : DataW.trod enc Try.prog W 0 sp held fuel 25 [h0, s] = some x) : ∃ t : Tm, h0 = .int .i64 t.h ∧ IsTm (fun _ => False) W t.h s t := by
  obtain ⟨t, ht⟩ := readTm fuel _ _ h
  obtain ⟨s', hs, hts⟩ := repTm.1 ht
  simp at hs
  obtain ⟨rfl, rfl⟩ := hs
  exact ⟨t, rfl, rfl, hts⟩
end
end Go.Proofs.Ythplndalbfcbbaa
