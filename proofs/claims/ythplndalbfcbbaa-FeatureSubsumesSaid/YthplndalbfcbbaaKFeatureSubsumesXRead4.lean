/- What the proof of the law rests on: contracts of the functions, plain laws, and words. -/
import Derived.Test.YthplndalbfcbbaaKFeatureSubsumesG8
import Derived.Test.YthplndalbfcbbaaKFeatureSubsumesG4
import Derived.Test.YthplndalbfcbbaaKFeatureSubsumesXSyms
set_option linter.unusedSimpArgs false
set_option linter.unusedVariables false
namespace Go.Proofs.Ythplndalbfcbbaa
open Go.RowKit Go.ChangeShapes Go.WideShapes Go.ChangeAt
section
variable {H : Type} {enc : TypeId × Value → H} {W : World} {sp : Nat → Bool} {held : Bool}
theorem cellsSym : Try.prog.cellsOf 148 = 4 := by kernel_rfl
theorem cellsLit : Try.prog.cellsOf 142 = 5 := by kernel_rfl
theorem cellsBool : Try.prog.cellsOf 4 = 1 := by kernel_rfl
theorem cellsString : Try.prog.cellsOf 9 = 1 := by kernel_rfl
theorem list4 {l : List Value} (h : l.length = 4) : ∃ a b c d, l = [a, b, c, d] := by
  match l, h with
  | [a, b, c, d], _ => exact ⟨a, b, c, d, rfl⟩
theorem list5 {l : List Value} (h : l.length = 5) : ∃ a b c d e, l = [a, b, c, d, e] := by
  match l, h with
  | [a, b, c, d, e], _ => exact ⟨a, b, c, d, e, rfl⟩
theorem readSy (fuel : Nat) (cs : List Value) (x : DataW H × List MemPlace) (h : DataW.trod enc Try.prog W 0 sp held fuel 148 cs = some x) : ∃ s : Sy, RepD (fun _ => False) W s.d cs := by
  obtain ⟨xs, n, rfl, _, hl, hlen, hf⟩ := DataW.trod_struct Try.underlying148 h
  rw [cellsSym] at hl
  obtain ⟨c0, c1, c2, c3, rfl⟩ := list4 hl
  have h0 := hf 0 _ rfl
  have h1 := hf 1 _ rfl
  have h2 := hf 2 _ rfl
  have h3 := hf 3 _ rfl
  have e0 : xs[0]? = some (xs[0]'(by rw [hlen]; decide)) := List.getElem?_eq_getElem _
  have e1 : xs[1]? = some (xs[1]'(by rw [hlen]; decide)) := List.getElem?_eq_getElem _
  have e2 : xs[2]? = some (xs[2]'(by rw [hlen]; decide)) := List.getElem?_eq_getElem _
  have e3 : xs[3]? = some (xs[3]'(by rw [hlen]; decide)) := List.getElem?_eq_getElem _
  rw [e0] at h0
  rw [e1] at h1
  rw [e2] at h2
  rw [e3] at h3
  obtain ⟨v0, hv0, _⟩ := DataW.trod_string Try.underlying9 h0
  obtain ⟨v1, hv1, _⟩ := DataW.trod_int Try.underlying3 h1
  obtain ⟨v2, hv2, _⟩ := DataW.trod_int Try.underlying3 h2
  obtain ⟨v3, hv3, _⟩ := DataW.trod_bool Try.underlying4 h3
  replace hv0 : [c0, c1, c2, c3].take (Try.prog.cellsOf 9) = [.string v0] := hv0
  replace hv1 : [c1, c2, c3].take (Try.prog.cellsOf 3) = [.int .i64 v1] := hv1
  replace hv2 : [c2, c3].take (Try.prog.cellsOf 3) = [.int .i64 v2] := hv2
  replace hv3 : [c3].take (Try.prog.cellsOf 4) = [.bool v3] := hv3
  rw [cellsString] at hv0
  rw [cellsInt] at hv1 hv2
  rw [cellsBool] at hv3
  simp at hv0 hv1 hv2 hv3
  subst hv0 hv1 hv2 hv3
  exact ⟨⟨v0, v1, v2, v3⟩, repSy.2 rfl⟩
theorem readSyms (fuel : Nat) (s : Value) (x : DataW H × List MemPlace) (h : DataW.trod enc Try.prog W 0 sp held fuel 62 [s] = some x) : ∃ gs : List Sy, Syms (fun _ => False) W s gs := by
  obtain ⟨us, hus⟩ := read_slice Try.underlying62 cellsSym (by omega) Sy.d h (fun m cs y _ hy => readSy m cs y hy)
  exact ⟨us, hus⟩
theorem readLt (fuel : Nat) (cs : List Value) (x : DataW H × List MemPlace) (h : DataW.trod enc Try.prog W 0 sp held fuel 142 cs = some x) : ∃ s : Lt, RepD (fun _ => False) W s.d cs := by
  obtain ⟨xs, n, rfl, _, hl, hlen, hf⟩ := DataW.trod_struct Try.underlying142 h
  rw [cellsLit] at hl
  obtain ⟨c0, c1, c2, c3, c4, rfl⟩ := list5 hl
  have h0 := hf 0 _ rfl
  have h1 := hf 1 _ rfl
  have h2 := hf 2 _ rfl
  have e0 : xs[0]? = some (xs[0]'(by rw [hlen]; decide)) := List.getElem?_eq_getElem _
  have e1 : xs[1]? = some (xs[1]'(by rw [hlen]; decide)) := List.getElem?_eq_getElem _
  have e2 : xs[2]? = some (xs[2]'(by rw [hlen]; decide)) := List.getElem?_eq_getElem _
  rw [e0] at h0
  rw [e1] at h1
  rw [e2] at h2
  obtain ⟨v0, hv0, _⟩ := DataW.trod_bool Try.underlying4 h0
  obtain ⟨t1, ht1⟩ := readTm n _ _ h1
  obtain ⟨t2, ht2⟩ := readTm n _ _ h2
  replace hv0 : [c0, c1, c2, c3, c4].take (Try.prog.cellsOf 4) = [.bool v0] := hv0
  replace ht1 : RepD (fun _ => False) W t1.d ([c1, c2, c3, c4].take (Try.prog.cellsOf 25)) := ht1
  replace ht2 : RepD (fun _ => False) W t2.d ([c3, c4].take (Try.prog.cellsOf 25)) := ht2
  rw [cellsBool] at hv0
  rw [cellsTerm] at ht1 ht2
  simp at hv0 ht1 ht2
  subst hv0
  obtain ⟨s1, hs1, hts1⟩ := repTm.1 ht1
  obtain ⟨s2, hs2, hts2⟩ := repTm.1 ht2
  simp at hs1 hs2
  obtain ⟨rfl, rfl⟩ := hs1
  obtain ⟨rfl, rfl⟩ := hs2
  exact ⟨⟨v0, t1, t2⟩, repLt.2 ⟨c2, c4, rfl, hts1, hts2⟩⟩
theorem readLits (fuel : Nat) (s : Value) (x : DataW H × List MemPlace) (h : DataW.trod enc Try.prog W 0 sp held fuel 63 [s] = some x) : ∃ ls : List Lt, Lits (fun _ => False) W s ls := by
  obtain ⟨us, hus⟩ := read_slice Try.underlying63 cellsLit (by omega) Lt.d h (fun m cs y _ hy => readLt m cs y hy)
  exact ⟨us, hus⟩
end
end Go.Proofs.Ythplndalbfcbbaa
