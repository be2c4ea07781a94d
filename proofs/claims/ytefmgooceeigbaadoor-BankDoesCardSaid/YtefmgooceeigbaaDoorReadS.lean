/- Scripts of the bank's law: in memory, and read. -/
import Derived.Test.YtefmgooceeigbaaDoorReadB
set_option linter.unusedSimpArgs false
set_option linter.unusedVariables false
namespace Go.Proofs.YtefmgooceeigbaaDoor
open Go.RowKit Go.ChangeShapes Go.WideShapes Go.ChangeAt

structure Bs where
  what : Int
  t : Tm
  id : Int
def Bs.d (s : Bs) : D := .agg [.lit (.int .i64 s.what), s.t.d, .lit (.int .i64 s.id)]
theorem repBs {A : Nat → Prop} {w : World} {x : Bs} {cs : List Value} : RepD A w x.d cs ↔ ∃ v, cs = [.int .i64 x.what, .int .i64 x.t.h, v, .int .i64 x.id] ∧ Terms A w v x.t.args := by
  simp only [Bs.d, RepD, RepL]
  constructor
  · rintro ⟨c1, c2, rfl, rfl, c3, c4, rfl, h, c5, c6, rfl, rfl, rfl⟩
    obtain ⟨s, rfl, h9⟩ := repTm.1 h
    exact ⟨s, by simp, h9⟩
  · rintro ⟨v, rfl, h⟩
    exact ⟨[_], [_, _, _], rfl, rfl, [_, _], [_], rfl, repTm.2 ⟨v, rfl, h⟩, [_], [], rfl, rfl, rfl⟩
def Steps (A : Nat → Prop) (w : World) (s : Value) (l : List Bs) : Prop := RepD A w (.row 4 (l.map Bs.d)) [s]
theorem Steps.shape {A : Nat → Prop} {w : World} {s : Value} {ls : List Bs} (h : Steps A w s ls) : ∃ a c, s = .slice a ls.length c ∧ ls.length ≤ c ∧ ls.length ≤ 9223372036854775807 := by
  simp only [Steps, RepD] at h
  obtain ⟨a, n, c, h1, h2, h3, h4, h5⟩ := h
  simp only [List.length_map] at h2
  subst h2
  simp only [List.cons.injEq, and_true] at h1
  exact ⟨a, c, h1, h3, h4⟩
theorem Steps.get {A : Nat → Prop} {w : World} {a : Option Addr} {n c : Nat} {ls : List Bs} (h : Steps A w (.slice a n c) ls) (i : Nat) (hi : i < ls.length) :
    ∃ b off a1 c1, a = some ⟨b, off, none⟩ ∧ b < w.heap.size ∧ w.cell? ⟨b, off + i * 4, none⟩ = some (.int .i64 ls[i].what) ∧ w.cell? ⟨b, off + i * 4 + 1, none⟩ = some (.int .i64 ls[i].t.h) ∧ w.cell? ⟨b, off + i * 4 + 2, none⟩ = some (.slice a1 ls[i].t.args.length c1) ∧ w.cell? ⟨b, off + i * 4 + 3, none⟩ = some (.int .i64 ls[i].id) ∧ Terms A w (.slice a1 ls[i].t.args.length c1) ls[i].t.args := by
  simp only [Steps, RepD] at h
  obtain ⟨a, n, c, h1, h2, h3, h4, h5⟩ := h
  simp only [List.cons.injEq, and_true, Value.slice.injEq] at h1
  obtain ⟨rfl, rfl, rfl⟩ := h1
  simp only [List.length_map] at h2
  obtain ⟨b, off, ha, hs, hb, hr⟩ := h5 (by omega)
  obtain ⟨cs, e1, e2, e3⟩ := hr.at i (by simpa using hi)
  simp only [List.getElem_map] at e3
  obtain ⟨v, rfl, e4⟩ := repBs.1 e3
  obtain ⟨a1, c1, rfl, _⟩ := e4.shape
  exact ⟨b, off, a1, c1, ha, hs, e2 0 (by omega), e2 1 (by omega), e2 2 (by omega), e2 3 (by omega), e4⟩
theorem list4 {l : List Value} (h : l.length = 4) : ∃ a b c d, l = [a, b, c, d] := by
  match l, h with
  | [a, b, c, d], _ => exact ⟨a, b, c, d, rfl⟩
section
variable {H : Type} {enc : TypeId × Value → H} {W : World} {sp : Nat → Bool} {held : Bool}
theorem cellsStep : Tryd.prog.cellsOf 42 = 4 := by kernel_rfl
theorem readBs (fuel : Nat) (cs : List Value) (x : DataW H × List MemPlace) (h : DataW.trod enc Tryd.prog W 0 sp held fuel 42 cs = some x) : ∃ s : { s : Bs // HOk s.t }, RepD (fun _ => False) W s.1.d cs := by
  obtain ⟨xs, n, rfl, _, hl, hlen, hf⟩ := DataW.trod_struct Tryd.underlying42 h
  rw [cellsStep] at hl
  obtain ⟨c0, c1, c2, c3, rfl⟩ := list4 hl
  have h0 := hf 0 _ rfl
  have h1 := hf 1 _ rfl
  have h2 := hf 2 _ rfl
  have e0 : xs[0]? = some (xs[0]'(by rw [hlen]; decide)) := List.getElem?_eq_getElem _
  have e1 : xs[1]? = some (xs[1]'(by rw [hlen]; decide)) := List.getElem?_eq_getElem _
  have e2 : xs[2]? = some (xs[2]'(by rw [hlen]; decide)) := List.getElem?_eq_getElem _
  rw [e0] at h0
  rw [e1] at h1
  rw [e2] at h2
  obtain ⟨v0, hv0, _⟩ := DataW.trod_int Tryd.underlying3 h0
  obtain ⟨t1, ht1⟩ := readTmH n _ _ h1
  obtain ⟨v2, hv2, _⟩ := DataW.trod_int Tryd.underlying3 h2
  replace hv0 : [c0, c1, c2, c3].take (Tryd.prog.cellsOf 3) = [.int .i64 v0] := hv0
  replace ht1 : RepD (fun _ => False) W t1.1.d ([c1, c2, c3].take (Tryd.prog.cellsOf 26)) := ht1
  replace hv2 : [c3].take (Tryd.prog.cellsOf 3) = [.int .i64 v2] := hv2
  rw [cellsInt] at hv0 hv2
  rw [cellsTerm] at ht1
  simp at hv0 ht1 hv2
  subst hv0 hv2
  obtain ⟨s1, hs1, hts1⟩ := repTm.1 ht1
  simp at hs1
  obtain ⟨rfl, rfl⟩ := hs1
  exact ⟨⟨⟨v0, t1.1, v2⟩, t1.2⟩, repBs.2 ⟨c2, rfl, hts1⟩⟩
theorem readStepsH (fuel : Nat) (s : Value) (x : DataW H × List MemPlace) (h : DataW.trod enc Tryd.prog W 0 sp held fuel 39 [s] = some x) : ∃ l : List Bs, (∀ x, x ∈ l → HOk x.t) ∧ Steps (fun _ => False) W s l := by
  obtain ⟨us, hus⟩ := read_slice Tryd.underlying39 cellsStep (by omega) (fun u : { s : Bs // HOk s.t } => u.1.d) h (fun m cs y _ hy => readBs m cs y hy)
  refine ⟨us.map (·.1), fun b hb => ?_, ?_⟩
  · obtain ⟨u, _, rfl⟩ := List.mem_map.1 hb
    exact u.2
  · rw [Steps, List.map_map]; exact hus
end
end Go.Proofs.YtefmgooceeigbaaDoor
