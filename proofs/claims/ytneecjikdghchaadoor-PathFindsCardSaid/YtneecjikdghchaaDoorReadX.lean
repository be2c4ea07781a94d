/- Scripts of the path index's law: in memory, and read. -/
import Derived.Test.YtneecjikdghchaaDoorRead
set_option linter.unusedSimpArgs false
set_option linter.unusedVariables false
namespace Go.Proofs.YtneecjikdghchaaDoor
section
open Go.RowKit Go.ChangeShapes Go.WideShapes Go.ChangeAt

mutual
def HOk : Tm → Prop
  | .node h l => (-9223372036854775808 ≤ h ∧ h ≤ 9223372036854775807) ∧ HOks l
def HOks : List Tm → Prop
  | [] => True
  | t :: ts => HOk t ∧ HOks ts
end
theorem hoks_map : ∀ us : List { t : Tm // HOk t }, HOks (us.map (·.1))
  | [] => by simp only [List.map_nil, HOks]
  | u :: us => by simp only [List.map_cons, HOks]; exact ⟨u.2, hoks_map us⟩
section
variable {H : Type} {enc : TypeId × Value → H} {W : World} {sp : Nat → Bool} {held : Bool}
theorem cellsTerm : Tryd.prog.cellsOf 24 = 2 := by kernel_rfl
theorem cellsInt : Tryd.prog.cellsOf 3 = 1 := by kernel_rfl
theorem cellsTerms : Tryd.prog.cellsOf 22 = 1 := by kernel_rfl
theorem wf_range {x : Int} (h : (Lit.int .i64 x).wf = true) : -9223372036854775808 ≤ x ∧ x ≤ 9223372036854775807 := by
  have e1 : IntKind.i64.min = -9223372036854775808 := by decide
  have e2 : IntKind.i64.max = 9223372036854775807 := by decide
  simp [Lit.wf, e1, e2] at h
  omega
theorem list2 {l : List Value} (h : l.length = 2) : ∃ a b, l = [a, b] := by
  match l, h with
  | [a, b], _ => exact ⟨a, b, rfl⟩
theorem readTmH : ∀ (fuel : Nat) (cs : List Value) (x : DataW H × List MemPlace), DataW.trod enc Tryd.prog W 0 sp held fuel 24 cs = some x → ∃ t : { t : Tm // HOk t }, RepD (fun _ => False) W t.1.d cs := by
  intro fuel
  induction fuel using Nat.strongRecOn with
  | ind fuel ih =>
    intro cs x h
    obtain ⟨xs, n, rfl, _, hl, hlen, hf⟩ := DataW.trod_struct Tryd.underlying24 h
    rw [cellsTerm] at hl
    obtain ⟨c0, c1, rfl⟩ := list2 hl
    have h0 := hf 0 _ rfl
    have h1 := hf 1 _ rfl
    have e0 : xs[0]? = some (xs[0]'(by rw [hlen]; decide)) := List.getElem?_eq_getElem _
    have e1 : xs[1]? = some (xs[1]'(by rw [hlen]; decide)) := List.getElem?_eq_getElem _
    rw [e0] at h0
    rw [e1] at h1
    obtain ⟨v, hv, _, hw⟩ := DataW.trod_int Tryd.underlying3 h0
    obtain ⟨us, hus⟩ := read_slice Tryd.underlying22 cellsTerm (by omega) (fun u : { t : Tm // HOk t } => u.1.d) h1 (fun m cs y hm hy => ih m (by omega) cs y hy)
    replace hv : [c0, c1].take (Tryd.prog.cellsOf 3) = [.int .i64 v] := hv
    replace hus : RepD (fun _ => False) W (.row 2 (us.map fun u => u.1.d)) ([c1].take (Tryd.prog.cellsOf 22)) := hus
    rw [cellsInt] at hv
    rw [cellsTerms] at hus
    simp at hv hus
    subst hv
    refine ⟨⟨.node v (us.map (·.1)), by simp only [HOk]; exact ⟨wf_range hw, hoks_map us⟩⟩, repTm.2 ⟨c1, rfl, ?_⟩⟩
    rw [Terms, Tm.ds_eq, Tm.args]
    exact hus
theorem readTermH (fuel : Nat) (h0 : Value) (s : Value) (x : DataW H × List MemPlace) (h : DataW.trod enc Tryd.prog W 0 sp held fuel 24 [h0, s] = some x) : ∃ t : Tm, HOk t ∧ h0 = .int .i64 t.h ∧ IsTm (fun _ => False) W t.h s t := by
  obtain ⟨t, ht⟩ := readTmH fuel _ _ h
  obtain ⟨s', hs, hts⟩ := repTm.1 ht
  simp at hs
  obtain ⟨rfl, rfl⟩ := hs
  exact ⟨t.1, t.2, rfl, rfl, hts⟩
theorem readTermsH (fuel : Nat) (s : Value) (x : DataW H × List MemPlace) (h : DataW.trod enc Tryd.prog W 0 sp held fuel 22 [s] = some x) : ∃ ts : List Tm, HOks ts ∧ Terms (fun _ => False) W s ts := by
  obtain ⟨us, hus⟩ := read_slice Tryd.underlying22 cellsTerm (by omega) (fun u : { t : Tm // HOk t } => u.1.d) h (fun m cs y _ hy => readTmH m cs y hy)
  refine ⟨us.map (·.1), hoks_map us, ?_⟩
  rw [Terms, Tm.ds_eq, List.map_map]
  exact hus
end
end
open Go.RowKit Go.ChangeShapes Go.WideShapes Go.ChangeAt

structure Bs where
  what : Int
  id : Int
  t : Tm
def Bs.d (s : Bs) : D := .agg [.lit (.int .i64 s.what), .lit (.int .i64 s.id), s.t.d]
theorem repBs {A : Nat → Prop} {w : World} {x : Bs} {cs : List Value} : RepD A w x.d cs ↔ ∃ v, cs = [.int .i64 x.what, .int .i64 x.id, .int .i64 x.t.h, v] ∧ Terms A w v x.t.args := by
  simp only [Bs.d, RepD, RepL]
  constructor
  · rintro ⟨c1, c2, rfl, rfl, c3, c4, rfl, rfl, c5, c6, rfl, h, rfl⟩
    obtain ⟨s, rfl, h9⟩ := repTm.1 h
    exact ⟨s, by simp, h9⟩
  · rintro ⟨v, rfl, h⟩
    exact ⟨[_], [_, _, _], rfl, rfl, [_], [_, _], rfl, rfl, [_, _], [], rfl, repTm.2 ⟨v, rfl, h⟩, rfl⟩
def Steps (A : Nat → Prop) (w : World) (s : Value) (l : List Bs) : Prop := RepD A w (.row 4 (l.map Bs.d)) [s]
theorem Steps.shape {A : Nat → Prop} {w : World} {s : Value} {ls : List Bs} (h : Steps A w s ls) : ∃ a c, s = .slice a ls.length c ∧ ls.length ≤ c ∧ ls.length ≤ 9223372036854775807 := by
  simp only [Steps, RepD] at h
  obtain ⟨a, n, c, h1, h2, h3, h4, h5⟩ := h
  simp only [List.length_map] at h2
  subst h2
  simp only [List.cons.injEq, and_true] at h1
  exact ⟨a, c, h1, h3, h4⟩
theorem Steps.get {A : Nat → Prop} {w : World} {a : Option Addr} {n c : Nat} {ls : List Bs} (h : Steps A w (.slice a n c) ls) (i : Nat) (hi : i < ls.length) :
    ∃ b off a1 c1, a = some ⟨b, off, none⟩ ∧ b < w.heap.size ∧ w.cell? ⟨b, off + i * 4, none⟩ = some (.int .i64 ls[i].what) ∧ w.cell? ⟨b, off + i * 4 + 1, none⟩ = some (.int .i64 ls[i].id) ∧ w.cell? ⟨b, off + i * 4 + 2, none⟩ = some (.int .i64 ls[i].t.h) ∧ w.cell? ⟨b, off + i * 4 + 3, none⟩ = some (.slice a1 ls[i].t.args.length c1) ∧ Terms A w (.slice a1 ls[i].t.args.length c1) ls[i].t.args := by
  simp only [Steps, RepD] at h
  obtain ⟨a, n, c, h1, h2, h3, h4, h5⟩ := h
  simp only [List.cons.injEq, and_true, Value.slice.injEq] at h1
  obtain ⟨rfl, rfl, rfl⟩ := h1
  simp only [List.length_map] at h2
  obtain ⟨b, off, ha, hs, hb, hr⟩ := h5 (by omega)
  obtain ⟨cs, e1, e2, e3⟩ := hr.at i (by simpa using hi)
  simp only [List.getElem_map] at e3
  obtain ⟨v, rfl, e4⟩ := repBs.1 e3
  obtain ⟨a1, c1, rfl, _⟩ := e4.shape
  exact ⟨b, off, a1, c1, ha, hs, e2 0 (by omega), e2 1 (by omega), e2 2 (by omega), e2 3 (by omega), e4⟩
theorem list4 {l : List Value} (h : l.length = 4) : ∃ a b c d, l = [a, b, c, d] := by
  match l, h with
  | [a, b, c, d], _ => exact ⟨a, b, c, d, rfl⟩
section
variable {H : Type} {enc : TypeId × Value → H} {W : World} {sp : Nat → Bool} {held : Bool}
theorem cellsStep : Tryd.prog.cellsOf 49 = 4 := by kernel_rfl
theorem readBs (fuel : Nat) (cs : List Value) (x : DataW H × List MemPlace) (h : DataW.trod enc Tryd.prog W 0 sp held fuel 49 cs = some x) : ∃ s : { s : Bs // -9223372036854775808 ≤ s.id ∧ s.id ≤ 9223372036854775807 }, RepD (fun _ => False) W s.1.d cs := by
  obtain ⟨xs, n, rfl, _, hl, hlen, hf⟩ := DataW.trod_struct Tryd.underlying49 h
  rw [cellsStep] at hl
  obtain ⟨c0, c1, c2, c3, rfl⟩ := list4 hl
  have h0 := hf 0 _ rfl
  have h1 := hf 1 _ rfl
  have h2 := hf 2 _ rfl
  have e0 : xs[0]? = some (xs[0]'(by rw [hlen]; decide)) := List.getElem?_eq_getElem _
  have e1 : xs[1]? = some (xs[1]'(by rw [hlen]; decide)) := List.getElem?_eq_getElem _
  have e2 : xs[2]? = some (xs[2]'(by rw [hlen]; decide)) := List.getElem?_eq_getElem _
  rw [e0] at h0
  rw [e1] at h1
  rw [e2] at h2
  obtain ⟨v0, hv0, _⟩ := DataW.trod_int Tryd.underlying3 h0
  obtain ⟨v1, hv1, _, hw1⟩ := DataW.trod_int Tryd.underlying3 h1
  obtain ⟨t2, ht2⟩ := readTmH n _ _ h2
  replace hv0 : [c0, c1, c2, c3].take (Tryd.prog.cellsOf 3) = [.int .i64 v0] := hv0
  replace hv1 : [c1, c2, c3].take (Tryd.prog.cellsOf 3) = [.int .i64 v1] := hv1
  replace ht2 : RepD (fun _ => False) W t2.1.d ([c2, c3].take (Tryd.prog.cellsOf 24)) := ht2
  rw [cellsInt] at hv0 hv1
  rw [cellsTerm] at ht2
  simp at hv0 ht2 hv1
  subst hv0 hv1
  obtain ⟨s1, hs1, hts1⟩ := repTm.1 ht2
  simp at hs1
  obtain ⟨rfl, rfl⟩ := hs1
  exact ⟨⟨⟨v0, v1, t2.1⟩, wf_range hw1⟩, repBs.2 ⟨c3, rfl, hts1⟩⟩
theorem readStepsH (fuel : Nat) (s : Value) (x : DataW H × List MemPlace) (h : DataW.trod enc Tryd.prog W 0 sp held fuel 43 [s] = some x) : ∃ l : List Bs, (∀ x, x ∈ l → -9223372036854775808 ≤ x.id ∧ x.id ≤ 9223372036854775807) ∧ Steps (fun _ => False) W s l := by
  obtain ⟨us, hus⟩ := read_slice Tryd.underlying43 cellsStep (by omega) (fun u : { s : Bs // -9223372036854775808 ≤ s.id ∧ s.id ≤ 9223372036854775807 } => u.1.d) h (fun m cs y _ hy => readBs m cs y hy)
  refine ⟨us.map (·.1), fun b hb => ?_, ?_⟩
  · obtain ⟨u, _, rfl⟩ := List.mem_map.1 hb
    exact u.2
  · rw [Steps, List.map_map]; exact hus
end
end Go.Proofs.YtneecjikdghchaaDoor
