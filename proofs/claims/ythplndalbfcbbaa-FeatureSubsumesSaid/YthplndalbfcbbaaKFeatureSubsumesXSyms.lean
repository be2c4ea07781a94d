/- What the proof of the law rests on: contracts of the functions, plain laws, and words. -/
import Derived.Test.YthplndalbfcbbaaKFeatureSubsumesG4
set_option linter.unusedSimpArgs false
set_option linter.unusedVariables false
namespace Go.Proofs.Ythplndalbfcbbaa
open Go.RowKit
structure Sy where
  name : ByteArray
  ar : Int
  wt : Int
  tr : Bool
def Sy.d (s : Sy) : D := .agg [.lit (.string s.name), .lit (.int .i64 s.ar), .lit (.int .i64 s.wt), .lit (.bool s.tr)]
def Sy.cells (s : Sy) : List Value := [.string s.name, .int .i64 s.ar, .int .i64 s.wt, .bool s.tr]
theorem repSy {A : Nat → Prop} {w : World} {s : Sy} {cs : List Value} : RepD A w s.d cs ↔ cs = s.cells := by
  simp only [Sy.d, RepD, RepL, Sy.cells]
  constructor
  · rintro ⟨c1, c2, rfl, rfl, c3, c4, rfl, rfl, c5, c6, rfl, rfl, c7, c8, rfl, rfl, rfl⟩; rfl
  · rintro rfl
    exact ⟨[_], _, rfl, rfl, [_], _, rfl, rfl, [_], _, rfl, rfl, [_], [], rfl, rfl, rfl⟩
def Syms (A : Nat → Prop) (w : World) (s : Value) (gs : List Sy) : Prop := RepD A w (.row 4 (gs.map Sy.d)) [s]
theorem Syms.shape {A : Nat → Prop} {w : World} {s : Value} {gs : List Sy} (h : Syms A w s gs) : ∃ a c, s = .slice a gs.length c ∧ gs.length ≤ c ∧ gs.length ≤ 9223372036854775807 := by
  simp only [Syms, RepD] at h
  obtain ⟨a, n, c, h1, h2, h3, h4, h5⟩ := h
  simp only [List.length_map] at h2
  subst h2
  simp only [List.cons.injEq, and_true] at h1
  exact ⟨a, c, h1, h3, h4⟩
theorem Syms.get {A : Nat → Prop} {w : World} {a : Option Addr} {n c : Nat} {gs : List Sy} (h : Syms A w (.slice a n c) gs) (i : Nat) (hi : i < gs.length) :
    ∃ b off, a = some ⟨b, off, none⟩ ∧ b < w.heap.size ∧ ¬ A b ∧ w.cell? ⟨b, off + i * 4, none⟩ = some (.string gs[i].name) ∧ w.cell? ⟨b, off + i * 4 + 1, none⟩ = some (.int .i64 gs[i].ar) ∧ w.cell? ⟨b, off + i * 4 + 2, none⟩ = some (.int .i64 gs[i].wt) ∧ w.cell? ⟨b, off + i * 4 + 3, none⟩ = some (.bool gs[i].tr) := by
  simp only [Syms, RepD] at h
  obtain ⟨a, n, c, h1, h2, h3, h4, h5⟩ := h
  simp only [List.cons.injEq, and_true, Value.slice.injEq] at h1
  obtain ⟨rfl, rfl, rfl⟩ := h1
  simp only [List.length_map] at h2
  obtain ⟨b, off, ha, hs, hb, hr⟩ := h5 (by omega)
  obtain ⟨cs, e1, e2, e3⟩ := hr.at i (by simpa using hi)
  simp only [List.getElem_map] at e3
  rw [repSy] at e3
  subst e3
  exact ⟨b, off, ha, hs, hb, by simpa [Sy.cells] using e2 0 (by omega), by simpa [Sy.cells] using e2 1 (by omega), by simpa [Sy.cells] using e2 2 (by omega), by simpa [Sy.cells] using e2 3 (by omega)⟩
theorem Syms.getW {A : Nat → Prop} {w w' : World} {a : Option Addr} {n c : Nat} {gs : List Sy} (h : Syms A w (.slice a n c) gs) (hb : Below w.heap.size w w') (i : Nat) (hi : i < gs.length) :
    ∃ b off, a = some ⟨b, off, none⟩ ∧ w'.cell? ⟨b, off + i * 4, none⟩ = some (.string gs[i].name) ∧ w'.cell? ⟨b, off + i * 4 + 1, none⟩ = some (.int .i64 gs[i].ar) ∧ w'.cell? ⟨b, off + i * 4 + 2, none⟩ = some (.int .i64 gs[i].wt) ∧ w'.cell? ⟨b, off + i * 4 + 3, none⟩ = some (.bool gs[i].tr) := by
  obtain ⟨b, off, h1, h2, -, h4, h5, h6, h7⟩ := h.get i hi
  exact ⟨b, off, h1, (hb.cell (p := ⟨b, off + i * 4, none⟩) h2).trans h4, (hb.cell (p := ⟨b, off + i * 4 + 1, none⟩) h2).trans h5, (hb.cell (p := ⟨b, off + i * 4 + 2, none⟩) h2).trans h6, (hb.cell (p := ⟨b, off + i * 4 + 3, none⟩) h2).trans h7⟩
theorem Syms.below {A : Nat → Prop} {w w' : World} {s : Value} {gs : List Sy} (h : Syms A w s gs) (hb : Below w.heap.size w w') : Syms A w' s gs := RepD.below h hb
theorem RepR.take {A : Nat → Prop} {w : World} {b k : Nat} : ∀ (n : Nat) {ds : List D} {off : Nat}, RepR A w b k off ds → RepR A w b k off (ds.take n)
  | 0, _, _, _ => by simp only [List.take_zero, RepR]
  | n + 1, [], _, _ => by simp only [List.take_nil, RepR]
  | n + 1, d :: ds, off, h => by
    simp only [List.take_succ_cons, RepR] at h ⊢
    exact ⟨h.1, h.2.take n⟩
theorem Syms.take {A : Nat → Prop} {w : World} {a : Option Addr} {n c : Nat} {gs : List Sy} (h : Syms A w (.slice a n c) gs) (k : Nat) (hk : k ≤ gs.length) : Syms A w (.slice a k c) (gs.take k) := by
  simp only [Syms, RepD] at h ⊢
  obtain ⟨a, n, c, h1, h2, h3, h4, h5⟩ := h
  simp only [List.cons.injEq, and_true, Value.slice.injEq] at h1
  obtain ⟨rfl, rfl, rfl⟩ := h1
  simp only [List.length_map] at h2
  refine ⟨_, k, _, rfl, by simp; omega, by omega, by omega, fun h0 => ?_⟩
  obtain ⟨b, off, e1, e2, e3, e4⟩ := h5 (by omega)
  exact ⟨b, off, e1, e2, e3, by rw [List.map_take]; exact e4.take k⟩
structure Lt where
  neg : Bool
  l : Tm
  r : Tm
def Lt.d (x : Lt) : D := .agg [.lit (.bool x.neg), x.l.d, x.r.d]
theorem repLt {A : Nat → Prop} {w : World} {x : Lt} {cs : List Value} : RepD A w x.d cs ↔ ∃ s1 s2, cs = [.bool x.neg, .int .i64 x.l.h, s1, .int .i64 x.r.h, s2] ∧ Terms A w s1 x.l.args ∧ Terms A w s2 x.r.args := by
  simp only [Lt.d, RepD, RepL]
  constructor
  · rintro ⟨c1, c2, rfl, rfl, c3, c4, rfl, h, c5, c6, rfl, h', rfl⟩
    obtain ⟨s, rfl, h9⟩ := repTm.1 h
    obtain ⟨s', rfl, h8⟩ := repTm.1 h'
    exact ⟨s, s', by simp, h9, h8⟩
  · rintro ⟨s, s', rfl, h, h'⟩
    exact ⟨[_], [_, _, _, _], rfl, rfl, [_, _], [_, _], rfl, repTm.2 ⟨s, rfl, h⟩, [_, _], [], rfl, repTm.2 ⟨s', rfl, h'⟩, rfl⟩
def Lits (A : Nat → Prop) (w : World) (s : Value) (ls : List Lt) : Prop := RepD A w (.row 5 (ls.map Lt.d)) [s]
theorem Lits.shape {A : Nat → Prop} {w : World} {s : Value} {ls : List Lt} (h : Lits A w s ls) : ∃ a c, s = .slice a ls.length c ∧ ls.length ≤ c ∧ ls.length ≤ 9223372036854775807 := by
  simp only [Lits, RepD] at h
  obtain ⟨a, n, c, h1, h2, h3, h4, h5⟩ := h
  simp only [List.length_map] at h2
  subst h2
  simp only [List.cons.injEq, and_true] at h1
  exact ⟨a, c, h1, h3, h4⟩
theorem Lits.get {A : Nat → Prop} {w : World} {a : Option Addr} {n c : Nat} {ls : List Lt} (h : Lits A w (.slice a n c) ls) (i : Nat) (hi : i < ls.length) :
    ∃ b off a1 c1 a2 c2, a = some ⟨b, off, none⟩ ∧ b < w.heap.size ∧ ¬ A b ∧ w.cell? ⟨b, off + i * 5, none⟩ = some (.bool ls[i].neg) ∧ w.cell? ⟨b, off + i * 5 + 1, none⟩ = some (.int .i64 ls[i].l.h) ∧ w.cell? ⟨b, off + i * 5 + 2, none⟩ = some (.slice a1 ls[i].l.args.length c1) ∧
      w.cell? ⟨b, off + i * 5 + 3, none⟩ = some (.int .i64 ls[i].r.h) ∧ w.cell? ⟨b, off + i * 5 + 4, none⟩ = some (.slice a2 ls[i].r.args.length c2) ∧ Terms A w (.slice a1 ls[i].l.args.length c1) ls[i].l.args ∧ Terms A w (.slice a2 ls[i].r.args.length c2) ls[i].r.args := by
  simp only [Lits, RepD] at h
  obtain ⟨a, n, c, h1, h2, h3, h4, h5⟩ := h
  simp only [List.cons.injEq, and_true, Value.slice.injEq] at h1
  obtain ⟨rfl, rfl, rfl⟩ := h1
  simp only [List.length_map] at h2
  obtain ⟨b, off, ha, hs, hb, hr⟩ := h5 (by omega)
  obtain ⟨cs, e1, e2, e3⟩ := hr.at i (by simpa using hi)
  simp only [List.getElem_map] at e3
  obtain ⟨s1, s2, rfl, e4, e5⟩ := repLt.1 e3
  obtain ⟨a1, c1, rfl, _⟩ := e4.shape
  obtain ⟨a2, c2, rfl, _⟩ := e5.shape
  exact ⟨b, off, a1, c1, a2, c2, ha, hs, hb, by simpa using e2 0 (by omega), by simpa using e2 1 (by omega), by simpa using e2 2 (by omega), by simpa using e2 3 (by omega), by simpa using e2 4 (by omega), e4, e5⟩
theorem Lits.getW {A : Nat → Prop} {w w' : World} {a : Option Addr} {n c : Nat} {ls : List Lt} (h : Lits A w (.slice a n c) ls) (hb : Below w.heap.size w w') (i : Nat) (hi : i < ls.length) :
    ∃ b off a1 c1 a2 c2, a = some ⟨b, off, none⟩ ∧ w'.cell? ⟨b, off + i * 5, none⟩ = some (.bool ls[i].neg) ∧ w'.cell? ⟨b, off + i * 5 + 1, none⟩ = some (.int .i64 ls[i].l.h) ∧ w'.cell? ⟨b, off + i * 5 + 2, none⟩ = some (.slice a1 ls[i].l.args.length c1) ∧
      w'.cell? ⟨b, off + i * 5 + 3, none⟩ = some (.int .i64 ls[i].r.h) ∧ w'.cell? ⟨b, off + i * 5 + 4, none⟩ = some (.slice a2 ls[i].r.args.length c2) ∧ IsTm A w' ls[i].l.h (.slice a1 ls[i].l.args.length c1) ls[i].l ∧ IsTm A w' ls[i].r.h (.slice a2 ls[i].r.args.length c2) ls[i].r := by
  obtain ⟨b, off, a1, c1, a2, c2, h1, h2, h3, h4, h5, h6, h7, h8, h9, h10⟩ := h.get i hi
  exact ⟨b, off, a1, c1, a2, c2, h1, (hb.cell (p := ⟨b, off + i * 5, none⟩) h2).trans h4, (hb.cell (p := ⟨b, off + i * 5 + 1, none⟩) h2).trans h5, (hb.cell (p := ⟨b, off + i * 5 + 2, none⟩) h2).trans h6, (hb.cell (p := ⟨b, off + i * 5 + 3, none⟩) h2).trans h7, (hb.cell (p := ⟨b, off + i * 5 + 4, none⟩) h2).trans h8, ⟨rfl, h9.below hb⟩, ⟨rfl, h10.below hb⟩⟩
theorem Lits.below {A : Nat → Prop} {w w' : World} {s : Value} {ls : List Lt} (h : Lits A w s ls) (hb : Below w.heap.size w w') : Lits A w' s ls := RepD.below h hb
theorem box4 {w : World} {b : Nat} {x y z u : Value} {t : TypeId} (h : w.heap[b]? = some (.cells #[x, y, z, u] t (0, 0))) :
    w.cell? ⟨b, 0, none⟩ = some x ∧ w.cell? ⟨b, 1, none⟩ = some y ∧ w.cell? ⟨b, 2, none⟩ = some z ∧ w.cell? ⟨b, 3, none⟩ = some u :=
  ⟨by simp [World.cell?, h], by simp [World.cell?, h], by simp [World.cell?, h], by simp [World.cell?, h]⟩
theorem box5 {w : World} {b : Nat} {x y z u v : Value} {t : TypeId} (h : w.heap[b]? = some (.cells #[x, y, z, u, v] t (0, 0))) :
    w.cell? ⟨b, 0, none⟩ = some x ∧ w.cell? ⟨b, 1, none⟩ = some y ∧ w.cell? ⟨b, 2, none⟩ = some z ∧ w.cell? ⟨b, 3, none⟩ = some u ∧ w.cell? ⟨b, 4, none⟩ = some v :=
  ⟨by simp [World.cell?, h], by simp [World.cell?, h], by simp [World.cell?, h], by simp [World.cell?, h], by simp [World.cell?, h]⟩
set_option maxHeartbeats 1000000 in
theorem wcheck1_calls (x y : Sy) (xb : Nat) (w : World) (hx : w.cell? ⟨xb, 0, none⟩ = some (.string x.name)) (hlt : xb < w.heap.size) :
    Calls Try.prog 162 #[.agg #[.string y.name, .int .i64 y.ar, .int .i64 y.wt, .bool y.tr], .pointer (some ⟨xb, 0, none⟩)] w fun e w' => e = .returned (.bool (y.name.toList == x.name.toList)) ∧ Below w.heap.size w w' := by
  have B0 : Below w.heap.size w (w.alloc (.cells #[.string y.name, .int .i64 y.ar, .int .i64 y.wt, .bool y.tr] 148)) := (Below.refl _ _).alloc (Nat.le_refl _) _
  have hx1 := (B0.cell (p := ⟨xb, 0, none⟩) hlt).trans hx
  go_enter Try.func162, Try.ntmps162
  go_wp2
  go_ret
  exact ⟨rfl, B0⟩
end Go.Proofs.Ythplndalbfcbbaa
