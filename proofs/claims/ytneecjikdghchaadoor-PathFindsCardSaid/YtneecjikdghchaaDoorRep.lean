/- Plain data laid in memory: what a value's cells read as, and that it lives on while its own blocks do. Nothing of the program. -/
import Derived.WalkKit
set_option linter.unusedSimpArgs false
set_option linter.unusedVariables false
namespace Go.Proofs.YtneecjikdghchaaDoor
open Go.RowKit

/-- A fact put out of the walk's sight; '.out' gives it back. -/
theorem hide {p : Prop} (h : p) : Hid p := h

theorem add_plain (g j : Nat) : (⟨g, 0, none⟩ : Addr).add j = ⟨g, j, none⟩ := by unfold Addr.add; split <;> simp_all

theorem setCell_box {w : World} {b : Nat} {v : Value} {t : TypeId} (h : w.heap[b]? = some (.cells #[v] t (0, 0))) (u : Value) : (w.setCell ⟨b, 0, none⟩ u).heap[b]? = some (.cells #[u] t (0, 0)) := by
  simp [World.setCell, Array.getElem?_modify, h]

/-- Several new blocks. -/
def allocs (w : World) (os : List Obj) : World := os.foldl World.alloc w
theorem allocs_size (w : World) (os : List Obj) : (allocs w os).heap.size = w.heap.size + os.length := by
  induction os generalizing w with
  | nil => rfl
  | cons o os ih => have := ih (w.alloc o); simp only [allocs, List.foldl_cons, List.length_cons, World.size_alloc] at this ⊢; omega
theorem allocs_below (w : World) (os : List Obj) : Below w.heap.size w (allocs w os) := by
  induction os generalizing w with
  | nil => exact Below.refl _ _
  | cons o os ih =>
    have h1 : Below w.heap.size w (w.alloc o) := (Below.refl _ _).alloc (Nat.le_refl _) o
    exact h1.trans ((ih (w.alloc o)).mono (by simp))
theorem allocs_get (w : World) (os : List Obj) (i : Nat) (o : Obj) (h : os[i]? = some o) : (allocs w os).heap[w.heap.size + i]? = some o := by
  induction os generalizing w i with
  | nil => simp at h
  | cons o' os ih =>
    cases i with
    | zero =>
      simp only [List.getElem?_cons_zero, Option.some.injEq] at h
      subst h
      have h1 := allocs_below (w.alloc o') os
      have h2 := h1.block w.heap.size (by simp)
      refine h2.trans ?_
      show (w.heap.push o')[w.heap.size]? = some o'
      simp
    | succ i =>
      have := ih (w.alloc o') i (by simpa using h)
      simp only [World.size_alloc] at this
      have e : w.heap.size + (i + 1) = w.heap.size + 1 + i := by omega
      rw [e]; exact this

/-- Data as the walks tell it: one cell; parts behind one another; a slice whose elements take k cells. -/
inductive D where
  | lit (v : Value)
  | agg (ds : List D)
  | row (k : Nat) (ds : List D)

mutual
/-- The cells read as the datum; no block of it is one that A bars. -/
def RepD (A : Nat → Prop) (w : World) : D → List Value → Prop
  | .lit v, cs => cs = [v]
  | .agg ds, cs => RepL A w ds cs
  | .row k ds, cs => ∃ a n c, cs = [.slice a n c] ∧ n = ds.length ∧ n ≤ c ∧ n ≤ 9223372036854775807 ∧ (0 < n → ∃ b off, a = some ⟨b, off, none⟩ ∧ b < w.heap.size ∧ ¬ A b ∧ RepR A w b k off ds)
def RepL (A : Nat → Prop) (w : World) : List D → List Value → Prop
  | [], cs => cs = []
  | d :: ds, cs => ∃ c1 c2, cs = c1 ++ c2 ∧ RepD A w d c1 ∧ RepL A w ds c2
def RepR (A : Nat → Prop) (w : World) (b k : Nat) : Nat → List D → Prop
  | _, [] => True
  | off, d :: ds => (∃ cs, cs.length = k ∧ (∀ i, i < k → w.cell? ⟨b, off + i, none⟩ = cs[i]?) ∧ RepD A w d cs) ∧ RepR A w b k (off + k) ds
end

mutual
/-- A datum lives on where its blocks do, and reads apart from less. -/
theorem RepD.frame {A B : Nat → Prop} {w w' : World} (hw : ∀ b, ¬ A b → b < w.heap.size → w'.heap[b]? = w.heap[b]?) (hB : ∀ b, b < w.heap.size → B b → A b) :
    ∀ (d : D) (cs : List Value), RepD A w d cs → RepD B w' d cs
  | .lit v, cs, h => by simpa only [RepD] using h
  | .agg ds, cs, h => by simp only [RepD] at h ⊢; exact RepL.frame hw hB ds cs h
  | .row k ds, cs, h => by
    simp only [RepD] at h ⊢
    obtain ⟨a, n, c, h1, h2, h3, h4, h5⟩ := h
    refine ⟨a, n, c, h1, h2, h3, h4, fun hn => ?_⟩
    obtain ⟨b, off, ha, hs, hb, hr⟩ := h5 hn
    have hs' : b < w'.heap.size := by
      have e := hw b hb hs
      rw [Array.getElem?_eq_getElem hs] at e
      exact (Array.getElem?_eq_some_iff.1 e).1
    exact ⟨b, off, ha, hs', fun hbb => hb (hB b hs hbb), RepR.frame hw hB b k (hw b hb hs) ds off hr⟩
theorem RepL.frame {A B : Nat → Prop} {w w' : World} (hw : ∀ b, ¬ A b → b < w.heap.size → w'.heap[b]? = w.heap[b]?) (hB : ∀ b, b < w.heap.size → B b → A b) :
    ∀ (ds : List D) (cs : List Value), RepL A w ds cs → RepL B w' ds cs
  | [], cs, h => by simpa only [RepL] using h
  | d :: ds, cs, h => by
    simp only [RepL] at h ⊢
    obtain ⟨c1, c2, h1, h2, h3⟩ := h
    exact ⟨c1, c2, h1, RepD.frame hw hB d c1 h2, RepL.frame hw hB ds c2 h3⟩
theorem RepR.frame {A B : Nat → Prop} {w w' : World} (hw : ∀ b, ¬ A b → b < w.heap.size → w'.heap[b]? = w.heap[b]?) (hB : ∀ b, b < w.heap.size → B b → A b) (b k : Nat) (hb : w'.heap[b]? = w.heap[b]?) :
    ∀ (ds : List D) (off : Nat), RepR A w b k off ds → RepR B w' b k off ds
  | [], off, h => by simp only [RepR]
  | d :: ds, off, h => by
    simp only [RepR] at h ⊢
    obtain ⟨⟨cs, h1, h2, h3⟩, h4⟩ := h
    exact ⟨⟨cs, h1, fun i hi => (World.cell?_of_block (a := ⟨b, off + i, none⟩) hb).trans (h2 i hi), RepD.frame hw hB d cs h3⟩, RepR.frame hw hB b k hb ds _ h4⟩
end

/-- What was there stays: the datum does. -/
theorem RepD.below {A : Nat → Prop} {w w' : World} {d : D} {cs : List Value} (h : RepD A w d cs) (hb : Below w.heap.size w w') : RepD A w' d cs :=
  h.frame (fun b _ hlt => hb.block b hlt) (fun _ _ h => h)
theorem RepD.alloc {A : Nat → Prop} {w : World} {d : D} {cs : List Value} (h : RepD A w d cs) (o : Obj) : RepD A (w.alloc o) d cs :=
  h.below ((Below.refl _ _).alloc (Nat.le_refl _) o)
theorem RepD.drew {A : Nat → Prop} {w : World} {d : D} {cs : List Value} (h : RepD A w d cs) : RepD A w.drew d cs := h.below (Below.refl _ _).drew
theorem RepD.setCell {A : Nat → Prop} {w : World} {d : D} {cs : List Value} (h : RepD A w d cs) {p : Addr} (hp : A p.block) (v : Value) : RepD A (w.setCell p v) d cs :=
  h.frame (fun b hb _ => Below.heap_setCell w p v b (fun e => hb (e ▸ hp))) (fun _ _ h => h)
/-- A new block is no part of what was there. -/
theorem RepD.bar {A B : Nat → Prop} {w : World} {d : D} {cs : List Value} (h : RepD A w d cs) (hB : ∀ b, b < w.heap.size → B b → A b) : RepD B w d cs :=
  h.frame (fun _ _ _ => rfl) hB

/-- Element i of a row in memory. -/
theorem RepR.at {A : Nat → Prop} {w : World} {b k : Nat} : ∀ {ds : List D} {off : Nat}, RepR A w b k off ds → ∀ i (hi : i < ds.length),
    ∃ cs, cs.length = k ∧ (∀ j, j < k → w.cell? ⟨b, off + i * k + j, none⟩ = cs[j]?) ∧ RepD A w ds[i] cs
  | [], off, _, i, hi => absurd hi (by simp)
  | d :: ds, off, h, 0, hi => by
    simp only [RepR] at h
    simpa using h.1
  | d :: ds, off, h, i + 1, hi => by
    simp only [RepR] at h
    have := RepR.at h.2 i (by simpa using hi)
    simpa [Nat.succ_mul, Nat.add_assoc, Nat.add_comm, Nat.add_left_comm] using this

/-! ### Terms -/
inductive Tm where
  | node (h : Int) (args : List Tm)
def Tm.h : Tm → Int | .node h _ => h
def Tm.args : Tm → List Tm | .node _ l => l
mutual
def Tm.d : Tm → D
  | .node h l => .agg [.lit (.int .i64 h), .row 2 (Tm.ds l)]
def Tm.ds : List Tm → List D
  | [] => []
  | t :: ts => Tm.d t :: Tm.ds ts
end
theorem Tm.ds_eq (l : List Tm) : Tm.ds l = l.map Tm.d := by induction l <;> simp_all [Tm.ds]
/-- The slice holds the terms. -/
def Terms (A : Nat → Prop) (w : World) (s : Value) (ts : List Tm) : Prop := RepD A w (.row 2 (Tm.ds ts)) [s]
/-- A term's value: its head, and the slice of its arguments. -/
def IsTm (A : Nat → Prop) (w : World) (h : Int) (s : Value) (t : Tm) : Prop := h = t.h ∧ Terms A w s t.args
theorem repTm {A : Nat → Prop} {w : World} {t : Tm} {cs : List Value} : RepD A w t.d cs ↔ ∃ s, cs = [.int .i64 t.h, s] ∧ Terms A w s t.args := by
  cases t with
  | node h l =>
    simp only [Tm.d, RepD, RepL, Tm.h, Tm.args, Terms]
    constructor
    · rintro ⟨c1, c2, rfl, rfl, c3, c4, rfl, ⟨a, n, c, rfl, h2⟩, rfl⟩
      exact ⟨.slice a n c, by simp, a, n, c, rfl, h2⟩
    · rintro ⟨s, rfl, a, n, c, h1, h2⟩
      exact ⟨_, _, rfl, rfl, [s], [], by simp, ⟨a, n, c, h1, h2⟩, rfl⟩
theorem Terms.shape {A : Nat → Prop} {w : World} {s : Value} {ts : List Tm} (h : Terms A w s ts) : ∃ a c, s = .slice a ts.length c ∧ ts.length ≤ c ∧ ts.length ≤ 9223372036854775807 := by
  simp only [Terms, RepD, Tm.ds_eq] at h
  obtain ⟨a, n, c, h1, h2, h3, h4, h5⟩ := h
  simp only [List.length_map] at h2
  subst h2
  simp only [List.cons.injEq, and_true] at h1
  exact ⟨a, c, h1, h3, h4⟩
/-- How a slice of terms is read: its elements' cells. -/
theorem Terms.get {A : Nat → Prop} {w : World} {a : Option Addr} {n c : Nat} {ts : List Tm} (h : Terms A w (.slice a n c) ts) (i : Nat) (hi : i < ts.length) :
    ∃ b off a' c', a = some ⟨b, off, none⟩ ∧ b < w.heap.size ∧ ¬ A b ∧ w.cell? ⟨b, off + i * 2, none⟩ = some (.int .i64 ts[i].h) ∧ w.cell? ⟨b, off + i * 2 + 1, none⟩ = some (.slice a' ts[i].args.length c') ∧ Terms A w (.slice a' ts[i].args.length c') ts[i].args := by
  simp only [Terms, RepD, Tm.ds_eq] at h
  obtain ⟨a, n, c, h1, h2, h3, h4, h5⟩ := h
  simp only [List.cons.injEq, and_true, Value.slice.injEq] at h1
  obtain ⟨rfl, rfl, rfl⟩ := h1
  simp only [List.length_map] at h2
  obtain ⟨b, off, ha, hs, hb, hr⟩ := h5 (by omega)
  obtain ⟨cs, e1, e2, e3⟩ := hr.at i (by simpa using hi)
  simp only [List.getElem_map] at e3
  obtain ⟨s', rfl, e4⟩ := repTm.1 e3
  obtain ⟨a', c', rfl, _⟩ := e4.shape
  exact ⟨b, off, a', c', ha, hs, hb, by simpa using e2 0 (by omega), by simpa using e2 1 (by omega), e4⟩
theorem IsTm.shape {A : Nat → Prop} {w : World} {h : Int} {s : Value} {t : Tm} (ht : IsTm A w h s t) : h = t.h ∧ ∃ a c, s = .slice a t.args.length c ∧ t.args.length ≤ c ∧ t.args.length ≤ 9223372036854775807 := ⟨ht.1, ht.2.shape⟩
theorem Terms.below {A : Nat → Prop} {w w' : World} {s : Value} {ts : List Tm} (h : Terms A w s ts) (hb : Below w.heap.size w w') : Terms A w' s ts := RepD.below h hb
theorem IsTm.below {A : Nat → Prop} {w w' : World} {h : Int} {s : Value} {t : Tm} (ht : IsTm A w h s t) (hb : Below w.heap.size w w') : IsTm A w' h s t := ⟨ht.1, ht.2.below hb⟩

/-- The elements of a slice of terms, as their cells stand. -/
theorem Terms.raws {A : Nat → Prop} {w : World} {a : Option Addr} {n c : Nat} {ts : List Tm} (h : Terms A w (.slice a n c) ts) :
    ∃ rs : List (Int × Value), rs.length = ts.length ∧ n = ts.length ∧ ∀ i (hi : i < rs.length) (hi' : i < ts.length), rs[i].1 = ts[i].h ∧ Terms A w rs[i].2 ts[i].args ∧ (∃ a' n' c', rs[i].2 = .slice a' n' c') ∧
      ∃ b off, a = some ⟨b, off, none⟩ ∧ b < w.heap.size ∧ ¬ A b ∧ w.cell? ⟨b, off + i * 2, none⟩ = some (.int .i64 rs[i].1) ∧ w.cell? ⟨b, off + i * 2 + 1, none⟩ = some rs[i].2 := by
  have hn : n = ts.length := by obtain ⟨_, _, e, _⟩ := h.shape; cases e; rfl
  have hx : ∀ i : Fin ts.length, ∃ r : Int × Value, r.1 = ts[i].h ∧ Terms A w r.2 ts[i].args ∧ (∃ a' n' c', r.2 = .slice a' n' c') ∧
      ∃ b off, a = some ⟨b, off, none⟩ ∧ b < w.heap.size ∧ ¬ A b ∧ w.cell? ⟨b, off + i * 2, none⟩ = some (.int .i64 r.1) ∧ w.cell? ⟨b, off + i * 2 + 1, none⟩ = some r.2 := by
    intro i
    obtain ⟨b, off, a', c', h1, h2, h3, h4, h5, h6⟩ := h.get i i.2
    exact ⟨(_, _), rfl, h6, ⟨_, _, _, rfl⟩, b, off, h1, h2, h3, h4, h5⟩
  refine ⟨List.ofFn fun i => Classical.choose (hx i), by simp, hn, fun i hi hi' => ?_⟩
  simp only [List.getElem_ofFn]
  exact Classical.choose_spec (hx ⟨i, hi'⟩)

mutual
def Tm.size : Tm → Nat
  | .node _ l => 1 + Tm.sizes l
def Tm.sizes : List Tm → Nat
  | [] => 0
  | t :: ts => t.size + Tm.sizes ts
end
theorem Tm.sizes_append (a b : List Tm) : Tm.sizes (a ++ b) = Tm.sizes a + Tm.sizes b := by
  induction a with
  | nil => simp [Tm.sizes]
  | cons t ts ih => simp [Tm.sizes, ih]; omega
theorem Tm.sizes_take (l : List Tm) (k : Nat) (h : k < l.length) : Tm.sizes (l.take (k + 1)) = Tm.sizes (l.take k) + (l[k]).size := by
  rw [List.take_succ_eq_append_getElem h, Tm.sizes_append]; simp [Tm.sizes]
theorem Tm.sizes_take_le (l : List Tm) (k : Nat) : Tm.sizes (l.take k) ≤ Tm.sizes l := by
  conv => rhs; rw [← List.take_append_drop k l, Tm.sizes_append]
  omega
theorem Tm.size_eq (t : Tm) : t.size = 1 + Tm.sizes t.args := by cases t; simp [Tm.size, Tm.args]
theorem Tm.sizes_length (l : List Tm) : l.length ≤ Tm.sizes l := by
  induction l with
  | nil => simp
  | cons t ts ih => have := t.size_eq; simp [Tm.sizes]; omega
theorem Tm.size_get (l : List Tm) (k : Nat) (h : k < l.length) : (l[k]).size ≤ Tm.sizes l := by
  have := Tm.sizes_take l k h
  have := Tm.sizes_take_le l (k + 1)
  omega


theorem more_below {w w1 w2 : World} (h : Below w.heap.size w w1) (hb : Below w1.heap.size w1 w2) : Below w.heap.size w w2 := h.trans (hb.mono h.size)
theorem ret_int {k : IntKind} {a b : Int} (h : a = b) : Ending.returned (.int k a) = .returned (.int k b) := by rw [h]
theorem ret_bool {a b : Bool} (h : a = b) : Ending.returned (.bool a) = .returned (.bool b) := by rw [h]
/-- A row's element, in a later world. -/
theorem Terms.getW {A : Nat → Prop} {w w' : World} {a : Option Addr} {n c : Nat} {ts : List Tm} (h : Terms A w (.slice a n c) ts) (hb : Below w.heap.size w w') (i : Nat) (hi : i < ts.length) :
    ∃ b off a' c', a = some ⟨b, off, none⟩ ∧ w'.cell? ⟨b, off + i * 2, none⟩ = some (.int .i64 ts[i].h) ∧ w'.cell? ⟨b, off + i * 2 + 1, none⟩ = some (.slice a' ts[i].args.length c') ∧ IsTm A w' ts[i].h (.slice a' ts[i].args.length c') ts[i] := by
  obtain ⟨b, off, a', c', h1, h2, h3, h4, h5, h6⟩ := h.get i hi
  exact ⟨b, off, a', c', h1, (hb.cell (p := ⟨b, off + i * 2, none⟩) h2).trans h4, (hb.cell (p := ⟨b, off + i * 2 + 1, none⟩) h2).trans h5, rfl, h6.below hb⟩
end Go.Proofs.YtneecjikdghchaaDoor
