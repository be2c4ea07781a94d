/- What the proof of the law rests on: contracts of the functions, plain laws, and words. -/
import Derived.WalkKit
import Derived.RangeFuncNested
import Derived.RangeFuncCalls
import Derived.Maps.OwnIn
import Derived.Maps.AppendAt
import Derived.Deep.AppendLies
import Derived.Shelf.Abstract
import Derived.Shelf.RegionOpen
import Derived.OwnWalkIn
import Derived.TacticsInMore
import Derived.LoopNIn
import Derived.LoopIn
import Derived.Test.YthplndalbfcbbaaProg
import Derived.OrdersHeld
import Derived.RegionTactic
import Derived.Maps.OwnSet
set_option linter.unusedSimpArgs false
set_option linter.unusedVariables false
namespace Go.Proofs.Ythplndalbfcbbaa
open Go.RowKit
theorem hide {p : Prop} (h : p) : Hid p := h
theorem add_plain (g j : Nat) : (⟨g, 0, none⟩ : Addr).add j = ⟨g, j, none⟩ := by unfold Addr.add; split <;> simp_all
theorem setCell_box {w : World} {b : Nat} {v : Value} {t : TypeId} (h : w.heap[b]? = some (.cells #[v] t (0, 0))) (u : Value) : (w.setCell ⟨b, 0, none⟩ u).heap[b]? = some (.cells #[u] t (0, 0)) := by
  simp [World.setCell, Array.getElem?_modify, h]
def allocs (w : World) (os : List Obj) : World := os.foldl World.alloc w
theorem allocs_size (w : World) (os : List Obj) : (allocs w os).heap.size = w.heap.size + os.length := by
  induction os generalizing w with
  | nil => rfl
  | cons o os ih => have := ih (w.alloc o); simp only [allocs, List.foldl_cons, List.length_cons, World.size_alloc] at this ⊢; omega
theorem allocs_below (w : World) (os : List Obj) : Below w.heap.size w (allocs w os) := by
  induction os generalizing w with
  | nil => exact Below.refl _ _
  | cons o os ih =>
    have h1 : Below w.heap.size w (w.alloc o) := (Below.refl _ _).alloc (Nat.le_refl _) o
    exact h1.trans ((ih (w.alloc o)).mono (by simp))
theorem allocs_get (w : World) (os : List Obj) (i : Nat) (o : Obj) (h : os[i]? = some o) : (allocs w os).heap[w.heap.size + i]? = some o := by
  induction os generalizing w i with
  | nil => simp at h
  | cons o' os ih =>
    cases i with
    | zero =>
      simp only [List.getElem?_cons_zero, Option.some.injEq] at h
      subst h
      have h1 := allocs_below (w.alloc o') os
      have h2 := h1.block w.heap.size (by simp)
      refine h2.trans ?_
      show (w.heap.push o')[w.heap.size]? = some o'
      simp
    | succ i =>
      have := ih (w.alloc o') i (by simpa using h)
      simp only [World.size_alloc] at this
      have e : w.heap.size + (i + 1) = w.heap.size + 1 + i := by omega
      rw [e]; exact this
inductive D where
  | lit (v : Value)
  | agg (ds : List D)
  | row (k : Nat) (ds : List D)
mutual
/-- The cells read as the datum; no block of it is one that A bars. -/
def RepD (A : Nat → Prop) (w : World) : D → List Value → Prop
  | .lit v, cs => cs = [v]
  | .agg ds, cs => RepL A w ds cs
  | .row k ds, cs => ∃ a n c, cs = [.slice a n c] ∧ n = ds.length ∧ n ≤ c ∧ n ≤ 9223372036854775807 ∧ (0 < n → ∃ b off, a = some ⟨b, off, none⟩ ∧ b < w.heap.size ∧ ¬ A b ∧ RepR A w b k off ds)
def RepL (A : Nat → Prop) (w : World) : List D → List Value → Prop
  | [], cs => cs = []
  | d :: ds, cs => ∃ c1 c2, cs = c1 ++ c2 ∧ RepD A w d c1 ∧ RepL A w ds c2
def RepR (A : Nat → Prop) (w : World) (b k : Nat) : Nat → List D → Prop
  | _, [] => True
  | off, d :: ds => (∃ cs, cs.length = k ∧ (∀ i, i < k → w.cell? ⟨b, off + i, none⟩ = cs[i]?) ∧ RepD A w d cs) ∧ RepR A w b k (off + k) ds
end
mutual
/-- A datum lives on where its blocks do, and reads apart from less. -/
theorem RepD.frame {A B : Nat → Prop} {w w' : World} (hw : ∀ b, ¬ A b → b < w.heap.size → w'.heap[b]? = w.heap[b]?) (hB : ∀ b, b < w.heap.size → B b → A b) :
    ∀ (d : D) (cs : List Value), RepD A w d cs → RepD B w' d cs
  | .lit v, cs, h => by simpa only [RepD] using h
  | .agg ds, cs, h => by simp only [RepD] at h ⊢; exact RepL.frame hw hB ds cs h
  | .row k ds, cs, h => by
    simp only [RepD] at h ⊢
    obtain ⟨a, n, c, h1, h2, h3, h4, h5⟩ := h
    refine ⟨a, n, c, h1, h2, h3, h4, fun hn => ?_⟩
    obtain ⟨b, off, ha, hs, hb, hr⟩ := h5 hn
    have hs' : b < w'.heap.size := by
      have e := hw b hb hs
      rw [Array.getElem?_eq_getElem hs] at e
      exact (Array.getElem?_eq_some_iff.1 e).1
    exact ⟨b, off, ha, hs', fun hbb => hb (hB b hs hbb), RepR.frame hw hB b k (hw b hb hs) ds off hr⟩
theorem RepL.frame {A B : Nat → Prop} {w w' : World} (hw : ∀ b, ¬ A b → b < w.heap.size → w'.heap[b]? = w.heap[b]?) (hB : ∀ b, b < w.heap.size → B b → A b) :
    ∀ (ds : List D) (cs : List Value), RepL A w ds cs → RepL B w' ds cs
  | [], cs, h => by simpa only [RepL] using h
  | d :: ds, cs, h => by
    simp only [RepL] at h ⊢
    obtain ⟨c1, c2, h1, h2, h3⟩ := h
    exact ⟨c1, c2, h1, RepD.frame hw hB d c1 h2, RepL.frame hw hB ds c2 h3⟩
theorem RepR.frame {A B : Nat → Prop} {w w' : World} (hw : ∀ b, ¬ A b → b < w.heap.size → w'.heap[b]? = w.heap[b]?) (hB : ∀ b, b < w.heap.size → B b → A b) (b k : Nat) (hb : w'.heap[b]? = w.heap[b]?) :
    ∀ (ds : List D) (off : Nat), RepR A w b k off ds → RepR B w' b k off ds
  | [], off, h => by simp only [RepR]
  | d :: ds, off, h => by
    simp only [RepR] at h ⊢
    obtain ⟨⟨cs, h1, h2, h3⟩, h4⟩ := h
    exact ⟨⟨cs, h1, fun i hi => (World.cell?_of_block (a := ⟨b, off + i, none⟩) hb).trans (h2 i hi), RepD.frame hw hB d cs h3⟩, RepR.frame hw hB b k hb ds _ h4⟩
end
theorem RepD.below {A : Nat → Prop} {w w' : World} {d : D} {cs : List Value} (h : RepD A w d cs) (hb : Below w.heap.size w w') : RepD A w' d cs :=
  h.frame (fun b _ hlt => hb.block b hlt) (fun _ _ h => h)
theorem RepD.bar {A B : Nat → Prop} {w : World} {d : D} {cs : List Value} (h : RepD A w d cs) (hB : ∀ b, b < w.heap.size → B b → A b) : RepD B w d cs :=
  h.frame (fun _ _ _ => rfl) hB
theorem RepR.at {A : Nat → Prop} {w : World} {b k : Nat} : ∀ {ds : List D} {off : Nat}, RepR A w b k off ds → ∀ i (hi : i < ds.length),
    ∃ cs, cs.length = k ∧ (∀ j, j < k → w.cell? ⟨b, off + i * k + j, none⟩ = cs[j]?) ∧ RepD A w ds[i] cs
  | [], off, _, i, hi => absurd hi (by simp)
  | d :: ds, off, h, 0, hi => by
    simp only [RepR] at h
    simpa using h.1
  | d :: ds, off, h, i + 1, hi => by
    simp only [RepR] at h
    have := RepR.at h.2 i (by simpa using hi)
    simpa [Nat.succ_mul, Nat.add_assoc, Nat.add_comm, Nat.add_left_comm] using this
inductive Tm where
  | node (h : Int) (args : List Tm)
def Tm.h : Tm → Int | .node h _ => h
def Tm.args : Tm → List Tm | .node _ l => l
mutual
def Tm.d : Tm → D
  | .node h l => .agg [.lit (.int .i64 h), .row 2 (Tm.ds l)]
def Tm.ds : List Tm → List D
  | [] => []
  | t :: ts => Tm.d t :: Tm.ds ts
end
theorem Tm.ds_eq (l : List Tm) : Tm.ds l = l.map Tm.d := by induction l <;> simp_all [Tm.ds]
def Terms (A : Nat → Prop) (w : World) (s : Value) (ts : List Tm) : Prop := RepD A w (.row 2 (Tm.ds ts)) [s]
def IsTm (A : Nat → Prop) (w : World) (h : Int) (s : Value) (t : Tm) : Prop := h = t.h ∧ Terms A w s t.args
theorem repTm {A : Nat → Prop} {w : World} {t : Tm} {cs : List Value} : RepD A w t.d cs ↔ ∃ s, cs = [.int .i64 t.h, s] ∧ Terms A w s t.args := by
  cases t with
  | node h l =>
    simp only [Tm.d, RepD, RepL, Tm.h, Tm.args, Terms]
    constructor
    · rintro ⟨c1, c2, rfl, rfl, c3, c4, rfl, ⟨a, n, c, rfl, h2⟩, rfl⟩
      exact ⟨.slice a n c, by simp, a, n, c, rfl, h2⟩
    · rintro ⟨s, rfl, a, n, c, h1, h2⟩
      exact ⟨_, _, rfl, rfl, [s], [], by simp, ⟨a, n, c, h1, h2⟩, rfl⟩
theorem Terms.shape {A : Nat → Prop} {w : World} {s : Value} {ts : List Tm} (h : Terms A w s ts) : ∃ a c, s = .slice a ts.length c ∧ ts.length ≤ c ∧ ts.length ≤ 9223372036854775807 := by
  simp only [Terms, RepD, Tm.ds_eq] at h
  obtain ⟨a, n, c, h1, h2, h3, h4, h5⟩ := h
  simp only [List.length_map] at h2
  subst h2
  simp only [List.cons.injEq, and_true] at h1
  exact ⟨a, c, h1, h3, h4⟩
theorem Terms.get {A : Nat → Prop} {w : World} {a : Option Addr} {n c : Nat} {ts : List Tm} (h : Terms A w (.slice a n c) ts) (i : Nat) (hi : i < ts.length) :
    ∃ b off a' c', a = some ⟨b, off, none⟩ ∧ b < w.heap.size ∧ ¬ A b ∧ w.cell? ⟨b, off + i * 2, none⟩ = some (.int .i64 ts[i].h) ∧ w.cell? ⟨b, off + i * 2 + 1, none⟩ = some (.slice a' ts[i].args.length c') ∧ Terms A w (.slice a' ts[i].args.length c') ts[i].args := by
  simp only [Terms, RepD, Tm.ds_eq] at h
  obtain ⟨a, n, c, h1, h2, h3, h4, h5⟩ := h
  simp only [List.cons.injEq, and_true, Value.slice.injEq] at h1
  obtain ⟨rfl, rfl, rfl⟩ := h1
  simp only [List.length_map] at h2
  obtain ⟨b, off, ha, hs, hb, hr⟩ := h5 (by omega)
  obtain ⟨cs, e1, e2, e3⟩ := hr.at i (by simpa using hi)
  simp only [List.getElem_map] at e3
  obtain ⟨s', rfl, e4⟩ := repTm.1 e3
  obtain ⟨a', c', rfl, _⟩ := e4.shape
  exact ⟨b, off, a', c', ha, hs, hb, by simpa using e2 0 (by omega), by simpa using e2 1 (by omega), e4⟩
theorem IsTm.shape {A : Nat → Prop} {w : World} {h : Int} {s : Value} {t : Tm} (ht : IsTm A w h s t) : h = t.h ∧ ∃ a c, s = .slice a t.args.length c ∧ t.args.length ≤ c ∧ t.args.length ≤ 9223372036854775807 := ⟨ht.1, ht.2.shape⟩
theorem Terms.below {A : Nat → Prop} {w w' : World} {s : Value} {ts : List Tm} (h : Terms A w s ts) (hb : Below w.heap.size w w') : Terms A w' s ts := RepD.below h hb
theorem IsTm.below {A : Nat → Prop} {w w' : World} {h : Int} {s : Value} {t : Tm} (ht : IsTm A w h s t) (hb : Below w.heap.size w w') : IsTm A w' h s t := ⟨ht.1, ht.2.below hb⟩
mutual
def Tm.size : Tm → Nat
  | .node _ l => 1 + Tm.sizes l
def Tm.sizes : List Tm → Nat
  | [] => 0
  | t :: ts => t.size + Tm.sizes ts
end
theorem Tm.sizes_append (a b : List Tm) : Tm.sizes (a ++ b) = Tm.sizes a + Tm.sizes b := by
  induction a with
  | nil => simp [Tm.sizes]
  | cons t ts ih => simp [Tm.sizes, ih]; omega
theorem Tm.sizes_take (l : List Tm) (k : Nat) (h : k < l.length) : Tm.sizes (l.take (k + 1)) = Tm.sizes (l.take k) + (l[k]).size := by
  rw [List.take_succ_eq_append_getElem h, Tm.sizes_append]; simp [Tm.sizes]
theorem Tm.sizes_take_le (l : List Tm) (k : Nat) : Tm.sizes (l.take k) ≤ Tm.sizes l := by
  conv => rhs; rw [← List.take_append_drop k l, Tm.sizes_append]
  omega
theorem Tm.size_eq (t : Tm) : t.size = 1 + Tm.sizes t.args := by cases t; simp [Tm.size, Tm.args]
theorem Tm.sizes_length (l : List Tm) : l.length ≤ Tm.sizes l := by
  induction l with
  | nil => simp
  | cons t ts ih => have := t.size_eq; simp [Tm.sizes]; omega
theorem Tm.size_get (l : List Tm) (k : Nat) (h : k < l.length) : (l[k]).size ≤ Tm.sizes l := by
  have := Tm.sizes_take l k h
  have := Tm.sizes_take_le l (k + 1)
  omega
theorem more_below {w w1 w2 : World} (h : Below w.heap.size w w1) (hb : Below w1.heap.size w1 w2) : Below w.heap.size w w2 := h.trans (hb.mono h.size)
theorem ret_int {k : IntKind} {a b : Int} (h : a = b) : Ending.returned (.int k a) = .returned (.int k b) := by rw [h]
theorem ret_bool {a b : Bool} (h : a = b) : Ending.returned (.bool a) = .returned (.bool b) := by rw [h]
theorem Terms.getW {A : Nat → Prop} {w w' : World} {a : Option Addr} {n c : Nat} {ts : List Tm} (h : Terms A w (.slice a n c) ts) (hb : Below w.heap.size w w') (i : Nat) (hi : i < ts.length) :
    ∃ b off a' c', a = some ⟨b, off, none⟩ ∧ w'.cell? ⟨b, off + i * 2, none⟩ = some (.int .i64 ts[i].h) ∧ w'.cell? ⟨b, off + i * 2 + 1, none⟩ = some (.slice a' ts[i].args.length c') ∧ IsTm A w' ts[i].h (.slice a' ts[i].args.length c') ts[i] := by
  obtain ⟨b, off, a', c', h1, h2, h3, h4, h5, h6⟩ := h.get i hi
  exact ⟨b, off, a', c', h1, (hb.cell (p := ⟨b, off + i * 2, none⟩) h2).trans h4, (hb.cell (p := ⟨b, off + i * 2 + 1, none⟩) h2).trans h5, rfl, h6.below hb⟩
end Go.Proofs.Ythplndalbfcbbaa
set_option linter.unusedSimpArgs false
set_option linter.unusedVariables false
namespace Go.Proofs.Ythplndalbfcbbaa
open Go.RowKit
structure Keep (S : Nat → Prop) (w w' : World) : Prop where
  os : w'.os = w.os
  tape : w'.tape = w.tape
  output : w'.output = w.output
  size : w.heap.size ≤ w'.heap.size
  block : ∀ b, b < w.heap.size → S b → w'.heap[b]? = w.heap[b]?
theorem Keep.refl (S : Nat → Prop) (w : World) : Keep S w w := ⟨rfl, rfl, rfl, Nat.le_refl _, fun _ _ _ => rfl⟩
theorem Keep.trans {S : Nat → Prop} {a b c : World} (h : Keep S a b) (k : Keep S b c) : Keep S a c :=
  ⟨k.os.trans h.os, k.tape.trans h.tape, k.output.trans h.output, Nat.le_trans h.size k.size, fun i hi hs => (k.block i (Nat.lt_of_lt_of_le hi h.size) hs).trans (h.block i hi hs)⟩
theorem Keep.mono {S S' : Nat → Prop} {w w' : World} (h : Keep S w w') (hS : ∀ b, b < w.heap.size → S' b → S b) : Keep S' w w' :=
  ⟨h.os, h.tape, h.output, h.size, fun b hb hs => h.block b hb (hS b hb hs)⟩
theorem Keep.of_below {S : Nat → Prop} {w w' : World} (h : Below w.heap.size w w') : Keep S w w' := ⟨h.os, h.tape, h.output, h.size, fun b hb _ => h.block b hb⟩
theorem Keep.below {B : Nat} {S : Nat → Prop} {w w' : World} (h : Keep S w w') (hS : ∀ b, b < B → S b) (hB : B ≤ w.heap.size) : Below B w w' :=
  ⟨h.os, h.tape, h.output, h.size, fun b hb => h.block b (by omega) (hS b hb)⟩
theorem Keep.alloc {S : Nat → Prop} {a w : World} (h : Keep S a w) (o : Obj) : Keep S a (w.alloc o) := h.trans (.of_below ((Below.refl _ _).alloc (Nat.le_refl _) o))
theorem Keep.drew {S : Nat → Prop} {a w : World} (h : Keep S a w) : Keep S a w.drew := h.trans (.of_below (Below.refl _ _).drew)
theorem Keep.setCell {S : Nat → Prop} {a w : World} (h : Keep S a w) {p : Addr} (hp : ¬ S p.block) (u : Value) : Keep S a (w.setCell p u) :=
  h.trans ⟨rfl, rfl, rfl, by simp [World.setCell], fun b _ hs => Below.heap_setCell _ _ _ _ (fun e => hp (e ▸ hs))⟩
theorem Keep.putObj {S : Nat → Prop} {a w : World} (h : Keep S a w) {r : Nat} (hp : ¬ S r) (o : Obj) : Keep S a (w.putObj r o) :=
  h.trans ⟨rfl, rfl, rfl, by simp, fun b _ hs => World.putObj_heap_other (fun e => hp (e ▸ hs))⟩
theorem Keep.grown {S : Nat → Prop} {a w w' : World} {row : Option Nat} (h : Keep S a w) (hg : w.grownBy w' row) (hr : ∀ k, row = some k → ¬ S k) : Keep S a w' :=
  h.trans ⟨hg.os, hg.tape, hg.output, hg.size, fun b hb hs => hg.block b hb (fun e => hr b e.symm hs)⟩
theorem Keep.cell {S : Nat → Prop} {w w' : World} (h : Keep S w w') {p : Addr} {v : Value} (hp : S p.block) (hc : w.cell? p = some v) : w'.cell? p = some v :=
  (World.cell?_of_block (h.block p.block (World.block_lt_of_cell? w p hc) hp)).trans hc
theorem Keep.obj {S : Nat → Prop} {w w' : World} (h : Keep S w w') {r : Nat} {o : Obj} (hp : S r) (hc : w.heap[r]? = some o) : w'.heap[r]? = some o :=
  (h.block r (Array.getElem?_eq_some_iff.1 hc).1 hp).trans hc
theorem RepD.keep {A S : Nat → Prop} {w w' : World} {d : D} {cs : List Value} (h : RepD A w d cs) (hk : Keep S w w') (hS : ∀ b, b < w.heap.size → ¬ A b → S b) : RepD A w' d cs :=
  h.frame (fun b hb hlt => hk.block b hlt (hS b hlt hb)) (fun _ _ h => h)
theorem Terms.keep {A S : Nat → Prop} {w w' : World} {s : Value} {ts : List Tm} (h : Terms A w s ts) (hk : Keep S w w') (hS : ∀ b, b < w.heap.size → ¬ A b → S b) : Terms A w' s ts := RepD.keep h hk hS
def Framed (n0 : Nat) (J : (Nat → Prop) → World → Prop) : Prop :=
  ∀ O O' W W', (∀ b, O b → n0 ≤ b ∧ b < W.heap.size) → J O W → Keep (fun b => ¬ O b) W W' → (∀ b, O' b → O b ∨ W.heap.size ≤ b) → J O' W'
variable {α : Type}
def Seq (P : Program) (g : Nat) (lb : Array Value) (encs : α → Array Value) (S : Nat → Prop) (xs : List α) (W0 : World) : Prop :=
  ∀ (l : Nat) (J Jx : (Nat → Prop) → List α → World → Prop) (W : World), Keep S W0 W →
    (∀ pre, Framed W.heap.size fun O W' => J O pre W') → (∀ pre, Framed W.heap.size fun O W' => Jx O pre W') →
    (∀ O pre x W1, pre ++ [x] <+: xs → (∀ b, O b → W.heap.size ≤ b ∧ b < W1.heap.size) → Keep S W W1 → J O pre W1 →
      YieldAt Fence.wide 0 P l (encs x) W1 fun e W2 => Keep (fun b => S b ∨ O b) W1 W2 ∧ ((e = .returned (.bool true) ∧ J O (pre ++ [x]) W2) ∨ (e = .returned (.bool false) ∧ Jx O (pre ++ [x]) W2))) →
    J (fun _ => False) [] W →
    CallsIn Fence.wide 0 P g (#[.func (.yield l) #[] #[]] ++ lb) W fun e W' => (∃ v, e = .returned v) ∧ Keep S W W' ∧
      ∃ O, (∀ b, O b → W.heap.size ≤ b ∧ b < W'.heap.size) ∧ (J O xs W' ∨ ∃ pre, pre <+: xs ∧ Jx O pre W')
def postI (S : Nat → Prop) (O : Nat → Prop) (I : (Nat → Prop) → List α → World → Prop) (Ix : Code → (Nat → Prop) → List α → World → Prop) (pre : List α) (W : World) : Exit → Act → World → Prop
  | .normal, _, W' => Keep (fun b => S b ∨ O b) W W' ∧ I O pre W'
  | .ret, _, W' => Keep (fun b => S b ∨ O b) W W' ∧ Ix .ret O pre W'
  | .exit id, _, W' => Keep (fun b => S b ∨ O b) W W' ∧ Ix (.exit id) O pre W'
  | .goto t, _, W' => Keep (fun b => S b ∨ O b) W W' ∧ Ix (.goto t) O pre W'
  | .panic _, _, _ => False
  | .outgrown, _, _ => False
section
variable {P : Program} {g : Operand} {ps : Array Tmp} {assign body : Code} {Q : Exit → Act → World → Prop} {a : Act} {w : World} {gf : Nat} {lb : Array Value} {encs : α → Array Value} {S : Nat → Prop} {xs : List α}
theorem wp_range_core (ro : Option Nat) (l : Nat) (mark : List Deferred) (T : Nat → Prop) (dl : Nat) (HD : World → Prop) (hHD : ∀ W W', HD W → Keep (fun b => T b ∧ b ≠ l) W W' → HD W')
    (hg : a.eval g = .func (.func gf) #[] lb) (eg : ∀ args w, (callFunc gf args).run P w = .ok (.enter gf args) w)
    (hseq : Seq P gf lb encs S xs w) (hps : ∀ x, (encs x).size = ps.size)
    (I : (Nat → Prop) → List α → World → Prop) (Ix : Code → (Nat → Prop) → List α → World → Prop)
    (hI : ∀ pre, Framed w.heap.size fun O W => I O pre W) (hIx : ∀ c pre, Framed w.heap.size fun O W => Ix c O pre W)
    (he : ∀ fn, ∃ W1, (Instr.enterLoop fn a.tmps ps assign body ro).run P w = .ok (l, mark) W1 ∧ W1.heap[l]? = some (.loop { state := .ready, pending := none, fn, tmps := a.tmps, params := ps, assign, body, defers := dl }) ∧
      Keep (fun _ => True) w W1 ∧ T l ∧ (∀ b, T b → w.heap.size ≤ b ∧ b < W1.heap.size) ∧ HD W1 ∧ I T [] W1)
    (hS : ∀ b, S b → b < w.heap.size)
    (Ax : (Nat → Prop) → List α → α → Act → World → Prop)
    (hAx : ∀ O pre x a' W W', Ax O pre x a' W → Keep (fun b => ¬ O b) W W' → Ax O pre x a' W')
    (hassign : ∀ O pre x W K, pre ++ [x] <+: xs → I O pre W → (∀ b, O b → w.heap.size ≤ b ∧ b < W.heap.size) → (∀ a' W', Keep (fun _ => True) W W' → Ax O pre x a' W' → K a' W') →
      assign.wpIn (Fence.wide.inRound l) 0 P (Exit.then K (fun _ _ _ => False)) { tmps := (ps.zip (encs x)).foldl (fun t (p, v) => t.setIfInBounds p v) a.tmps, defers := [] } W)
    (hbody : ∀ O pre x a' W, pre ++ [x] <+: xs → (∀ b, O b → w.heap.size ≤ b ∧ b < W.heap.size) → (∀ b, T b → O b) → (∃ r, W.heap[l]? = some (.loop r) ∧ r.defers = dl) → Keep S w W → I O pre W → Ax O pre x a' W →
      body.wpIn (Fence.wide.inRound l) 0 P (postI S O I Ix (pre ++ [x]) W) a' W)
    (hdone : ∀ O W, (∀ b, O b → w.heap.size ≤ b ∧ b < W.heap.size) → (∀ b, T b → O b) → Keep S w W → HD W → I O xs W → Q .normal { a with defers := mark ++ a.defers } W)
    (hstop : ∀ O c pre W, (∀ b, O b → w.heap.size ≤ b ∧ b < W.heap.size) → (∀ b, T b → O b) → Keep S w W → HD W → pre <+: xs → Ix c O pre W → c.wpIn { Fence.wide with round := ro } 0 P Q { a with defers := mark ++ a.defers } W) :
    (Code.rangeFunc g ps assign body).wpIn { Fence.wide with round := ro } 0 P Q a w := by
  refine wpIn_rangeFunc ?_
  intro fn hfn
  obtain ⟨W1, he, hL1, hk1, hTl, hT, hD1, hI1⟩ := he fn
  obtain ⟨rec, hrec⟩ : ∃ rec : LoopState → Option Code → Loop, rec = fun st pe => { state := st, pending := pe, fn, tmps := a.tmps, params := ps, assign, body, defers := dl } := ⟨_, rfl⟩
  have hL1' : W1.heap[l]? = some (.loop (rec .ready none)) := by rw [hrec]; exact hL1
  refine ⟨l, mark, W1, { target := .fn (.func gf) lb, args := #[.func (.yield l) #[] #[]] }, W1, gf, #[.func (.yield l) #[] #[]] ++ lb, W1, he, ?_, ?_, ?_, fun h => by simp [Fence.wide] at h, ?_⟩
  · simp only [resolve, hg]
    simp [go_sem]
  · intro f' hf'; trivial
  · simp [invoke, go_sem, eg]
  · have hmix : ∀ {O O' : Nat → Prop} {W : World} {n1 : Nat}, w.heap.size ≤ n1 → (∀ b, O b → n1 ≤ b ∧ b < W.heap.size) → (∀ b, T b → b < W.heap.size) → (∀ b, (O b ∨ T b) → w.heap.size ≤ b ∧ b < W.heap.size) := by
      intro O O' W n1 h1 h2 h3 b hb
      rcases hb with hb | hb
      · exact ⟨Nat.le_trans h1 (h2 b hb).1, (h2 b hb).2⟩
      · exact ⟨(hT b hb).1, h3 b hb⟩
    have hTW : ∀ {W : World}, W1.heap.size ≤ W.heap.size → ∀ b, T b → b < W.heap.size := fun h b hb => Nat.lt_of_lt_of_le (hT b hb).2 h
    -- the iterator's contract, the record's facts beside the invariant
    refine (hseq l
      (fun O pre W => (I (fun b => O b ∨ T b) pre W ∧ (∀ b, T b → b < W.heap.size ∧ ¬ O b) ∧ HD W) ∧ W.heap[l]? = some (.loop (rec .ready none)))
      (fun O pre W => ∃ c, (Ix c (fun b => O b ∨ T b) pre W ∧ (∀ b, T b → b < W.heap.size ∧ ¬ O b) ∧ HD W) ∧ W.heap[l]? = some (.loop (rec .done (some c))))
      W1 (hk1.mono fun _ _ _ => trivial) ?_ ?_ ?_ ?_).mono ?_
    · rintro pre O O' W W' hO ⟨⟨hi, ht, hd⟩, hl⟩ hk ho
      refine ⟨⟨hI pre (fun b => O b ∨ T b) (fun b => O' b ∨ T b) W W' (fun b hb => ?_) hi (hk.mono fun b _ hb ho => hb (.inl ho)) (fun b hb => ?_), fun b hb => ⟨Nat.lt_of_lt_of_le (ht b hb).1 hk.size, fun h => ?_⟩, hHD _ _ hd (hk.mono fun b _ hb => (ht b hb.1).2)⟩, hk.obj (ht l hTl).2 hl⟩
      · rcases hb with hb | hb
        · exact ⟨Nat.le_trans hk1.size (hO b hb).1, (hO b hb).2⟩
        · exact ⟨(hT b hb).1, (ht b hb).1⟩
      · rcases hb with hb | hb
        · rcases ho b hb with h | h
          · exact .inl (.inl h)
          · exact .inr h
        · exact .inl (.inr hb)
      · rcases ho b h with h | h
        · exact (ht b hb).2 h
        · have := (ht b hb).1; omega
    · rintro pre O O' W W' hO ⟨c, ⟨hi, ht, hd⟩, hl⟩ hk ho
      refine ⟨c, ⟨hIx c pre (fun b => O b ∨ T b) (fun b => O' b ∨ T b) W W' (fun b hb => ?_) hi (hk.mono fun b _ hb ho => hb (.inl ho)) (fun b hb => ?_), fun b hb => ⟨Nat.lt_of_lt_of_le (ht b hb).1 hk.size, fun h => ?_⟩, hHD _ _ hd (hk.mono fun b _ hb => (ht b hb.1).2)⟩, hk.obj (ht l hTl).2 hl⟩
      · rcases hb with hb | hb
        · exact ⟨Nat.le_trans hk1.size (hO b hb).1, (hO b hb).2⟩
        · exact ⟨(hT b hb).1, (ht b hb).1⟩
      · rcases hb with hb | hb
        · rcases ho b hb with h | h
          · exact .inl (.inl h)
          · exact .inr h
        · exact .inl (.inr hb)
      · rcases ho b h with h | h
        · exact (ht b hb).2 h
        · have := (ht b hb).1; omega
    · -- one round
      rintro O pre x W hpre hO hkS ⟨⟨hi, ht, hd⟩, hl⟩
      have hOT : ∀ b, (O b ∨ T b) → w.heap.size ≤ b ∧ b < W.heap.size := by
        rintro b (hb | hb)
        · exact ⟨Nat.le_trans hk1.size (hO b hb).1, (hO b hb).2⟩
        · exact ⟨(hT b hb).1, (ht b hb).1⟩
      have hy := run_yield (P := P) (args := encs x) hl (by rw [hrec]; exact hps x)
      rw [hrec] at hy
      refine ⟨fn, _, assign, body, hy, roundIn_of_wpIn trivial (hassign _ pre x W _ hpre hi hOT ?_)⟩
      clear hy
      intro a' Wa hka hax
      have hla := hka.obj trivial hl
      have hlt : l < Wa.heap.size := (Array.getElem?_eq_some_iff.1 hla).1
      refine ⟨_, run_beginRound hla (by rw [hrec]), ?_⟩
      have hk2 : Keep (fun b => ¬ (O b ∨ T b)) Wa (Wa.putObj l (.loop { rec .ready none with state := .busy })) := (Keep.refl _ _).putObj (by simp [hTl]) _
      have hl2 : (Wa.putObj l (.loop { rec .ready none with state := .busy })).heap[l]? = some (.loop { rec .ready none with state := .busy }) := World.putObj_heap_same hlt
      have hOTa : ∀ b, (O b ∨ T b) → w.heap.size ≤ b ∧ b < Wa.heap.size := fun b hb => ⟨(hOT b hb).1, Nat.lt_of_lt_of_le (hOT b hb).2 hka.size⟩
      have hd2 : HD (Wa.putObj l (.loop { rec .ready none with state := .busy })) := hHD _ _ (hHD _ _ hd (hka.mono fun _ _ _ => trivial)) ((Keep.refl _ _).putObj (by simp) _)
      have hnS : ¬ S l := fun h => by have := hS l h; have := (hT l hTl).1; omega
      have hnO : ¬ O l := (ht l hTl).2
      have hi2 := hI pre _ _ _ _ hOT hi (hka.mono fun _ _ _ => trivial) (fun b hb => .inl hb)
      have hi3 := hI pre _ _ _ _ hOTa hi2 hk2 (fun b hb => .inl hb)
      have hkS' : Keep S w (Wa.putObj l (.loop { rec .ready none with state := .busy })) := (((hk1.mono fun _ _ _ => trivial).trans hkS).trans (hka.mono fun _ _ _ => trivial)).putObj hnS _
      refine wpIn_mono (hbody (fun b => O b ∨ T b) pre x a' _ hpre (by simpa using hOTa) (fun b hb => .inr hb) ⟨_, hl2, by rw [hrec]⟩ hkS' hi3 (hAx _ _ _ _ _ _ hax hk2)) ?_
      have fin : ∀ (jump : Option Code) (W3 : World), Keep (fun b => S b ∨ O b ∨ T b) (Wa.putObj l (.loop { rec .ready none with state := .busy })) W3 →
          (Instr.endRound l jump).run P W3 = .ok (.bool jump.isNone) (W3.putObj l (.loop (rec (if jump.isNone then .ready else .done) jump))) ∧
          (W3.putObj l (.loop (rec (if jump.isNone then .ready else .done) jump))).heap[l]? = some (.loop (rec (if jump.isNone then .ready else .done) jump)) ∧
          Keep (fun b => S b ∨ O b) W (W3.putObj l (.loop (rec (if jump.isNone then .ready else .done) jump))) ∧ (∀ b, T b → b < W3.heap.size) ∧ Keep (fun b => ¬ (O b ∨ T b)) W3 (W3.putObj l (.loop (rec (if jump.isNone then .ready else .done) jump))) ∧ HD (W3.putObj l (.loop (rec (if jump.isNone then .ready else .done) jump))) := by
        intro jump W3 hk3
        have hl3 := hk3.obj (.inr (.inr hTl)) hl2
        have hr := run_endRound (P := P) jump hl3
        rw [hrec] at hr ⊢
        refine ⟨hr, World.putObj_heap_same (Array.getElem?_eq_some_iff.1 hl3).1, ?_, fun b hb => ?_, ?_, ?_⟩
        · have h1 : Keep (fun b => S b ∨ O b) W (Wa.putObj l (.loop { rec .ready none with state := .busy })) := (hka.mono fun _ _ _ => trivial).putObj (by simp [hnS, hnO]) _
          rw [hrec] at h1 hk3
          exact (h1.trans (hk3.mono fun b _ hb => by rcases hb with h | h; exact .inl h; exact .inr (.inl h))).putObj (by simp [hnS, hnO]) _
        · have := hk3.size; simp only [World.putObj_size] at this; have := (hOTa b (.inr hb)).2; omega
        · exact (Keep.refl _ _).putObj (by simp [hTl]) _
        · rw [hrec] at hd2 hk3; exact hHD _ _ (hHD _ _ hd2 (hk3.mono fun b _ hb => .inr (.inr hb.1))) ((Keep.refl _ _).putObj (by simp) _)
      have finI : ∀ (J : (Nat → Prop) → World → Prop) (W3 W4 : World), Framed w.heap.size J → (∀ b, T b → b < W3.heap.size) → Wa.heap.size ≤ W3.heap.size → Keep (fun b => ¬ (O b ∨ T b)) W3 W4 → J (fun b => O b ∨ T b) W3 → J (fun b => O b ∨ T b) W4 := by
        intro J W3 W4 hJ _ hsz hk hj
        exact hJ _ _ _ _ (fun b hb => ⟨(hOTa b hb).1, Nat.lt_of_lt_of_le (hOTa b hb).2 hsz⟩) hj hk (fun b hb => .inl hb)
      rintro e a3 W3 hp
      cases e with
      | normal =>
        obtain ⟨hk3, hi3⟩ := hp
        obtain ⟨hr, hl4, hk4, hT4, hk5, hd5⟩ := fin none W3 hk3
        exact ⟨_, _, hr, hk4, .inl ⟨rfl, ⟨finI _ _ _ (hI _) hT4 (by simpa using hk3.size) hk5 hi3, fun b hb => ⟨by simpa using hT4 b hb, (ht b hb).2⟩, hd5⟩, hl4⟩⟩
      | ret =>
        obtain ⟨hk3, hi3⟩ := hp
        obtain ⟨hr, hl4, hk4, hT4, hk5, hd5⟩ := fin (some .ret) W3 hk3
        exact ⟨_, _, hr, hk4, .inr ⟨rfl, .ret, ⟨finI _ _ _ (hIx _ _) hT4 (by simpa using hk3.size) hk5 hi3, fun b hb => ⟨by simpa using hT4 b hb, (ht b hb).2⟩, hd5⟩, hl4⟩⟩
      | exit id =>
        obtain ⟨hk3, hi3⟩ := hp
        obtain ⟨hr, hl4, hk4, hT4, hk5, hd5⟩ := fin (some (.exit id)) W3 hk3
        exact ⟨_, _, hr, hk4, .inr ⟨rfl, .exit id, ⟨finI _ _ _ (hIx _ _) hT4 (by simpa using hk3.size) hk5 hi3, fun b hb => ⟨by simpa using hT4 b hb, (ht b hb).2⟩, hd5⟩, hl4⟩⟩
      | goto t =>
        obtain ⟨hk3, hi3⟩ := hp
        obtain ⟨hr, hl4, hk4, hT4, hk5, hd5⟩ := fin (some (.goto t)) W3 hk3
        exact ⟨_, _, hr, hk4, .inr ⟨rfl, .goto t, ⟨finI _ _ _ (hIx _ _) hT4 (by simpa using hk3.size) hk5 hi3, fun b hb => ⟨by simpa using hT4 b hb, (ht b hb).2⟩, hd5⟩, hl4⟩⟩
      | panic ch => exact hp.elim
      | outgrown => exact hp.elim
    · exact ⟨⟨hI [] T _ W1 W1 (fun b hb => hT b hb) hI1 (Keep.refl _ _) (fun b hb => by rcases hb with h | h; exact h.elim; exact .inl h), fun b hb => ⟨(hT b hb).2, fun h => h⟩, hD1⟩, hL1'⟩
    · -- behind the iterator
      rintro e W2 ⟨⟨v, rfl⟩, hkS2, O, hO, (⟨⟨hi, ht, hd⟩, hl⟩ | ⟨pre, hpre, c, ⟨hi, ht, hd⟩, hl⟩)⟩
      · have hOT : ∀ b, (O b ∨ T b) → w.heap.size ≤ b ∧ b < W2.heap.size := by
          rintro b (hb | hb)
          · exact ⟨Nat.le_trans hk1.size (hO b hb).1, (hO b hb).2⟩
          · exact ⟨(hT b hb).1, (ht b hb).1⟩
        have hnS : ¬ S l := fun h => by have := hS l h; have := (hT l hTl).1; omega
        have hr := run_endLoop (P := P) hl (by rw [hrec]; simp)
        refine ⟨none, _, by rw [hrec] at hr; exact hr, hdone (fun b => O b ∨ T b) _ (by simpa using hOT) (fun b hb => .inr hb) (((hk1.mono fun _ _ _ => trivial).trans hkS2).putObj hnS _) (hHD _ _ hd ((Keep.refl _ _).putObj (by simp) _)) ?_⟩
        exact hI _ _ _ _ _ hOT hi ((Keep.refl _ _).putObj (by simp [hTl]) _) (fun b hb => .inl hb)
      · have hOT : ∀ b, (O b ∨ T b) → w.heap.size ≤ b ∧ b < W2.heap.size := by
          rintro b (hb | hb)
          · exact ⟨Nat.le_trans hk1.size (hO b hb).1, (hO b hb).2⟩
          · exact ⟨(hT b hb).1, (ht b hb).1⟩
        have hnS : ¬ S l := fun h => by have := hS l h; have := (hT l hTl).1; omega
        have hr := run_endLoop (P := P) hl (by rw [hrec]; simp)
        refine ⟨some c, _, by rw [hrec] at hr; exact hr, hstop (fun b => O b ∨ T b) c pre _ (by simpa using hOT) (fun b hb => .inr hb) (((hk1.mono fun _ _ _ => trivial).trans hkS2).putObj hnS _) (hHD _ _ hd ((Keep.refl _ _).putObj (by simp) _)) hpre ?_⟩
        exact hIx _ _ _ _ _ _ hOT hi ((Keep.refl _ _).putObj (by simp [hTl]) _) (fun b hb => .inl hb)
theorem wp_range_out
    (hg : a.eval g = .func (.func gf) #[] lb) (eg : ∀ args w, (callFunc gf args).run P w = .ok (.enter gf args) w)
    (hseq : Seq P gf lb encs S xs w) (hps : ∀ x, (encs x).size = ps.size)
    (I : (Nat → Prop) → List α → World → Prop) (Ix : Code → (Nat → Prop) → List α → World → Prop)
    (hI : ∀ pre, Framed w.heap.size fun O W => I O pre W) (hIx : ∀ c pre, Framed w.heap.size fun O W => Ix c O pre W)
    (h0 : I (fun _ => False) [] w) (hS : ∀ b, S b → b < w.heap.size)
    (Ax : (Nat → Prop) → List α → α → Act → World → Prop)
    (hAx : ∀ O pre x a' W W', Ax O pre x a' W → Keep (fun b => ¬ O b) W W' → Ax O pre x a' W')
    (hassign : ∀ l O pre x W K, pre ++ [x] <+: xs → I O pre W → (∀ b, O b → w.heap.size ≤ b ∧ b < W.heap.size) → (∀ a' W', Keep (fun _ => True) W W' → Ax O pre x a' W' → K a' W') →
      assign.wpIn (Fence.wide.inRound l) 0 P (Exit.then K (fun _ _ _ => False)) { tmps := (ps.zip (encs x)).foldl (fun t (p, v) => t.setIfInBounds p v) a.tmps, defers := [] } W)
    (hbody : ∀ l O pre x a' W, pre ++ [x] <+: xs → (∀ b, O b → w.heap.size ≤ b ∧ b < W.heap.size) → O l → (∃ r, W.heap[l]? = some (.loop r)) → Keep S w W → I O pre W → Ax O pre x a' W →
      body.wpIn (Fence.wide.inRound l) 0 P (postI S O I Ix (pre ++ [x]) W) a' W)
    (hdone : ∀ O W, (∀ b, O b → w.heap.size ≤ b ∧ b < W.heap.size) → O w.heap.size → Keep S w W → W.heap[w.heap.size]? = some (.deferred (some [])) → I O xs W → Q .normal { a with defers := { target := .collected w.heap.size, args := #[] } :: a.defers } W)
    (hstop : ∀ O c pre W, (∀ b, O b → w.heap.size ≤ b ∧ b < W.heap.size) → O w.heap.size → Keep S w W → W.heap[w.heap.size]? = some (.deferred (some [])) → pre <+: xs → Ix c O pre W →
      c.wpIn Fence.wide 0 P Q { a with defers := { target := .collected w.heap.size, args := #[] } :: a.defers } W) :
    (Code.rangeFunc g ps assign body).wpIn Fence.wide 0 P Q a w := by
  refine wp_range_core (S := S) (xs := xs) none (w.heap.size + 1) [{ target := .collected w.heap.size, args := #[] }] (fun b => b = w.heap.size ∨ b = w.heap.size + 1) w.heap.size
    (fun W => W.heap[w.heap.size]? = some (.deferred (some []))) (fun W W' h hk => hk.obj ⟨.inl rfl, by omega⟩ h) hg eg hseq hps I Ix hI hIx ?_ hS Ax hAx (hassign _) ?_ ?_ ?_
  · intro fn
    refine ⟨_, run_enterLoop_outer _ _ _ _ _, ?_, .of_below (((Below.refl _ _).alloc (Nat.le_refl _) _).alloc (by simp) _), .inr rfl, ?_, ?_, ?_⟩
    · have := World.alloc_heap_new (w.alloc (.deferred (some []))) (.loop { state := .ready, pending := none, fn, tmps := a.tmps, params := ps, assign, body, defers := w.heap.size }); rwa [World.size_alloc] at this
    · intro b hb; simp only [World.size_alloc]; omega
    · exact (Below.heap_alloc _ _ _ (by simp)).trans (World.alloc_heap_new w _)
    · exact hI _ _ _ _ _ (fun b hb => hb.elim) h0 (.of_below (((Below.refl _ _).alloc (Nat.le_refl _) _).alloc (by simp) _)) (fun b hb => .inr (by omega))
  · intro O pre x a' W h1 h2 h3 h4 h5 h6 h7
    obtain ⟨r, h4, _⟩ := h4
    exact hbody _ O pre x a' W h1 h2 (h3 _ (.inr rfl)) ⟨r, h4⟩ h5 h6 h7
  · intro O W h1 h2 h3 h4 h5
    exact hdone O W h1 (h2 _ (.inl rfl)) h3 h4 h5
  · intro O c pre W h1 h2 h3 h4 h5 h6
    exact hstop O c pre W h1 (h2 _ (.inl rfl)) h3 h4 h5 h6
end
end Go.Proofs.Ythplndalbfcbbaa
set_option linter.unusedSimpArgs false
set_option linter.unusedVariables false
namespace Go.Proofs.Ythplndalbfcbbaa
open Go.RowKit
theorem ownsRow_keep {w w' : World} {base : Nat} {e : TypeId} {size : Nat} {v : Value} {n : Nat} {xs : List Value} {S : Nat → Prop} (h : w.ownsRow base e size v n xs) (hk : Keep S w w') (hS : ∀ b, v.ownBlock = some b → S b) : w'.ownsRow base e size v n xs := by
  refine ⟨h.1, ?_⟩
  rcases h.2 with hn | ⟨g, cap, cur, rfl, hb, hgg, rest⟩
  · exact .inl hn
  · exact .inr ⟨g, cap, cur, rfl, hb, hk.obj (hS g rfl) hgg, rest⟩
section
variable {F : Fence} {nF : Nat} {P : Program} {W : World} {ops : Array Oper} {rest : List Oper} {o : Oper} {a : Act} {Q : Exit → Act → World → Prop}
theorem app_in (hgd : o.guard = none) (s x : Operand) (t : TypeId)
    (ho : o.op = .call { callee := .builtin .append, args := #[s, x], argTypes := #[t, t] }) (base : Nat) (e : TypeId) (z : Value) (size bytes : Nat) (ht : P.underlying t = some (.slice e))
    (hinfo : (P.info? e).map (fun i => (i.zero, i.size, i.bytes)) = some (some z, size, bytes)) (hzs : z.cells.size = size) (hsz : 0 < size) (h0 : 0 < bytes)
    (v : Value) (n : Nat) (xs : List Value) (hs : a.eval s = v) (hown : W.ownsRow base e size v n xs) (m c : Nat) (cs : Array Value) (hcs : cs.size = m * size) (h1 : ∀ u ∈ cs.toList, u.oneCell' = true)
    (hx : a.eval x = .slice (some ⟨W.heap.size, 0, none⟩) m c) (hbytes : (n + m) * bytes ≤ 140737488355328) (hbase : base ≤ W.heap.size)
    (h : ∀ v' w', w'.ownsRow base e size v' (n + m) (xs ++ cs.toList) → Keep (fun b => v.ownBlock ≠ some b) W w' → (∀ b, v'.ownBlock = some b → v.ownBlock = some b ∨ W.heap.size < b) → (∃ ad cap, v' = .slice ad (n + m) cap) → wpListIn F nF P ops Q rest (a.put o.dst v') w') :
    wpListIn F nF P ops Q (o :: rest) a (W.alloc (.cells cs e)) := by
  obtain ⟨i, hi, hz⟩ := Option.map_eq_some_iff.1 hinfo
  simp only [Prod.mk.injEq] at hz
  obtain ⟨hz0, hz1, hz2⟩ := hz
  have hnm : n + m ≤ 140737488355328 := Nat.le_trans (Nat.le_mul_of_pos_right _ h0) hbytes
  refine wpListIn_append_own_at (w := W.alloc (.cells cs e)) hgd s x t ho base e i z size bytes ht hi hz0 hz1 hz2 hzs hsz v n xs hs (hown.alloc _) ⟨W.heap.size, 0, none⟩ m c cs.toList hx (by simpa using hcs)
    (World.news_of_block (World.alloc_heap_new _ _)) h1 (by unfold maxLen; omega) hbytes (by simp; omega) ?_
  intro v' w' h2 h3 h4 h5
  have hk : Keep (fun b => v.ownBlock ≠ some b) W w' := ((Keep.refl _ _).alloc _).grown h3 (fun k hk h => h hk)
  refine h v' w' h2 hk (fun b hb => ?_) ?_
  · rcases h5 with h5 | h5
    · exact .inl (by rw [← h5]; exact hb)
    · rw [h5] at hb; cases hb; exact .inr (by simp)
  · rcases h2.2 with ⟨h6, h7⟩ | ⟨g, cap, cur, h6, _⟩
    · exact ⟨none, 0, by rw [h6, h7]⟩
    · exact ⟨_, _, h6⟩
theorem app_pl (hgd : o.guard = none) (s x : Operand) (t : TypeId)
    (ho : o.op = .call { callee := .builtin .append, args := #[s, x], argTypes := #[t, t] }) (base : Nat) (e : TypeId) (z : Value) (size bytes : Nat) (ht : P.underlying t = some (.slice e))
    (hinfo : (P.info? e).map (fun i => (i.zero, i.size, i.bytes)) = some (some z, size, bytes)) (hzs : z.cells.size = size) (hsz : 0 < size) (h0 : 0 < bytes)
    (v : Value) (n : Nat) (xs : List Value) (hs : a.eval s = v) (hown : W.ownsRow base e size v n xs) (m c : Nat) (cs : Array Value) (hcs : cs.size = m * size) (h1 : ∀ u ∈ cs.toList, u.oneCell' = true)
    (hx : a.eval x = .slice (some ⟨W.heap.size, 0, none⟩) m c) (hbytes : (n + m) * bytes ≤ 140737488355328) (hbase : base ≤ W.heap.size)
    (h : ∀ v' w', w'.ownsRow base e size v' (n + m) (xs ++ cs.toList) → Keep (fun b => v.ownBlock ≠ some b) W w' → (∀ b, v'.ownBlock = some b → v.ownBlock = some b ∨ W.heap.size < b) → (∃ ad cap, v' = .slice ad (n + m) cap) → wpList P ops Q rest (a.put o.dst v') w') :
    wpList P ops Q (o :: rest) a (W.alloc (.cells cs e)) := by
  obtain ⟨i, hi, hz⟩ := Option.map_eq_some_iff.1 hinfo
  simp only [Prod.mk.injEq] at hz
  obtain ⟨hz0, hz1, hz2⟩ := hz
  have hnm : n + m ≤ 140737488355328 := Nat.le_trans (Nat.le_mul_of_pos_right _ h0) hbytes
  refine wpList_append_own_at (w := W.alloc (.cells cs e)) hgd s x t ho base e i z size bytes ht hi hz0 hz1 hz2 hzs hsz v n xs hs (hown.alloc _) ⟨W.heap.size, 0, none⟩ m c cs.toList hx (by simpa using hcs)
    (World.news_of_block (World.alloc_heap_new _ _)) h1 (by unfold maxLen; omega) hbytes (by simp; omega) ?_
  intro v' w' h2 h3 h4 h5
  have hk : Keep (fun b => v.ownBlock ≠ some b) W w' := ((Keep.refl _ _).alloc _).grown h3 (fun k hk h => h hk)
  refine h v' w' h2 hk (fun b hb => ?_) ?_
  · rcases h5 with h5 | h5
    · exact .inl (by rw [← h5]; exact hb)
    · rw [h5] at hb; cases hb; exact .inr (by simp)
  · rcases h2.2 with ⟨h6, h7⟩ | ⟨g, cap, cur, h6, _⟩
    · exact ⟨none, 0, by rw [h6, h7]⟩
    · exact ⟨_, _, h6⟩
end
end Go.Proofs.Ythplndalbfcbbaa
set_option linter.unusedSimpArgs false
set_option linter.unusedVariables false
namespace Go.Proofs.Ythplndalbfcbbaa
open Go.RowKit Go.Shelf
attribute [local go_sem] Oper.semAt_some
theorem zip_step {β : Type} (rs : List β) (k : Nat) (hk : k < rs.length) : (rs.zipIdx.drop (k + 1)).reverse ++ [(rs[k], k)] = (rs.zipIdx.drop k).reverse := by
  have h : rs.zipIdx.drop k = (rs[k], k) :: rs.zipIdx.drop (k + 1) := by
    rw [List.drop_eq_getElem_cons (by simpa using hk)]; simp
  rw [h, List.reverse_cons]
theorem zip_pre {β : Type} (rs : List β) (k : Nat) : (rs.zipIdx.drop k).reverse <+: rs.zipIdx.reverse := by
  conv => rhs; rw [← List.take_append_drop k rs.zipIdx, List.reverse_append]
  exact List.prefix_append _ _
theorem pre_mem {β : Type} {pre : List β} {x : β} {xs : List β} (h : pre ++ [x] <+: xs) : x ∈ xs := h.subset (by simp)
theorem zip_next {β : Type} {pre : List (β × Nat)} {x : β × Nat} {rs : List β} (h : pre ++ [x] <+: rs.zipIdx.reverse) : ∃ hi : x.2 < rs.length, rs[x.2] = x.1 := by
  have hm := pre_mem h
  simp only [List.mem_reverse] at hm
  obtain ⟨i, hi, e⟩ := List.getElem_of_mem hm
  simp at e hi
  subst e
  exact ⟨hi, rfl⟩
def encT (x : (Int × Value) × Nat) : Array Value := #[.int .i64 x.2, .agg #[.int .i64 x.1.1, x.1.2]]
set_option maxHeartbeats 1000000 in
/-- The closure that slices.Backward hands back yields the slice's elements from behind. -/
theorem backT_seq (W0 : World) (S : Nat → Prop) (Bs : Nat) (a : Option Addr) (c : Nat) (rs : List (Int × Value)) (hS : S Bs)
    (hBs : W0.cell? ⟨Bs, 0, none⟩ = some (.slice a rs.length c)) (hl : rs.length ≤ 9223372036854775807)
    (hr : ∀ i (hi : i < rs.length), (∃ a' n' c', rs[i].2 = .slice a' n' c') ∧ ∃ b off, a = some ⟨b, off, none⟩ ∧ S b ∧ W0.cell? ⟨b, off + i * 2, none⟩ = some (.int .i64 rs[i].1) ∧ W0.cell? ⟨b, off + i * 2 + 1, none⟩ = some rs[i].2) :
    Seq Try.prog 169 #[.pointer (some ⟨Bs, 0, none⟩)] encT S rs.zipIdx.reverse W0 := by
  intro l J Jx W hk0 hJ hJx hY h0
  have hb0 := hk0.cell (p := ⟨Bs, 0, none⟩) hS hBs
  show CallsIn Fence.wide 0 Try.prog 169 #[.func (.yield l) #[] #[], .pointer (some ⟨Bs, 0, none⟩)] W _
  refine callsIn_of_wp Try.func169 rfl trivial ?_ rfl
  simp only [Try.ntmps169, List.size_toArray, List.length_cons, List.length_nil, Nat.reduceAdd, Nat.reduceSub, Array.replicate_succ, Array.replicate_zero, List.push_toArray, List.append_toArray, List.nil_append, List.cons_append]
  gi_wp2
  gi_loopw [3] (fun i wr => ∃ (x : Int) (k : Nat), i = .int .i64 x ∧ Hid (x = (k : Int) - 1) ∧ k ≤ rs.length ∧ J (fun _ => False) (rs.zipIdx.drop k).reverse wr ∧ Keep S W wr)
    (fun i _ => (intOf i + 1).toNat)
  case atStart => exact ⟨_, rs.length, rfl, hide rfl, Nat.le_refl _, by rw [List.drop_of_length_le (by simp)]; exact h0, Keep.refl _ _⟩
  case round =>
    obtain ⟨x, k, rfl, hx, hk, hJs, hkw⟩ := hrel
    have hxk := hx.out
    by_cases hlt : 0 < k
    · obtain ⟨k, rfl⟩ : ∃ m, k = m + 1 := ⟨k - 1, by omega⟩
      obtain rfl : x = (k : Int) := by omega
      clear hxk hx
      obtain ⟨⟨a', n', c', hs'⟩, b, off, rfl, hSb, hc1, hc2⟩ := hr k (by omega)
      have hc1' := (hk0.trans hkw).cell (p := ⟨b, off + k * 2, none⟩) hSb hc1
      have hc2' := (hk0.trans hkw).cell (p := ⟨b, off + k * 2 + 1, none⟩) hSb hc2
      have hbw := hkw.cell (p := ⟨Bs, 0, none⟩) hS hb0
      obtain ⟨fn, tmps, assign, body, hy, hR⟩ := hY (fun _ => False) _ (rs[k], k) wr (by rw [zip_step rs k (by omega)]; exact zip_pre _ _) (fun b hb => hb.elim) hkw hJs
      simp only [encT] at hy
      rw [zip_step rs k (by omega)] at hR
      rw [hs'] at hc2' hy
      clear hc1 hc2 hr
      gi_wp2
      refine ⟨rfl, hR.mono ?_⟩
      rintro e W3 ⟨hk3, ⟨rfl, hJ3⟩ | ⟨rfl, hJ3⟩⟩
      · gi_wp2
        go_roundw
        case rel => exact ⟨_, k, rfl, hide rfl, by omega, hJ3, hkw.trans (hk3.mono fun b _ hb => .inl hb)⟩
        case measure => simp [intOf]
      · gi_wp2
        refine bodyPost_ret (results_none rfl _ _ _) rfl ?_
        exact ⟨⟨_, rfl⟩, hkw.trans (hk3.mono fun b _ hb => .inl hb), (fun _ => False), fun b hb => False.elim hb, .inr ⟨_, zip_pre rs k, hJ3⟩⟩
    · obtain rfl : k = 0 := by omega
      have hx0 : x = -1 := by omega
      subst hx0
      clear hxk hx
      gi_wp2
      go_end0
      exact ⟨⟨_, rfl⟩, hkw, (fun _ => False), fun b hb => False.elim hb, .inl (by simpa using hJs)⟩
theorem backT_calls (s : Value) (hs : ∃ a n c, s = .slice a n c) (w : World) :
    Calls Try.prog 139 #[s] w fun e w' => e = .returned (.func (.func 169) #[] #[.pointer (some ⟨w.heap.size, 0, none⟩)]) ∧ w' = w.alloc (.cells #[s] 23) := by
  obtain ⟨a, n, c, rfl⟩ := hs
  go_enter Try.func139, Try.ntmps139
  go_wp2
  go_ret
  exact ⟨rfl, rfl⟩
end Go.Proofs.Ythplndalbfcbbaa
set_option linter.unusedSimpArgs false
set_option linter.unusedVariables false
namespace Go.Proofs.Ythplndalbfcbbaa
open Go.RowKit
section
variable {P : Program} {ops : Array Oper} {Q : Exit → Act → World → Prop} {S : World → Prop}
def SeqR (P : Program) (ops : Array Oper) (Q : Exit → Act → World → Prop) (S : World → Prop) : List (Nat × Bool) → Act → World → Prop
  | [], a, w => Q .normal a w
  | (i, true) :: is, a, w => wpOp P ops Q i (fun a' w' => S w' ∧ SeqR P ops Q S is a' w') a w
  | (i, false) :: is, a, w => ∃ o v, ops[i]? = some o ∧ YieldsIf P ops S o v a ∧ SeqR P ops Q S is (a.put o.dst v) w
def okOrder (md : Region.Mode) (ops : Array Oper) : List (Nat × Bool) → Array Bool → Bool
  | [], l => (Region.ready md ops l).isEmpty
  | (i, h) :: is, l => (if h then Region.ready md ops l == [i] else (Region.ready md ops l).contains i && Region.free md ops l i) && okOrder md ops is (l.setIfInBounds i true)
theorem anyH_of_seq {md : Region.Mode} (hsel : Region.noSelect ops = true) (hQ : ∀ c t v a w, Q (.panic c) (a.put (some t) v) w → Q (.panic c) a w) :
    ∀ (order : List (Nat × Bool)) (l : Array Bool) (a : Act) (w : World), okOrder md ops order l = true → S w → SeqR P ops Q S order a w → wpAnyH P md ops Q S order.length l a w
  | [], l, a, w, h, _, hs => by
    have h' : Region.ready md ops l = [] := by simpa [okOrder] using h
    exact wpAnyH_done h' hs 0
  | (i, true) :: is, l, a, w, h, hS, hs => by
    simp only [okOrder, Bool.and_eq_true, if_true, beq_iff_eq] at h
    refine wpAnyH_all h.1 (by simp) fun j hj => ?_
    simp only [List.mem_singleton] at hj
    subst hj
    exact wpOp_mono (fun a' w' h' => ⟨h'.1, anyH_of_seq hsel hQ is _ a' w' h.2 h'.1 h'.2⟩) hs
  | (i, false) :: is, l, a, w, h, hS, ⟨o, v, ho, hy, hs⟩ => by
    simp only [okOrder, Bool.and_eq_true, if_false, Bool.false_eq_true] at h
    exact wpAnyH_take ho hsel h.1.2 h.1.1 (fun c a w h9 => by
      cases hd : o.dst with
      | none => rw [hd] at h9; exact h9
      | some t => rw [hd] at h9; exact hQ c t v a w h9) hy hS (anyH_of_seq hsel hQ is _ _ w h.2 hS hs)
theorem drawn_region {id : Nat} {a : Act} {w : World} (S : World → Prop) (order : List (Nat × Bool)) (hm : P.follows .mixedOrders = true) (hn : (order.length == ops.size) = true) (hsel : Region.noSelect ops = true)
    (hok : okOrder .any ops order (Array.replicate ops.size false) = true) (hQ : ∀ c t v a w, Q (.panic c) (a.put (some t) v) w → Q (.panic c) a w) (hS : S w.drew) (h : SeqR P ops Q S order a w.drew) : (Code.region id ops true).wp P Q a w := by
  refine wp_region_held (S := S) hm ?_
  have := anyH_of_seq hsel hQ order _ a w.drew hok hS h
  rw [beq_iff_eq.1 hn] at this
  exact this
variable {i : Nat} {is : List (Nat × Bool)} {o : Oper} {v : Value} {a : Act} {w : World}
def wantL (ds : List (Option Nat)) (o : Oper) (tmps : Array Value) : Bool :=
  match o.guard with
  | none => true
  | some (j, b) => match (ds[j]?).join with
    | some t => (match tmps[t]? with | some (.bool x) => x == b | _ => false)
    | none => false
theorem wantL_eq {ds : List (Option Nat)} (h : ops.toList.map (·.dst) = ds) (o : Oper) (tmps : Array Value) : wantL ds o tmps = Region.wanted o (yielded ops tmps) := by
  subst h
  unfold wantL Region.wanted
  cases o.guard with
  | none => rfl
  | some g =>
    obtain ⟨j, b⟩ := g
    simp only [yielded, List.getElem?_map, Array.getElem?_toList]
    cases hj : ops[j]? with
    | none => simp
    | some oj =>
      simp only [Option.map_some, Option.join_some, Option.bind_some]
      cases hd : oj.dst with
      | none => simp
      | some t =>
        simp only [Option.bind_some]
        cases tmps[t]? with
        | none => simp
        | some x => cases x <;> simp
def SeqL (P : Program) (ds : List (Option Nat)) (Q : Exit → Act → World → Prop) (S : World → Prop) : List Oper → List Bool → Act → World → Prop
  | o :: os, true :: hs, a, w => (wantL ds o a.tmps = true → ∀ K' : Act → World → Prop, Hid (∀ a w, S w → SeqL P ds Q S os hs a w → K' a w) → Oper.wp P o a w K' Q) ∧ (wantL ds o a.tmps = false → S w ∧ SeqL P ds Q S os hs (a.put o.dst undef) w)
  | o :: os, false :: hs, a, w => ∃ v, ((wantL ds o a.tmps = true ∧ ∀ w, S w → (execOp a.eval o).run P w = .ok (.value v) w) ∨ (wantL ds o a.tmps = false ∧ v = undef)) ∧ SeqL P ds Q S os hs (a.put o.dst v) w
  | _, _, a, w => Q .normal a w
def ordOf : Nat → List Bool → List (Nat × Bool)
  | _, [] => []
  | i, h :: hs => (i, h) :: ordOf (i + 1) hs
theorem ordOf_length (i : Nat) (hs : List Bool) : (ordOf i hs).length = hs.length := by induction hs generalizing i <;> simp_all [ordOf]
theorem seqR_of_seqL {ds : List (Option Nat)} (hds : ops.toList.map (·.dst) = ds) : ∀ (os : List Oper) (hs : List Bool) (i : Nat) (a : Act) (w : World), os.length = hs.length → (∀ j, ops[i + j]? = os[j]?) → SeqL P ds Q S os hs a w → SeqR P ops Q S (ordOf i hs) a w
  | [], [], i, a, w, _, _, h => by simpa only [SeqL, ordOf, SeqR] using h
  | o :: os, h :: hs, i, a, w, hn, ho, hq => by
    have h0 : ops[i]? = some o := by simpa using ho 0
    have hr : ∀ j, ops[i + 1 + j]? = os[j]? := fun j => by have := ho (j + 1); rw [show i + 1 + j = i + (j + 1) by omega, this]; simp
    have hn' : os.length = hs.length := by simpa using hn
    cases h with
    | true =>
      simp only [SeqL] at hq
      simp only [ordOf, SeqR]
      refine wpOp_step h0 fun K' hK => ?_
      rw [wantL_eq hds] at hq
      split
      · rename_i hw
        exact hq.1 hw K' (hide fun a w hS hs' => hK a w ⟨hS, seqR_of_seqL hds os hs (i + 1) a w hn' hr hs'⟩)
      · rename_i hw
        obtain ⟨hS, hs'⟩ := hq.2 (by simpa using hw)
        exact hK _ _ ⟨hS, seqR_of_seqL hds os hs (i + 1) _ _ hn' hr hs'⟩
    | false =>
      simp only [SeqL] at hq
      obtain ⟨v, hy, hs'⟩ := hq
      rw [wantL_eq hds] at hy
      exact ⟨o, v, h0, hy, seqR_of_seqL hds os hs (i + 1) _ _ hn' hr hs'⟩
  | [], h :: hs, _, _, _, hn, _, _ => by simp at hn
  | o :: os, [], _, _, _, hn, _, _ => by simp at hn
theorem drawn_text {id : Nat} {os : List Oper} {a : Act} {w : World} (S : World → Prop) (hs : List Bool) (ds : List (Option Nat)) (hm : P.follows .mixedOrders = true) (hn : (os.length == hs.length) = true) (hds : os.map (·.dst) = ds) (hsel : Region.noSelect os.toArray = true)
    (hok : okOrder .any os.toArray (ordOf 0 hs) (Array.replicate os.length false) = true) (hQ : ∀ c t v a w, Q (.panic c) (a.put (some t) v) w → Q (.panic c) a w) (hS : S w.drew)
    (h : SeqL P ds Q S os hs a w.drew) : (Code.region id os.toArray true).wp P Q a w :=
  drawn_region S (ordOf 0 hs) hm (by rw [ordOf_length]; simp at hn ⊢; exact hn.symm) hsel (by simpa using hok) hQ hS (seqR_of_seqL (by simpa using hds) os hs 0 a w.drew (by simpa using hn) (by simp) h)
variable {ds : List (Option Nat)} {os : List Oper} {hs : List Bool}
theorem txt_take (hw : wantL ds o a.tmps = true) (hv : ∀ w, S w → (execOp a.eval o).run P w = .ok (.value v) w) (h : SeqL P ds Q S os hs (a.put o.dst v) w) : SeqL P ds Q S (o :: os) (false :: hs) a w := ⟨v, .inl ⟨hw, hv⟩, h⟩
theorem txt_skip (hw : wantL ds o a.tmps = false) (h : SeqL P ds Q S os hs (a.put o.dst undef) w) : SeqL P ds Q S (o :: os) (false :: hs) a w := ⟨undef, .inr ⟨hw, rfl⟩, h⟩
theorem txt_done (h : Q .normal a w) : SeqL P ds Q S [] [] a w := by simpa only [SeqL] using h
end
end Go.Proofs.Ythplndalbfcbbaa
set_option linter.unusedVariables false
set_option linter.unusedSimpArgs false
namespace Go.Proofs.Ythplndalbfcbbaa
open Go.RowKit Go.ChangeMaps Go.MapKept Go.WideShapes Go.ChangeShapes
def MapAt (W : World) (b : Nat) (f : Int → Option Value) : Prop :=
  ∃ es clock, W.heap[b]? = some (.map es clock) ∧ (∀ e ∈ es.toList, ∃ x : Int, e.key = .int .i64 x ∧ -9223372036854775808 ≤ x ∧ x ≤ 9223372036854775807) ∧
    (∀ (i j : Nat) (e e' : MapEntry), es.toList[i]? = some e → es.toList[j]? = some e' → e.key = e'.key → i = j) ∧
    (∀ e ∈ es.toList, ∀ x : Int, e.key = .int .i64 x → f x = some e.val) ∧ (∀ x v, f x = some v → ∃ e ∈ es.toList, e.key = .int .i64 x) ∧ MapKept.Stamped es clock
theorem wf_i64 {x : Int} (h : -9223372036854775808 ≤ x) (h' : x ≤ 9223372036854775807) : (Lit.int .i64 x).wf = true := by
  have e1 : IntKind.i64.min = -9223372036854775808 := by decide
  have e2 : IntKind.i64.max = 9223372036854775807 := by decide
  simp [Lit.wf, e1, e2]; omega
section
variable {P : Program} {W W' : World} {b : Nat} {f : Int → Option Value} {k e t : TypeId}
theorem MapAt.keep {S : Nat → Prop} (h : MapAt W b f) (hk : Keep S W W') (hb : S b) : MapAt W' b f := by
  obtain ⟨es, clock, h1, h2⟩ := h
  exact ⟨es, clock, hk.obj hb h1, h2⟩
theorem MapAt.below (h : MapAt W b f) (hB : Below W.heap.size W W') : MapAt W' b f := h.keep (S := fun _ => True) (.of_below hB) trivial
theorem MapAt.lt (h : MapAt W b f) : b < W.heap.size := by
  obtain ⟨es, clock, h1, _⟩ := h
  exact (Array.getElem?_eq_some_iff.1 h1).1
theorem MapAt.made (W : World) : MapAt (W.alloc (.map #[] 0)) W.heap.size fun _ => none :=
  ⟨#[], 0, World.alloc_heap_new _ _, by simp, by simp, by simp, by simp, MapKept.stamped_empty 0⟩
theorem MapAt.look (h : MapAt W b f) (hk : P.underlying k = some (.int .i64)) (ht : P.underlying t = some (.map k e)) {z : Value} (hz : (zeroValue e).run P W = .ok z W) {x : Int} (h0 : -9223372036854775808 ≤ x) (h1 : x ≤ 9223372036854775807) :
    (Instr.lookup t (.map (some b)) (.int .i64 x) true).run P W = .ok (.tuple #[(f x).getD z, .bool (f x).isSome]) W := by
  obtain ⟨es, clock, hb, hkeys, huniq, hval, hdom, hst⟩ := h
  have K := Maps.int_keyed (P := P) hk
  have hkey := Maps.keyOf_int_mk hk (wf_i64 h0 h1)
  rcases K.find W hkey es.toList (fun e he => by obtain ⟨y, hy, hy0, hy1⟩ := hkeys e he; rw [hy]; exact ⟨_, Maps.keyOf_int_mk hk (wf_i64 hy0 hy1)⟩) with ⟨g1, g2⟩ | ⟨j, e0, g1, g2, g3⟩
  · have hf : f x = none := by
      cases hfx : f x with
      | none => rfl
      | some v => obtain ⟨e, he, hek⟩ := hdom x v hfx; exact absurd hek (g2 e he)
    simp [Instr.lookup, run_underlying ht, MapKept.run_getObj_map hb, K.check W _ hkey, g1, hz, Result.andThen, hf]
  · have hf := hval e0 (List.mem_of_getElem? g2) x g3
    simp [Instr.lookup, run_underlying ht, MapKept.run_getObj_map hb, K.check W _ hkey, g1, Result.andThen, hf]
theorem MapAt.store (h : MapAt W b f) (hk : P.underlying k = some (.int .i64)) (ht : P.underlying t = some (.map k e)) {x : Int} (h0 : -9223372036854775808 ≤ x) (h1 : x ≤ 9223372036854775807) (v : Value) :
    ∃ W', (Instr.mapUpdate t (.map (some b)) (.int .i64 x) v).run P W = .ok () W' ∧ MapAt W' b (fun y => if y = x then some v else f y) ∧ Keep (fun c => c ≠ b) W W' := by
  obtain ⟨es, clock, hb, hkeys, huniq, hval, hdom, hst⟩ := h
  have K := Maps.int_keyed (P := P) hk
  have hkey := Maps.keyOf_int_mk hk (wf_i64 h0 h1)
  have hkp : ∀ o, Keep (fun c => c ≠ b) W (setBlock W b o) := fun o => ⟨rfl, rfl, rfl, by simp [setBlock], fun i hi hne => heap_setBlock_other hb _ (fun e => hne (by rw [e]))⟩
  rcases K.find W hkey es.toList (fun e he => by obtain ⟨y, hy, hy0, hy1⟩ := hkeys e he; rw [hy]; exact ⟨_, Maps.keyOf_int_mk hk (wf_i64 hy0 hy1)⟩) with ⟨g1, g2⟩ | ⟨j, e0, g1, g2, g3⟩
  · refine ⟨setBlock W b (.map (es.push ⟨.int .i64 x, v, clock⟩) (clock + 1)), ?_, ⟨_, _, heap_setBlock_same hb _, ?_, ?_, ?_, ?_, ?_⟩, hkp _⟩
    · simp [Instr.mapUpdate, run_underlying ht, MapKept.run_getObj_map hb, K.check W false hkey, g1, MapKept.run_setObj_map _ hb, Result.andThen, setBlock]
    · intro e he
      simp only [Array.toList_push, List.mem_append, List.mem_singleton] at he
      rcases he with he | rfl
      · exact hkeys e he
      · exact ⟨x, rfl, h0, h1⟩
    · intro i j e e' hi hj hee
      simp only [Array.toList_push, List.getElem?_append, List.getElem?_singleton] at hi hj
      split at hi <;> split at hj
      · exact huniq i j e e' hi hj hee
      · split at hj
        · cases hj; exact absurd hee (g2 e (List.mem_of_getElem? hi))
        · cases hj
      · split at hi
        · cases hi; exact absurd hee.symm (g2 e' (List.mem_of_getElem? hj))
        · cases hi
      · split at hi <;> split at hj <;> first | omega | (cases hi; done) | (cases hj; done)
    · intro e he y hy
      simp only [Array.toList_push, List.mem_append, List.mem_singleton] at he
      rcases he with he | rfl
      · have hne : y ≠ x := fun e1 => g2 e he (by rw [hy, e1])
        simp [hne, hval e he y hy]
      · have e1 : x = y := by simpa using hy
        simp [e1]
    · intro y u hu
      by_cases hyx : y = x
      · exact ⟨⟨.int .i64 x, v, clock⟩, by simp, by rw [hyx]⟩
      · simp [hyx] at hu
        obtain ⟨e, he, hek⟩ := hdom y u hu
        exact ⟨e, by simp [he], hek⟩
    · exact MapKept.stamped_push hst fun e he h => g2 e he h
  · have hj : es[j]? = some e0 := by simpa using g2
    have hjl : j < es.toList.length := (List.getElem?_eq_some_iff.1 g2).1
    have hlist : (es.modify j (fun e' => { e' with key := .int .i64 x, val := v })).toList = es.toList.set j { e0 with key := .int .i64 x, val := v } := by
      apply List.ext_getElem?
      intro i
      simp only [Array.toList_modify, List.getElem?_modify, List.getElem?_set]
      by_cases hij : j = i
      · subst hij; simp [g2, hjl]; simpa using hjl
      · simp [hij]
    refine ⟨setBlock W b (.map (es.modify j (fun e' => { e' with key := .int .i64 x, val := v })) clock), ?_, ⟨_, _, heap_setBlock_same hb _, ?_, ?_, ?_, ?_, ?_⟩, hkp _⟩
    · simp [Instr.mapUpdate, run_underlying ht, MapKept.run_getObj_map hb, K.check W false hkey, g1, hj, g3, K.stays W hkey, MapKept.run_setObj_map _ hb, Result.andThen, setBlock]
    · intro e he
      rw [hlist] at he
      rcases List.mem_or_eq_of_mem_set he with he | rfl
      · exact hkeys e he
      · exact ⟨x, rfl, h0, h1⟩
    · intro i i' e e' hi hi' hee
      rw [hlist, List.getElem?_set] at hi hi'
      split at hi <;> split at hi'
      · omega
      · rename_i c1 c2
        simp [c1 ▸ hjl] at hi
        subst hi
        have := huniq j i' e0 e' g2 hi' (by rw [g3]; exact hee)
        omega
      · rename_i c1 c2
        simp [c2 ▸ hjl] at hi'
        subst hi'
        have := huniq i j e e0 hi g2 (by rw [g3]; exact hee)
        omega
      · exact huniq i i' e e' hi hi' hee
    · intro e he y hy
      rw [hlist] at he
      obtain ⟨i, hi, rfl⟩ := List.getElem_of_mem he
      rw [List.getElem_set] at hy ⊢
      split
      · rename_i c1
        simp only [c1, if_true] at hy
        have e1 : x = y := by simpa using hy
        simp [e1]
      · rename_i c1
        simp only [c1, if_false] at hy
        have hi' : i < es.toList.length := by simpa using hi
        have hne : y ≠ x := fun e1 => c1 (huniq j i e0 es.toList[i] g2 (List.getElem?_eq_getElem hi') (by rw [g3, hy, e1]))
        simp [hne]
        have := hval es.toList[i] (List.getElem_mem hi') y hy
        simpa using this
    · intro y u hu
      rw [hlist]
      by_cases hyx : y = x
      · exact ⟨{ e0 with key := .int .i64 x, val := v }, List.mem_set hjl _, by rw [hyx]⟩
      · simp [hyx] at hu
        obtain ⟨e, he, hek⟩ := hdom y u hu
        obtain ⟨i, hi, rfl⟩ := List.getElem_of_mem he
        have hne : j ≠ i := fun e1 => by
          subst e1
          have : es.toList[j] = e0 := by rw [List.getElem?_eq_getElem hi] at g2; exact Option.some.inj g2
          rw [this, g3] at hek
          cases hek; exact hyx rfl
        exact ⟨es.toList[i], List.mem_iff_getElem?.2 ⟨i, by rw [List.getElem?_set_ne hne]; exact List.getElem?_eq_getElem hi⟩, hek⟩
    · refine MapKept.stamped_modify hst j _ (fun e _ => rfl) fun e he h => ?_
      rw [hj] at h
      cases h
      exact g3.symm
end
end Go.Proofs.Ythplndalbfcbbaa
set_option linter.unusedSimpArgs false
set_option linter.unusedVariables false
namespace Go.Proofs.Ythplndalbfcbbaa
open Go.RowKit Go.Shelf
attribute [local go_sem] Oper.semAt_some
end Go.Proofs.Ythplndalbfcbbaa
