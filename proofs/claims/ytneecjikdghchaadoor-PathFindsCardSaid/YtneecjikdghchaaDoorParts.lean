/- term.parts: a term's parts, each with its depth, from the left, ahead of its arguments. -/
import Derived.WalkSmall
import Derived.Deep.LoopGhost
import Derived.Test.YtneecjikdghchaaDoorBack
import Derived.Test.YtneecjikdghchaaDoorApp
set_option linter.unusedSimpArgs false
set_option linter.unusedVariables false
namespace Go.Proofs.YtneecjikdghchaaDoor
open Go.RowKit Go.Shelf
attribute [local go_sem] Oper.semAt_some

/-- A loop whose invariant bears a number that each round lowers. -/
theorem loop_ghost {F : Fence} {P : Program} {Q : Exit → Act → World → Prop} {a : Act} {w : World} {c : Code} (I : Nat → Act → World → Prop) (n₀ : Nat) (h₀ : I n₀ a w)
    (round : ∀ n a w, I n a w → ∀ K : Act → World → Prop, (∀ n' a' w', n' < n → I n' a' w' → K a' w') → c.wpIn F 0 P (Exit.then K Q) a w) : (Code.loop c).wpIn F 0 P Q a w := by
  refine wpIn_loop (fun a w => ∃ n, I n a w) (fun a w => leastOf (fun n => I n a w)) ⟨n₀, h₀⟩ ?_
  intro a w hI
  refine round _ a w (leastOf_spec hI).1 _ ?_
  intro n' a' w' hlt hI'
  exact ⟨⟨n', hI'⟩, Nat.lt_of_le_of_lt ((leastOf_spec ⟨n', hI'⟩).2 n' hI') hlt⟩

theorem cut_in {F : Fence} {n : Nat} {P : Program} {c : Code} {K : Act → World → Prop} {Q : Exit → Act → World → Prop} {a : Act} {w : World} (R : Act → World → Prop)
    (h : c.wpIn F n P (Exit.then R (fun _ _ _ => False)) a w) (k : ∀ a' w', R a' w' → K a' w') : c.wpIn F n P (Exit.then K Q) a w := by
  refine wpIn_mono h ?_
  intro e a' w' hq
  cases e <;> first | exact k _ _ hq | exact hq.elim
theorem cut_pl {P : Program} {c : Code} {K : Act → World → Prop} {Q : Exit → Act → World → Prop} {a : Act} {w : World} (R : Act → World → Prop)
    (h : c.wp P (Exit.then R (fun _ _ _ => False)) a w) (k : ∀ a' w', R a' w' → K a' w') : c.wp P (Exit.then K Q) a w := by
  refine wp_mono h ?_
  intro e a' w' hq
  cases e <;> first | exact k _ _ hq | exact hq.elim
/-! ### Marks among the deferred calls -/
def marks (Ds : List Nat) : List Deferred := Ds.map fun D => { target := .collected D, args := #[] }
def Marked (W : World) (Ds : List Nat) : Prop := Ds.Nodup ∧ ∀ D, D ∈ Ds → W.heap[D]? = some (.deferred (some []))
theorem Marked.keep {W W' : World} {Ds : List Nat} {S : Nat → Prop} (h : Marked W Ds) (hk : Keep S W W') (hS : ∀ D, D ∈ Ds → S D) : Marked W' Ds :=
  ⟨h.1, fun D hD => hk.obj (hS D hD) (h.2 D hD)⟩
theorem leaves_marks {P : Program} {fn : Func} {tmps : Array Value} {R : Ending → World → Prop} : ∀ (Ds : List Nat) (W : World), Marked W Ds →
    (∀ W', Keep (fun b => b ∉ Ds) W W' → ∃ v, (results fn tmps).run P W' = .ok v W' ∧ R (.returned v) W') → LeavesInM Fence.wide 0 P fn tmps R (marks Ds) .returning W
  | [], W, _, h => by simpa [marks, LeavesInM, LeavesIn] using h W (Keep.refl _ _)
  | D :: Ds, W, hm, h => by
    obtain ⟨h1, h2⟩ := hm
    simp only [List.nodup_cons] at h1
    have hk : Keep (fun b => b ∉ D :: Ds) W (W.putObj D (.deferred none)) := (Keep.refl _ _).putObj (by simp) _
    refine ⟨by simp, .inl ⟨D, _, rfl, run_takeDeferred (h2 D (by simp)), leaves_marks Ds _ ⟨h1.2, fun E hE => ?_⟩ fun W' hW' => ?_⟩⟩
    · rw [World.putObj_heap_other (fun e => h1.1 (by rw [← e]; exact hE))]
      exact h2 E (by simp [hE])
    · exact h W' (hk.trans (hW'.mono fun b _ hb => fun h => hb (by simp [h])))

/-! ### A term's parts, as its cells stand -/
def rdH (W : World) (s : Value) (i : Nat) : Int := match s with
  | .slice (some a) _ _ => (match W.cell? ⟨a.block, a.off + i * 2, none⟩ with | some (.int _ x) => x | _ => 0)
  | _ => 0
def rdS (W : World) (s : Value) (i : Nat) : Value := match s with
  | .slice (some a) _ _ => (W.cell? ⟨a.block, a.off + i * 2 + 1, none⟩).getD undef
  | _ => undef
def rdRow (W : World) (s : Value) (n : Nat) : List (Int × Value) := (List.range n).map fun i => (rdH W s i, rdS W s i)
theorem rdRow_length (W : World) (s : Value) (n : Nat) : (rdRow W s n).length = n := by simp [rdRow]
theorem rdRow_get {A : Nat → Prop} {W : World} {a : Option Addr} {n c : Nat} {ts : List Tm} (h : Terms A W (.slice a n c) ts) (i : Nat) (hi : i < ts.length) (hi' : i < (rdRow W (.slice a n c) ts.length).length) :
    (rdRow W (.slice a n c) ts.length)[i].1 = ts[i].h ∧ Terms A W (rdRow W (.slice a n c) ts.length)[i].2 ts[i].args ∧ (∃ a' c', (rdRow W (.slice a n c) ts.length)[i].2 = .slice a' ts[i].args.length c') ∧
      ∃ b off, a = some ⟨b, off, none⟩ ∧ b < W.heap.size ∧ ¬ A b ∧ W.cell? ⟨b, off + i * 2, none⟩ = some (.int .i64 (rdRow W (.slice a n c) ts.length)[i].1) ∧ W.cell? ⟨b, off + i * 2 + 1, none⟩ = some (rdRow W (.slice a n c) ts.length)[i].2 := by
  obtain ⟨b, off, a', c', rfl, h2, h3, h4, h5, h6⟩ := h.get i hi
  simp only [rdRow, List.getElem_map, List.getElem_range, rdH, rdS, h4, h5, Option.getD_some]
  exact ⟨trivial, h6, ⟨a', c', rfl⟩, b, off, rfl, h2, h3, h4, h5⟩
abbrev Raw := Int × Int × Value
mutual
def rawT (W : World) : Tm → Int → Int × Value → List Raw
  | .node _ l, d, r => (d, r.1, r.2) :: rawL W l (d + 1) (rdRow W r.2 l.length)
def rawL (W : World) : List Tm → Int → List (Int × Value) → List Raw
  | [], _, _ => []
  | _ :: _, _, [] => []
  | t :: ts, d, r :: rs => rawT W t d r ++ rawL W ts d rs
end
theorem rawT_eq (W : World) (t : Tm) (d : Int) (r : Int × Value) : rawT W t d r = (d, r.1, r.2) :: rawL W t.args (d + 1) (rdRow W r.2 t.args.length) := by cases t; simp [rawT, Tm.args]
mutual
/-- The parts, each with its depth. -/
def preT : Int → Tm → List (Int × Tm)
  | d, .node h l => (d, .node h l) :: preL (d + 1) l
def preL : Int → List Tm → List (Int × Tm)
  | _, [] => []
  | d, t :: ts => preT d t ++ preL d ts
end
/-- A part's cells and the part. -/
def RawIs (A : Nat → Prop) (W : World) (r : Raw) (p : Int × Tm) : Prop := r.1 = p.1 ∧ r.2.1 = p.2.h ∧ Terms A W r.2.2 p.2.args ∧ ∃ a c, r.2.2 = .slice a p.2.args.length c
inductive All2 {β γ : Type} (R : β → γ → Prop) : List β → List γ → Prop
  | nil : All2 R [] []
  | cons {x y xs ys} : R x y → All2 R xs ys → All2 R (x :: xs) (y :: ys)
theorem All2.append {β γ : Type} {R : β → γ → Prop} {a b : List β} {c d : List γ} (h : All2 R a c) (k : All2 R b d) : All2 R (a ++ b) (c ++ d) := by
  induction h with
  | nil => exact k
  | cons h _ ih => exact .cons h ih
theorem All2.mem {β γ : Type} {R : β → γ → Prop} {a : List β} {c : List γ} (h : All2 R a c) : ∀ x ∈ a, ∃ y ∈ c, R x y := by
  induction h with
  | nil => simp
  | cons h _ ih =>
    intro x hx
    simp only [List.mem_cons] at hx
    rcases hx with rfl | hx
    · exact ⟨_, by simp, h⟩
    · obtain ⟨y, hy, hr⟩ := ih x hx
      exact ⟨y, by simp [hy], hr⟩
theorem All2.length {β γ : Type} {R : β → γ → Prop} {a : List β} {c : List γ} (h : All2 R a c) : a.length = c.length := by induction h <;> simp_all
mutual
theorem rawT_pre {A : Nat → Prop} {W : World} : ∀ (t : Tm) (d : Int) (r : Int × Value), r.1 = t.h → Terms A W r.2 t.args → All2 (RawIs A W) (rawT W t d r) (preT d t)
  | .node h l, d, r, h1, h2 => by
    obtain ⟨a, c, e, _⟩ := h2.shape
    simp only [Tm.h, Tm.args] at h1 h2 e
    simp only [rawT, preT]
    refine .cons ⟨rfl, h1, h2, a, c, e⟩ (rawL_pre l (d + 1) _ (rdRow_length _ _ _) fun i hi hi' => ?_)
    rw [e] at h2
    simp only [e]
    obtain ⟨g1, g2, _⟩ := rdRow_get h2 i hi' (by simpa [rdRow] using hi')
    exact ⟨g1, g2⟩
theorem rawL_pre {A : Nat → Prop} {W : World} : ∀ (l : List Tm) (d : Int) (rs : List (Int × Value)), rs.length = l.length → (∀ i (hi : i < rs.length) (hi' : i < l.length), rs[i].1 = l[i].h ∧ Terms A W rs[i].2 l[i].args) → All2 (RawIs A W) (rawL W l d rs) (preL d l)
  | [], d, rs, _, _ => by simp only [rawL, preL]; exact .nil
  | t :: ts, d, [], h, _ => by simp at h
  | t :: ts, d, r :: rs, h, hr => by
    simp only [rawL, preL]
    refine (rawT_pre t d r (hr 0 (by simp) (by simp)).1 (hr 0 (by simp) (by simp)).2).append (rawL_pre ts d rs (by simpa using h) fun i hi hi' => ?_)
    exact hr (i + 1) (by simpa using hi) (by simpa using hi')
end

theorem raw_mem_shape {A : Nat → Prop} {W : World} {t : Tm} {d : Int} {r : Int × Value} (h1 : r.1 = t.h) (h2 : Terms A W r.2 t.args) {x : Raw} (hx : x ∈ rawT W t d r) : ∃ a n c, x.2.2 = .slice a n c := by
  obtain ⟨p, _, _, _, _, a, c, e⟩ := (rawT_pre t d r h1 h2).mem x hx
  exact ⟨a, _, c, e⟩
def encP (x : Raw) : Array Value := #[.int .i64 x.1, .agg #[.int .i64 x.2.1, x.2.2]]

/-- What lies on the stack, the top first: a part, its depth, its cells. -/
structure Spot where
  t : Tm
  d : Int
  r : Int × Value
def Spot.cells (x : Spot) : List Value := [.int .i64 x.r.1, x.r.2, .int .i64 x.d]
def flatS : List Spot → List Value
  | [] => []
  | x :: xs => flatS xs ++ x.cells
theorem flatS_length (xs : List Spot) : (flatS xs).length = xs.length * 3 := by induction xs <;> simp_all [flatS, Spot.cells]; omega
def restS (W : World) (xs : List Spot) : List Raw := xs.flatMap fun x => rawT W x.t x.d x.r
def sizeS : List Spot → Nat
  | [] => 0
  | x :: xs => x.t.size + sizeS xs
def SpotOk (A : Nat → Prop) (W : World) (x : Spot) : Prop := x.r.1 = x.t.h ∧ Terms A W x.r.2 x.t.args ∧ 0 ≤ x.d ∧ x.d + x.t.size ≤ 1000000001
/-- A term's arguments, laid on the stack. -/
def kids (l : List Tm) (d : Int) (rs : List (Int × Value)) : List Spot := (l.zip rs).map fun x => ⟨x.1, d, x.2⟩
theorem restS_kids (W : World) : ∀ (l : List Tm) (d : Int) (rs : List (Int × Value)), restS W (kids l d rs) = rawL W l d rs
  | [], d, rs => by simp [kids, restS, rawL]
  | t :: ts, d, [] => by simp [kids, restS, rawL]
  | t :: ts, d, r :: rs => by
    have := restS_kids W ts d rs
    simp only [kids, restS, List.zip_cons_cons, List.map_cons, List.flatMap_cons, rawL] at this ⊢
    rw [this]
theorem sizeS_kids : ∀ (l : List Tm) (d : Int) (rs : List (Int × Value)), rs.length = l.length → sizeS (kids l d rs) = Tm.sizes l
  | [], d, rs, _ => by simp [kids, sizeS, Tm.sizes]
  | t :: ts, d, [], h => by simp at h
  | t :: ts, d, r :: rs, h => by
    have := sizeS_kids ts d rs (by simpa using h)
    simp only [kids, List.zip_cons_cons, List.map_cons, sizeS, Tm.sizes] at this ⊢
    rw [this]
theorem sizeS_append (a b : List Spot) : sizeS (a ++ b) = sizeS a + sizeS b := by induction a <;> simp_all [sizeS]; omega
theorem sizeS_length (a : List Spot) : a.length ≤ sizeS a := by
  induction a with
  | nil => simp
  | cons x xs ih => have := x.t.size_eq; simp [sizeS]; omega

/-- One step of laying a term's arguments on the stack, from behind. -/
def spotsOf (l : List Tm) (d : Int) (ys : List ((Int × Value) × Nat)) : List Spot := (ys.map fun y => ⟨l.getD y.2 (.node 0 []), d, y.1⟩).reverse
theorem spotsOf_snoc (l : List Tm) (d : Int) (ys : List ((Int × Value) × Nat)) (y : (Int × Value) × Nat) : spotsOf l d (ys ++ [y]) = ⟨l.getD y.2 (.node 0 []), d, y.1⟩ :: spotsOf l d ys := by simp [spotsOf]
theorem spotsOf_length (l : List Tm) (d : Int) (ys : List ((Int × Value) × Nat)) : (spotsOf l d ys).length = ys.length := by simp [spotsOf]
theorem spotsOf_all (l : List Tm) (d : Int) (rs : List (Int × Value)) (h : rs.length = l.length) : spotsOf l d rs.zipIdx.reverse = kids l d rs := by
  simp only [spotsOf, kids, List.map_reverse, List.reverse_reverse]
  apply List.ext_getElem
  · simp [h]
  · intro i h1 h2
    have hi : i < l.length := by simp at h1; omega
    simp [hi]
theorem kids_ok {A : Nat → Prop} {W : World} {a : Option Addr} {n c : Nat} {l : List Tm} {d : Int} (h : Terms A W (.slice a n c) l) (hd : 0 ≤ d) (hb : d + Tm.sizes l ≤ 1000000001) :
    ∀ x, x ∈ kids l d (rdRow W (.slice a n c) l.length) → SpotOk A W x := by
  intro x hx
  obtain ⟨i, hi, rfl⟩ := List.getElem_of_mem hx
  have hi' : i < l.length := by simp [kids, rdRow] at hi; omega
  obtain ⟨g1, g2, _⟩ := rdRow_get h i hi' (by simpa [rdRow] using hi')
  have := Tm.size_get l i hi'
  refine ⟨?_, ?_, ?_, ?_⟩ <;> simp only [kids, List.getElem_map, List.getElem_zip]
  · exact g1
  · exact g2
  · exact hd
  · omega
theorem row_next {A : Nat → Prop} {W : World} {a : Option Addr} {n c : Nat} {l : List Tm} (h : Terms A W (.slice a n c) l) {pre : List ((Int × Value) × Nat)} {x : (Int × Value) × Nat}
    (hx : pre ++ [x] <+: (rdRow W (.slice a n c) l.length).zipIdx.reverse) : ∃ y, l[x.2]? = some y ∧ x.1.1 = y.h ∧ Terms A W x.1.2 y.args ∧ ∃ a1 c1, x.1.2 = .slice a1 y.args.length c1 := by
  obtain ⟨hi, hrx⟩ := zip_next hx
  have hi' : x.2 < l.length := by rw [rdRow_length] at hi; exact hi
  obtain ⟨g1, g2, ⟨a1, c1, g3⟩, _⟩ := rdRow_get h x.2 hi' hi
  rw [hrx] at g1 g2 g3
  exact ⟨l[x.2], by simp [hi'], g1, g2, a1, c1, g3⟩
theorem restS_cons (W : World) (x : Spot) (xs : List Spot) : restS W (x :: xs) = (x.d, x.r.1, x.r.2) :: (rawL W x.t.args (x.d + 1) (rdRow W x.r.2 x.t.args.length) ++ restS W xs) := by
  simp only [restS, List.flatMap_cons, rawT_eq, List.cons_append]
theorem restS_append (W : World) (a b : List Spot) : restS W (a ++ b) = restS W a ++ restS W b := by simp [restS]
mutual
theorem preT_length : ∀ (d : Int) (t : Tm), (preT d t).length = t.size
  | d, .node h l => by simp only [preT, List.length_cons, preL_length, Tm.size]; omega
theorem preL_length : ∀ (d : Int) (l : List Tm), (preL d l).length = Tm.sizes l
  | d, [] => by simp [preL, Tm.sizes]
  | d, t :: ts => by simp only [preL, List.length_append, preT_length, preL_length, Tm.sizes]
end
end Go.Proofs.YtneecjikdghchaaDoor
