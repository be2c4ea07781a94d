/- What the proof of the law rests on: contracts of the functions, plain laws, and words. -/
import Derived.WalkSmall
import Derived.Deep.LoopGhost
import Derived.Deep.Cut
import Derived.Deep.RegionWith
import Derived.Test.YthplndalbfcbbaaKFeatureSubsumesG0
set_option linter.unusedSimpArgs false
set_option linter.unusedVariables false
namespace Go.Proofs.Ythplndalbfcbbaa
open Go.RowKit Go.Shelf
attribute [local go_sem] Oper.semAt_some
theorem loop_ghost {F : Fence} {P : Program} {Q : Exit → Act → World → Prop} {a : Act} {w : World} {c : Code} (I : Nat → Act → World → Prop) (n₀ : Nat) (h₀ : I n₀ a w)
    (round : ∀ n a w, I n a w → ∀ K : Act → World → Prop, (∀ n' a' w', n' < n → I n' a' w' → K a' w') → c.wpIn F 0 P (Exit.then K Q) a w) : (Code.loop c).wpIn F 0 P Q a w := by
  refine wpIn_loop (fun a w => ∃ n, I n a w) (fun a w => leastOf (fun n => I n a w)) ⟨n₀, h₀⟩ ?_
  intro a w hI
  refine round _ a w (leastOf_spec hI).1 _ ?_
  intro n' a' w' hlt hI'
  exact ⟨⟨n', hI'⟩, Nat.lt_of_le_of_lt ((leastOf_spec ⟨n', hI'⟩).2 n' hI') hlt⟩
theorem cut_in {F : Fence} {n : Nat} {P : Program} {c : Code} {K : Act → World → Prop} {Q : Exit → Act → World → Prop} {a : Act} {w : World} (R : Act → World → Prop)
    (h : c.wpIn F n P (Exit.then R (fun _ _ _ => False)) a w) (k : ∀ a' w', R a' w' → K a' w') : c.wpIn F n P (Exit.then K Q) a w := by
  refine wpIn_mono h ?_
  intro e a' w' hq
  cases e <;> first | exact k _ _ hq | exact hq.elim
theorem cut_pl {P : Program} {c : Code} {K : Act → World → Prop} {Q : Exit → Act → World → Prop} {a : Act} {w : World} (R : Act → World → Prop)
    (h : c.wp P (Exit.then R (fun _ _ _ => False)) a w) (k : ∀ a' w', R a' w' → K a' w') : c.wp P (Exit.then K Q) a w := by
  refine wp_mono h ?_
  intro e a' w' hq
  cases e <;> first | exact k _ _ hq | exact hq.elim
def marks (Ds : List Nat) : List Deferred := Ds.map fun D => { target := .collected D, args := #[] }
def Marked (W : World) (Ds : List Nat) : Prop := Ds.Nodup ∧ ∀ D, D ∈ Ds → W.heap[D]? = some (.deferred (some []))
theorem Marked.keep {W W' : World} {Ds : List Nat} {S : Nat → Prop} (h : Marked W Ds) (hk : Keep S W W') (hS : ∀ D, D ∈ Ds → S D) : Marked W' Ds :=
  ⟨h.1, fun D hD => hk.obj (hS D hD) (h.2 D hD)⟩
theorem leaves_marks {P : Program} {fn : Func} {tmps : Array Value} {R : Ending → World → Prop} : ∀ (Ds : List Nat) (W : World), Marked W Ds →
    (∀ W', Keep (fun b => b ∉ Ds) W W' → ∃ v, (results fn tmps).run P W' = .ok v W' ∧ R (.returned v) W') → LeavesInM Fence.wide 0 P fn tmps R (marks Ds) .returning W
  | [], W, _, h => by simpa [marks, LeavesInM, LeavesIn] using h W (Keep.refl _ _)
  | D :: Ds, W, hm, h => by
    obtain ⟨h1, h2⟩ := hm
    simp only [List.nodup_cons] at h1
    have hk : Keep (fun b => b ∉ D :: Ds) W (W.putObj D (.deferred none)) := (Keep.refl _ _).putObj (by simp) _
    refine ⟨by simp, .inl ⟨D, _, rfl, run_takeDeferred (h2 D (by simp)), leaves_marks Ds _ ⟨h1.2, fun E hE => ?_⟩ fun W' hW' => ?_⟩⟩
    · rw [World.putObj_heap_other (fun e => h1.1 (by rw [← e]; exact hE))]
      exact h2 E (by simp [hE])
    · exact h W' (hk.trans (hW'.mono fun b _ hb => fun h => hb (by simp [h])))
def rdH (W : World) (s : Value) (i : Nat) : Int := match s with
  | .slice (some a) _ _ => (match W.cell? ⟨a.block, a.off + i * 2, none⟩ with | some (.int _ x) => x | _ => 0)
  | _ => 0
def rdS (W : World) (s : Value) (i : Nat) : Value := match s with
  | .slice (some a) _ _ => (W.cell? ⟨a.block, a.off + i * 2 + 1, none⟩).getD undef
  | _ => undef
def rdRow (W : World) (s : Value) (n : Nat) : List (Int × Value) := (List.range n).map fun i => (rdH W s i, rdS W s i)
theorem rdRow_length (W : World) (s : Value) (n : Nat) : (rdRow W s n).length = n := by simp [rdRow]
theorem rdRow_get {A : Nat → Prop} {W : World} {a : Option Addr} {n c : Nat} {ts : List Tm} (h : Terms A W (.slice a n c) ts) (i : Nat) (hi : i < ts.length) (hi' : i < (rdRow W (.slice a n c) ts.length).length) :
    (rdRow W (.slice a n c) ts.length)[i].1 = ts[i].h ∧ Terms A W (rdRow W (.slice a n c) ts.length)[i].2 ts[i].args ∧ (∃ a' c', (rdRow W (.slice a n c) ts.length)[i].2 = .slice a' ts[i].args.length c') ∧
      ∃ b off, a = some ⟨b, off, none⟩ ∧ b < W.heap.size ∧ ¬ A b ∧ W.cell? ⟨b, off + i * 2, none⟩ = some (.int .i64 (rdRow W (.slice a n c) ts.length)[i].1) ∧ W.cell? ⟨b, off + i * 2 + 1, none⟩ = some (rdRow W (.slice a n c) ts.length)[i].2 := by
  obtain ⟨b, off, a', c', rfl, h2, h3, h4, h5, h6⟩ := h.get i hi
  simp only [rdRow, List.getElem_map, List.getElem_range, rdH, rdS, h4, h5, Option.getD_some]
  exact ⟨trivial, h6, ⟨a', c', rfl⟩, b, off, rfl, h2, h3, h4, h5⟩
abbrev Raw := Int × Int × Value
mutual
def rawT (W : World) : Tm → Int → Int × Value → List Raw
  | .node _ l, d, r => (d, r.1, r.2) :: rawL W l (d + 1) (rdRow W r.2 l.length)
def rawL (W : World) : List Tm → Int → List (Int × Value) → List Raw
  | [], _, _ => []
  | _ :: _, _, [] => []
  | t :: ts, d, r :: rs => rawT W t d r ++ rawL W ts d rs
end
theorem rawT_eq (W : World) (t : Tm) (d : Int) (r : Int × Value) : rawT W t d r = (d, r.1, r.2) :: rawL W t.args (d + 1) (rdRow W r.2 t.args.length) := by cases t; simp [rawT, Tm.args]
mutual
/-- The parts, each with its depth. -/
def preT : Int → Tm → List (Int × Tm)
  | d, .node h l => (d, .node h l) :: preL (d + 1) l
def preL : Int → List Tm → List (Int × Tm)
  | _, [] => []
  | d, t :: ts => preT d t ++ preL d ts
end
def RawIs (A : Nat → Prop) (W : World) (r : Raw) (p : Int × Tm) : Prop := r.1 = p.1 ∧ r.2.1 = p.2.h ∧ Terms A W r.2.2 p.2.args ∧ ∃ a c, r.2.2 = .slice a p.2.args.length c
inductive All2 {β γ : Type} (R : β → γ → Prop) : List β → List γ → Prop
  | nil : All2 R [] []
  | cons {x y xs ys} : R x y → All2 R xs ys → All2 R (x :: xs) (y :: ys)
theorem All2.append {β γ : Type} {R : β → γ → Prop} {a b : List β} {c d : List γ} (h : All2 R a c) (k : All2 R b d) : All2 R (a ++ b) (c ++ d) := by
  induction h with
  | nil => exact k
  | cons h _ ih => exact .cons h ih
theorem All2.mem {β γ : Type} {R : β → γ → Prop} {a : List β} {c : List γ} (h : All2 R a c) : ∀ x ∈ a, ∃ y ∈ c, R x y := by
  induction h with
  | nil => simp
  | cons h _ ih =>
    intro x hx
    simp only [List.mem_cons] at hx
    rcases hx with rfl | hx
    · exact ⟨_, by simp, h⟩
    · obtain ⟨y, hy, hr⟩ := ih x hx
      exact ⟨y, by simp [hy], hr⟩
theorem All2.length {β γ : Type} {R : β → γ → Prop} {a : List β} {c : List γ} (h : All2 R a c) : a.length = c.length := by induction h <;> simp_all
mutual
theorem rawT_pre {A : Nat → Prop} {W : World} : ∀ (t : Tm) (d : Int) (r : Int × Value), r.1 = t.h → Terms A W r.2 t.args → All2 (RawIs A W) (rawT W t d r) (preT d t)
  | .node h l, d, r, h1, h2 => by
    obtain ⟨a, c, e, _⟩ := h2.shape
    simp only [Tm.h, Tm.args] at h1 h2 e
    simp only [rawT, preT]
    refine .cons ⟨rfl, h1, h2, a, c, e⟩ (rawL_pre l (d + 1) _ (rdRow_length _ _ _) fun i hi hi' => ?_)
    rw [e] at h2
    simp only [e]
    obtain ⟨g1, g2, _⟩ := rdRow_get h2 i hi' (by simpa [rdRow] using hi')
    exact ⟨g1, g2⟩
theorem rawL_pre {A : Nat → Prop} {W : World} : ∀ (l : List Tm) (d : Int) (rs : List (Int × Value)), rs.length = l.length → (∀ i (hi : i < rs.length) (hi' : i < l.length), rs[i].1 = l[i].h ∧ Terms A W rs[i].2 l[i].args) → All2 (RawIs A W) (rawL W l d rs) (preL d l)
  | [], d, rs, _, _ => by simp only [rawL, preL]; exact .nil
  | t :: ts, d, [], h, _ => by simp at h
  | t :: ts, d, r :: rs, h, hr => by
    simp only [rawL, preL]
    refine (rawT_pre t d r (hr 0 (by simp) (by simp)).1 (hr 0 (by simp) (by simp)).2).append (rawL_pre ts d rs (by simpa using h) fun i hi hi' => ?_)
    exact hr (i + 1) (by simpa using hi) (by simpa using hi')
end
theorem raw_mem_shape {A : Nat → Prop} {W : World} {t : Tm} {d : Int} {r : Int × Value} (h1 : r.1 = t.h) (h2 : Terms A W r.2 t.args) {x : Raw} (hx : x ∈ rawT W t d r) : ∃ a n c, x.2.2 = .slice a n c := by
  obtain ⟨p, _, _, _, _, a, c, e⟩ := (rawT_pre t d r h1 h2).mem x hx
  exact ⟨a, _, c, e⟩
def encP (x : Raw) : Array Value := #[.int .i64 x.1, .agg #[.int .i64 x.2.1, x.2.2]]
structure Spot where
  t : Tm
  d : Int
  r : Int × Value
def Spot.cells (x : Spot) : List Value := [.int .i64 x.r.1, x.r.2, .int .i64 x.d]
def flatS : List Spot → List Value
  | [] => []
  | x :: xs => flatS xs ++ x.cells
theorem flatS_length (xs : List Spot) : (flatS xs).length = xs.length * 3 := by induction xs <;> simp_all [flatS, Spot.cells]; omega
def restS (W : World) (xs : List Spot) : List Raw := xs.flatMap fun x => rawT W x.t x.d x.r
def sizeS : List Spot → Nat
  | [] => 0
  | x :: xs => x.t.size + sizeS xs
def SpotOk (A : Nat → Prop) (W : World) (x : Spot) : Prop := x.r.1 = x.t.h ∧ Terms A W x.r.2 x.t.args ∧ 0 ≤ x.d ∧ x.d + x.t.size ≤ 1000000001
def kids (l : List Tm) (d : Int) (rs : List (Int × Value)) : List Spot := (l.zip rs).map fun x => ⟨x.1, d, x.2⟩
theorem restS_kids (W : World) : ∀ (l : List Tm) (d : Int) (rs : List (Int × Value)), restS W (kids l d rs) = rawL W l d rs
  | [], d, rs => by simp [kids, restS, rawL]
  | t :: ts, d, [] => by simp [kids, restS, rawL]
  | t :: ts, d, r :: rs => by
    have := restS_kids W ts d rs
    simp only [kids, restS, List.zip_cons_cons, List.map_cons, List.flatMap_cons, rawL] at this ⊢
    rw [this]
theorem sizeS_kids : ∀ (l : List Tm) (d : Int) (rs : List (Int × Value)), rs.length = l.length → sizeS (kids l d rs) = Tm.sizes l
  | [], d, rs, _ => by simp [kids, sizeS, Tm.sizes]
  | t :: ts, d, [], h => by simp at h
  | t :: ts, d, r :: rs, h => by
    have := sizeS_kids ts d rs (by simpa using h)
    simp only [kids, List.zip_cons_cons, List.map_cons, sizeS, Tm.sizes] at this ⊢
    rw [this]
theorem sizeS_append (a b : List Spot) : sizeS (a ++ b) = sizeS a + sizeS b := by induction a <;> simp_all [sizeS]; omega
theorem sizeS_length (a : List Spot) : a.length ≤ sizeS a := by
  induction a with
  | nil => simp
  | cons x xs ih => have := x.t.size_eq; simp [sizeS]; omega
def spotsOf (l : List Tm) (d : Int) (ys : List ((Int × Value) × Nat)) : List Spot := (ys.map fun y => ⟨l.getD y.2 (.node 0 []), d, y.1⟩).reverse
theorem spotsOf_snoc (l : List Tm) (d : Int) (ys : List ((Int × Value) × Nat)) (y : (Int × Value) × Nat) : spotsOf l d (ys ++ [y]) = ⟨l.getD y.2 (.node 0 []), d, y.1⟩ :: spotsOf l d ys := by simp [spotsOf]
theorem spotsOf_all (l : List Tm) (d : Int) (rs : List (Int × Value)) (h : rs.length = l.length) : spotsOf l d rs.zipIdx.reverse = kids l d rs := by
  simp only [spotsOf, kids, List.map_reverse, List.reverse_reverse]
  apply List.ext_getElem
  · simp [h]
  · intro i h1 h2
    have hi : i < l.length := by simp at h1; omega
    simp [hi]
theorem kids_ok {A : Nat → Prop} {W : World} {a : Option Addr} {n c : Nat} {l : List Tm} {d : Int} (h : Terms A W (.slice a n c) l) (hd : 0 ≤ d) (hb : d + Tm.sizes l ≤ 1000000001) :
    ∀ x, x ∈ kids l d (rdRow W (.slice a n c) l.length) → SpotOk A W x := by
  intro x hx
  obtain ⟨i, hi, rfl⟩ := List.getElem_of_mem hx
  have hi' : i < l.length := by simp [kids, rdRow] at hi; omega
  obtain ⟨g1, g2, _⟩ := rdRow_get h i hi' (by simpa [rdRow] using hi')
  have := Tm.size_get l i hi'
  refine ⟨?_, ?_, ?_, ?_⟩ <;> simp only [kids, List.getElem_map, List.getElem_zip]
  · exact g1
  · exact g2
  · exact hd
  · omega
theorem row_next {A : Nat → Prop} {W : World} {a : Option Addr} {n c : Nat} {l : List Tm} (h : Terms A W (.slice a n c) l) {pre : List ((Int × Value) × Nat)} {x : (Int × Value) × Nat}
    (hx : pre ++ [x] <+: (rdRow W (.slice a n c) l.length).zipIdx.reverse) : ∃ y, l[x.2]? = some y ∧ x.1.1 = y.h ∧ Terms A W x.1.2 y.args ∧ ∃ a1 c1, x.1.2 = .slice a1 y.args.length c1 := by
  obtain ⟨hi, hrx⟩ := zip_next hx
  have hi' : x.2 < l.length := by rw [rdRow_length] at hi; exact hi
  obtain ⟨g1, g2, ⟨a1, c1, g3⟩, _⟩ := rdRow_get h x.2 hi' hi
  rw [hrx] at g1 g2 g3
  exact ⟨l[x.2], by simp [hi'], g1, g2, a1, c1, g3⟩
theorem restS_cons (W : World) (x : Spot) (xs : List Spot) : restS W (x :: xs) = (x.d, x.r.1, x.r.2) :: (rawL W x.t.args (x.d + 1) (rdRow W x.r.2 x.t.args.length) ++ restS W xs) := by
  simp only [restS, List.flatMap_cons, rawT_eq, List.cons_append]
theorem restS_append (W : World) (a b : List Spot) : restS W (a ++ b) = restS W a ++ restS W b := by simp [restS]
mutual
theorem preT_length : ∀ (d : Int) (t : Tm), (preT d t).length = t.size
  | d, .node h l => by simp only [preT, List.length_cons, preL_length, Tm.size]; omega
theorem preL_length : ∀ (d : Int) (l : List Tm), (preL d l).length = Tm.sizes l
  | d, [] => by simp [preL, Tm.sizes]
  | d, t :: ts => by simp only [preL, List.length_append, preT_length, preL_length, Tm.sizes]
end
end Go.Proofs.Ythplndalbfcbbaa
set_option linter.unusedSimpArgs false
set_option linter.unusedVariables false
namespace Go.Proofs.Ythplndalbfcbbaa
open Go.RowKit Go.Shelf
attribute [local go_sem] Oper.semAt_some
structure PartsInv (A S : Nat → Prop) (W0 W : World) (xs : List Raw) (J : (Nat → Prop) → List Raw → World → Prop) (pre : List Raw) (st : List Spot) (v : Value) (Ds : List Nat) (W' : World) : Prop where
  all : xs = pre ++ restS W0 st
  ok : ∀ x, x ∈ st → SpotOk A W0 x
  le : sizeS st ≤ 1000000000
  box : W'.heap[W.heap.size + 1]? = some (.cells #[v] 171 (0, 0))
  row : W'.ownsRow W.heap.size 170 3 v st.length (flatS st)
  ne : v.ownBlock ≠ some (W.heap.size + 1)
  neD : ∀ D, D ∈ Ds → v.ownBlock ≠ some D ∧ D ≠ W.heap.size + 1 ∧ W.heap.size ≤ D
  md : Marked W' Ds
  kp : Keep S W W'
  j : J (fun b => b = W.heap.size + 1 ∨ v.ownBlock = some b ∨ b ∈ Ds) pre W'
structure PushInv (W4 : World) (base b3 g : Nat) (l : List Tm) (d : Int) (rest : List Spot) (O : Nat → Prop) (pre : List ((Int × Value) × Nat)) (v : Value) (W : World) : Prop where
  box : W.heap[b3]? = some (.cells #[v] 171 (0, 0))
  row : W.ownsRow base 170 3 v (rest.length + pre.length) (flatS (spotsOf l d pre ++ rest))
  ne : ∀ b, v.ownBlock = some b → b ≠ b3 ∧ ¬ O b ∧ (b = g ∨ W4.heap.size ≤ b)
  kp : Keep (fun b => b < W4.heap.size ∧ b ≠ b3 ∧ b ≠ g) W4 W
theorem PushInv.framed (W4 : World) (base b3 g : Nat) (l : List Tm) (d : Int) (rest : List Spot) (hb3 : b3 < W4.heap.size) (pre : List ((Int × Value) × Nat)) :
    Framed W4.heap.size fun O W => ∃ v, PushInv W4 base b3 g l d rest O pre v W := by
  rintro O O' W W' hO ⟨v, h⟩ hk hO'
  refine ⟨v, hk.obj (fun h => by have := (hO _ h).1; omega) h.box, ownsRow_keep h.row hk (fun b hb => (h.ne b hb).2.1), fun b hb => ⟨(h.ne b hb).1, fun hb' => ?_, (h.ne b hb).2.2⟩, ?_⟩
  · rcases hO' b hb' with h' | h'
    · exact (h.ne b hb).2.1 h'
    · have := (h.row.lt b hb).2; omega
  · exact h.kp.trans (hk.mono fun b _ hb hOb => by have := (hO _ hOb).1; omega)
theorem PartsInv.own {A S : Nat → Prop} {W0 W : World} {xs : List Raw} {J : (Nat → Prop) → List Raw → World → Prop} {pre : List Raw} {st : List Spot} {v : Value} {Ds : List Nat} {W' : World} (h : PartsInv A S W0 W xs J pre st v Ds W') :
    ∀ b, (b = W.heap.size + 1 ∨ v.ownBlock = some b ∨ b ∈ Ds) → W.heap.size ≤ b ∧ b < W'.heap.size := by
  rintro b (rfl | hb | hb)
  · exact ⟨by omega, (Array.getElem?_eq_some_iff.1 h.box).1⟩
  · exact h.row.lt b hb
  · exact ⟨(h.neD b hb).2.2, (Array.getElem?_eq_some_iff.1 (h.md.2 b hb)).1⟩
set_option maxHeartbeats 2000000 in
set_option maxRecDepth 100000 in
theorem parts1_seq (W0 : World) (A S : Nat → Prop) (Bt : Nat) (t : Tm) (r : Int × Value) (hSB : S Bt) (hSA : ∀ b, b < W0.heap.size → ¬ A b → S b) (hSlt : ∀ b, S b → b < W0.heap.size)
    (hBt : W0.cell? ⟨Bt, 0, none⟩ = some (.int .i64 r.1)) (hBt1 : W0.cell? ⟨Bt, 1, none⟩ = some r.2) (h1 : r.1 = t.h) (h2 : Terms A W0 r.2 t.args) (hsz : t.size ≤ 1000000000) :
    Seq Try.prog 138 #[.pointer (some ⟨Bt, 0, none⟩)] encP S (rawT W0 t 1 r) W0 := by
  intro l J Jx W hk0 hJ hJx hY h0
  have hb0 := hk0.cell (p := ⟨Bt, 0, none⟩) hSB hBt
  have hb1 := hk0.cell (p := ⟨Bt, 1, none⟩) hSB hBt1
  have H1 := hide h1
  obtain ⟨a, c, e, _⟩ := h2.shape
  obtain ⟨rh, rs⟩ := r
  simp only at e hb0 hb1 h1 h2 H1
  subst e
  clear h1 hBt hBt1
  have hszW := hk0.size
  show CallsIn Fence.wide 0 Try.prog 138 #[.func (.yield l) #[] #[], .pointer (some ⟨Bt, 0, none⟩)] W _
  refine callsIn_of_wp_marks Try.func138 rfl trivial ?_ rfl
  simp only [Try.ntmps138, List.size_toArray, List.length_cons, List.length_nil, Nat.reduceAdd, Nat.reduceSub, Array.replicate_succ, Array.replicate_zero, List.push_toArray, List.append_toArray, List.nil_append, List.cons_append]
  gi_wp2
  refine loop_ghost (fun n a' W' => ∃ (pre : List Raw) (st : List Spot) (v : Value) (Ds : List Nat) (u4 u5 u6 u7 u8 u9 u10 u11 u12 u13 u14 u15 u16 u17 u18 u19 u20 u21 u22 u23 u24 u25 u26 u27 u28 u29 u30 u31 u32 u33 u34 u35 u36 u37 u38 u39 u40 u41 u42 u43 u44 : Value),
      a' = { tmps := #[.func (.yield l) #[] #[], .pointer (some ⟨Bt, 0, none⟩), undef, .pointer (some ⟨W.heap.size + 1, 0, none⟩), u4, u5, u6, u7, u8, u9, u10, u11, u12, u13, u14, u15, u16, u17, u18, u19, u20, u21, u22, u23, u24, u25, u26, u27, u28, u29, u30, u31, u32, u33, u34, u35, u36, u37, u38, u39, u40, u41, u42, u43, u44], defers := marks Ds } ∧ n = sizeS st ∧ PartsInv A S W0 W (rawT W0 t 1 (rh, .slice a t.args.length c)) J pre st v Ds W') t.size ?_ ?_
  · refine ⟨[], [⟨t, 1, (rh, .slice a t.args.length c)⟩], .slice (some ⟨W.heap.size, 0, none⟩) 1 1, [], _, _, _, _, _, _, _, _, _, _, _, _, _, _, _, _, _, _, _, _, _, _, _, _, _, _, _, _, _, _, _, _, _, _, _, _, _, _, _, _, _, rfl, ?_, ?_⟩
    · simp [sizeS]
    · have hk2 : Keep (fun _ => True) W ((W.alloc (.cells #[.int .i64 rh, .slice a t.args.length c, .int .i64 1] 170)).alloc (.cells #[.slice (some ⟨W.heap.size, 0, none⟩) 1 1] 171)) := ((Keep.refl _ _).alloc _).alloc _
      exact {
        all := by simp [restS]
        ok := fun x hx => by simp at hx; subst hx; exact ⟨H1.out, h2, by simp, by simp; omega⟩
        le := by simp [sizeS]; omega
        box := by have := World.alloc_heap_new (W.alloc (.cells #[.int .i64 rh, .slice a t.args.length c, .int .i64 1] 170)) (.cells #[.slice (some ⟨W.heap.size, 0, none⟩) 1 1] 171); rwa [World.size_alloc] at this
        row := ⟨by simp [flatS, Spot.cells], .inr ⟨W.heap.size, 1, #[.int .i64 rh, .slice a t.args.length c, .int .i64 1], rfl, Nat.le_refl _, (Below.heap_alloc _ _ _ (by simp)).trans (World.alloc_heap_new _ _), by simp, by simp [maxLen], rfl, by simp [flatS, Spot.cells]⟩⟩
        ne := by simp [Value.ownBlock]
        neD := by simp
        md := ⟨List.nodup_nil, by simp⟩
        kp := hk2.mono fun _ _ _ => trivial
        j := hJ [] _ _ W _ (fun b hb => hb.elim) h0 (hk2.mono fun _ _ _ => trivial) (fun b hb => .inr (by simp [Value.ownBlock] at hb; omega)) }
  · rintro n a' W' ⟨pre, st, v, Ds, u4, u5, u6, u7, u8, u9, u10, u11, u12, u13, u14, u15, u16, u17, u18, u19, u20, u21, u22, u23, u24, u25, u26, u27, u28, u29, u30, u31, u32, u33, u34, u35, u36, u37, u38, u39, u40, u41, u42, u43, u44, rfl, rfl, hinv⟩ K hK
    have hbx := cell_of_one hinv.box
    cases st with
    | nil =>
      have hv : v = .slice none 0 0 ∨ ∃ g cap, v = .slice (some ⟨g, 0, none⟩) 0 cap := by
        rcases hinv.row.2 with ⟨h, _⟩ | ⟨g, cap, cur, h, _⟩
        · exact .inl h
        · exact .inr ⟨g, cap, h⟩
      have hv' : ∃ ad cap, v = .slice ad 0 cap := by
        rcases hv with h | ⟨g, cap, h⟩
        · exact ⟨_, _, h⟩
        · exact ⟨_, _, h⟩
      obtain ⟨ad, cap, rfl⟩ := hv'
      clear hv
      gi_wp2
      refine leaves_marks Ds W' hinv.md fun W2 hk => ⟨_, results_none rfl _ _ _, ⟨_, rfl⟩, ?_, ?_⟩
      · exact hinv.kp.trans (hk.mono fun b _ hb hD => by have := hSlt b hb; have := (hinv.neD b hD).2.2; omega)
      · have hO := hinv.own
        refine ⟨_, fun b hb => ⟨(hO b hb).1, Nat.lt_of_lt_of_le (hO b hb).2 hk.size⟩, .inl ?_⟩
        have hx : rawT W0 t 1 (rh, .slice a t.args.length c) = pre := by have := hinv.all; simpa [restS] using this
        rw [hx]
        exact hJ pre _ _ W' W2 hO hinv.j (hk.mono fun b _ hb hD => hb (.inr (.inr hD))) (fun b hb => .inl hb)
    | cons x rest =>
      obtain ⟨g, cap, rfl⟩ : ∃ g cap, v = .slice (some ⟨g, 0, none⟩) (rest.length + 1) cap := by
        rcases hinv.row.2 with ⟨_, h⟩ | ⟨g, cap, cur, h, _⟩
        · simp at h
        · exact ⟨g, cap, h⟩
      have hcap : rest.length + 1 ≤ cap ∧ cap ≤ 9223372036854775807 := by
        rcases hinv.row.2 with ⟨_, h⟩ | ⟨g', cap', cur, h, _, _, h1, h2, _⟩
        · simp at h
        · cases h; exact ⟨h1, h2⟩
      obtain ⟨hcap1, hcap2⟩ := hcap
      obtain ⟨xt, xd, xh, xs⟩ := x
      have hcells := hinv.row.cells (g := g) rfl
      have hlen := flatS_length rest
      have q0 : W'.cell? ⟨g, rest.length * 3, none⟩ = some (.int .i64 xh) := by
        have := hcells (rest.length * 3) (.int .i64 xh) (by simp [flatS, Spot.cells, hlen])
        rwa [add_plain] at this
      have q1 : W'.cell? ⟨g, rest.length * 3 + 1, none⟩ = some xs := by
        have := hcells (rest.length * 3 + 1) xs (by simp [flatS, Spot.cells, hlen])
        rwa [add_plain] at this
      have q2 : W'.cell? ⟨g, rest.length * 3 + 2, none⟩ = some (.int .i64 xd) := by
        have := hcells (rest.length * 3 + 2) (.int .i64 xd) (by simp [flatS, Spot.cells, hlen])
        rwa [add_plain] at this
      clear hcells
      obtain ⟨xa, xc, hxe, _⟩ := (hinv.ok _ (List.mem_cons_self ..)).2.1.shape
      simp only at hxe
      subst hxe
      have hfz : W'.frozen? ⟨W.heap.size + 1, 0, none⟩ = false := free_of_one hinv.box
      have hlt3 : W.heap.size + 1 < W'.heap.size := (Array.getElem?_eq_some_iff.1 hinv.box).1
      have hsr := hinv.le
      have hlr : rest.length ≤ 1000000000 := by have := sizeS_length (⟨xt, xd, xh, .slice xa xt.args.length xc⟩ :: rest); simp at this; omega
      -- the call of yield
      obtain ⟨Wy, hWy⟩ : ∃ Wy, (W'.setCell ⟨W.heap.size + 1, 0, none⟩ (.slice (some ⟨g, 0, none⟩) rest.length cap)).alloc (.cells #[.int .i64 xh, .slice xa xt.args.length xc, .int .i64 xd] 170) = Wy := ⟨_, rfl⟩
      have hsy : Wy.heap.size = W'.heap.size + 1 := by rw [← hWy]; simp
      have hkey : Keep (fun b => b ≠ W.heap.size + 1) W' Wy := by rw [← hWy]; exact ((Keep.refl _ _).setCell (by simp) _).alloc _
      have hboxy : Wy.heap[W.heap.size + 1]? = some (.cells #[.slice (some ⟨g, 0, none⟩) rest.length cap] 171 (0, 0)) := by
        rw [← hWy]; exact (Below.heap_alloc _ _ _ (by simpa using hlt3)).trans (setCell_box hinv.box _)
      have hgb : g ≠ W.heap.size + 1 := fun h => hinv.ne (by simp [Value.ownBlock, h])
      have hrowy : Wy.ownsRow W.heap.size 170 3 (.slice (some ⟨g, 0, none⟩) rest.length cap) rest.length (flatS rest) :=
        ownsRow_keep (ownsRow_pop (flatS_length rest) hinv.row) hkey (fun b hb => by simp [Value.ownBlock] at hb; omega)
      have hpy : Wy.heap[W'.heap.size]? = some (.cells #[.int .i64 xh, .slice xa xt.args.length xc, .int .i64 xd] 170 (0, 0)) := by
        rw [← hWy]; have := World.alloc_heap_new (W'.setCell ⟨W.heap.size + 1, 0, none⟩ (.slice (some ⟨g, 0, none⟩) rest.length cap)) (.cells #[.int .i64 xh, .slice xa xt.args.length xc, .int .i64 xd] 170); simpa using this
      have hown := hinv.own
      have hmdy : Marked Wy Ds := hinv.md.keep hkey (fun D hD => (hinv.neD D hD).2.1)
      have hjy : J (fun b => b = W.heap.size + 1 ∨ g = b ∨ b ∈ Ds ∨ b = W'.heap.size) pre Wy :=
        hJ pre _ _ W' Wy hown hinv.j (hkey.mono fun b _ hb h => hb (.inl h)) (fun b hb => by
          rcases hb with h | h | h | h
          · exact .inl (.inl h)
          · exact .inl (.inr (.inl (by simp [Value.ownBlock, h])))
          · exact .inl (.inr (.inr h))
          · exact .inr (by omega))
      have hSne : ∀ b, S b → b < W.heap.size := fun b hb => Nat.lt_of_lt_of_le (hSlt b hb) hszW
      have hkSy : Keep S W Wy := hinv.kp.trans (hkey.mono fun b _ hb h => by have := hSne b hb; omega)
      have hOy : ∀ b, (b = W.heap.size + 1 ∨ g = b ∨ b ∈ Ds ∨ b = W'.heap.size) → W.heap.size ≤ b ∧ b < Wy.heap.size := by
        rintro b (h | h | h | h)
        · omega
        · have := hown b (.inr (.inl (by simp [Value.ownBlock, h]))); omega
        · have := hown b (.inr (.inr h)); omega
        · have := hinv.kp.size; omega
      have hpre : pre ++ [((xd, xh, .slice xa xt.args.length xc) : Raw)] <+: rawT W0 t 1 (rh, .slice a t.args.length c) := by
        rw [hinv.all]; simp only [restS, List.flatMap_cons, rawT_eq, List.cons_append]
        exact ⟨_, by rw [List.append_assoc]; rfl⟩
      obtain ⟨fn, tmps, assign, body, hy, hR⟩ := hY _ pre _ Wy hpre hOy hkSy hjy
      simp only [encP] at hy
      rw [← hWy] at hy
      have HWy := hide hWy
      clear hWy
      gi_wp2
      rw [HWy.out]
      refine ⟨rfl, hR.mono ?_⟩
      rintro e W3 ⟨hk3, ⟨rfl, hJ3⟩ | ⟨rfl, hJ3⟩⟩
      · have hbx3 := hk3.obj (.inr (.inl rfl)) hboxy
        have hp3 := hk3.obj (.inr (.inr (.inr (.inr rfl)))) hpy
        have hrow3 := ownsRow_keep hrowy hk3 (fun b hb => .inr (.inr (.inl (by simpa [Value.ownBlock] using hb))))
        have hp30 : W3.cell? ⟨W'.heap.size, 0, none⟩ = some (.int .i64 xh) := by simp [World.cell?, hp3]
        have hp31 : W3.cell? ⟨W'.heap.size, 1, none⟩ = some (.slice xa xt.args.length xc) := by simp [World.cell?, hp3]
        have hp32 : W3.cell? ⟨W'.heap.size, 2, none⟩ = some (.int .i64 xd) := by simp [World.cell?, hp3]
        clear hy hR
        gi_wp2_with fail
        refine ⟨trivial, rfl, (callsIn_wide.2 (backT_calls _ ⟨_, _, _, rfl⟩ _)).mono ?_⟩
        rintro e W4 ⟨rfl, hW4⟩
        have hk4 : Keep (fun _ => True) W3 W4 := by rw [hW4]; exact (Keep.refl _ _).alloc _
        have hs4 : W4.heap.size = W3.heap.size + 1 := by rw [hW4]; simp
        have hB4 : W4.cell? ⟨W3.heap.size, 0, none⟩ = some (.slice xa xt.args.length xc) := by rw [hW4]; exact cell_of_one (World.alloc_heap_new _ _)
        have hbx4 := hk4.obj trivial hbx3
        have hp4 := hk4.obj trivial hp3
        have hrow4 := ownsRow_keep hrow3 hk4 (fun _ _ => trivial)
        have hokx := hinv.ok _ (List.mem_cons_self ..)
        have hsz3 := hk3.size
        have hg3 : g < W'.heap.size := (hown g (.inr (.inl rfl))).2
        have hgW : W.heap.size ≤ g := (hown g (.inr (.inl rfl))).1
        have hk04 : Keep S W0 W4 := ((hk0.trans hkSy).trans (hk3.mono fun b _ hb => .inl hb)).trans (hk4.mono fun _ _ _ => trivial)
        clear hW4 hbx hbx3 hp3 hp30 hp31 hp32 hboxy hpy hkey q0 q1 q2 hfz
        gi_wp2_with fail
        refine wp_range_out (gf := 169) (lb := #[.pointer (some ⟨W3.heap.size, 0, none⟩)]) (xs := (rdRow W0 (.slice xa xt.args.length xc) xt.args.length).zipIdx.reverse) (S := fun b => b < W4.heap.size ∧ b ≠ W.heap.size + 1 ∧ b ≠ g) rfl (enters_of Try.func169 (by kernel_rfl) rfl)
          (backT_seq W4 _ W3.heap.size xa xc _ ⟨by omega, by omega, by omega⟩ (by rw [rdRow_length]; exact hB4) ?len ?rws) (fun x => rfl)
          (fun O pre Wx => ∃ v, PushInv W4 W.heap.size (W.heap.size + 1) g xt.args (xd + 1) rest O pre v Wx) (fun _ _ _ _ => False) (fun pre => PushInv.framed _ _ _ _ _ _ _ (by omega) pre) (fun _ _ _ _ _ _ _ h _ _ => h)
          ⟨.slice (some ⟨g, 0, none⟩) rest.length cap, hbx4, by simpa [spotsOf] using hrow4, fun b hb => ⟨by simp [Value.ownBlock] at hb; omega, fun h => h, .inl (by simpa [Value.ownBlock] using hb.symm)⟩, Keep.refl _ _⟩ (fun b hb => hb.1)
          (fun O pre x a' Wx => ∃ Bx, Wx.heap[Bx]? = some (.cells #[.int .i64 x.1.1, x.1.2] 25 (0, 0)) ∧ ¬ O Bx ∧ W4.heap.size ≤ Bx ∧ Bx < Wx.heap.size ∧ a' = { tmps := #[.func (.yield l) #[] #[], .pointer (some ⟨Bt, 0, none⟩), undef, .pointer (some ⟨W.heap.size + 1, 0, none⟩), .pointer (some ⟨W'.heap.size, 0, none⟩), u5, .pointer (some ⟨Bx, 0, none⟩), u7, u8, u9, .slice (some ⟨g, 0, none⟩) (rest.length + 1) cap, .int .i64 (rest.length + 1), .bool true, .slice (some ⟨g, 0, none⟩) (rest.length + 1) cap, .slice (some ⟨g, 0, none⟩) (rest.length + 1) cap, .int .i64 (rest.length + 1), .int .i64 rest.length, .pointer (some ⟨g, rest.length * 3, none⟩), .agg #[.int .i64 xh, .slice xa xt.args.length xc, .int .i64 xd], .slice (some ⟨g, 0, none⟩) (rest.length + 1) cap, .slice (some ⟨g, 0, none⟩) (rest.length + 1) cap, .int .i64 (rest.length + 1), .int .i64 rest.length, .slice (some ⟨g, 0, none⟩) rest.length cap, .func (.yield l) #[] #[], .pointer (some ⟨W'.heap.size, 2, none⟩), .int .i64 xd, .pointer (some ⟨W'.heap.size, 0, none⟩), .agg #[.int .i64 xh, .slice xa xt.args.length xc], .bool true, .bool false, .pointer (some ⟨W'.heap.size, 0, none⟩), .pointer (some ⟨W'.heap.size, 1, none⟩), .slice xa xt.args.length xc, .func (.func 169) #[] #[.pointer (some ⟨W3.heap.size, 0, none⟩)], .int .i64 x.2, .agg #[.int .i64 x.1.1, x.1.2], u37, u38, u39, u40, u41, u42, u43, u44], defers := [] }) ?hAx ?assign ?body ?done (fun _ _ _ _ _ _ _ _ _ h => h.elim)
        case len => rw [rdRow_length]; omega
        case rws =>
          intro i hi
          have hi' : i < xt.args.length := by rw [rdRow_length] at hi; exact hi
          obtain ⟨g1, g2, ⟨a1, c1, g3⟩, b, off, g4, g5, g6, g7, g8⟩ := rdRow_get hokx.2.1 i hi' hi
          have hSb := hSA b g5 g6
          exact ⟨⟨a1, _, c1, g3⟩, b, off, g4, ⟨by omega, by omega, by have := hSne b hSb; omega⟩, hk04.cell (p := ⟨b, off + i * 2, none⟩) hSb g7, hk04.cell (p := ⟨b, off + i * 2 + 1, none⟩) hSb g8⟩
        case hAx =>
          rintro O pre x a' Wx Wx' ⟨Bx, h1, h2, h3, h4, h5⟩ hk
          exact ⟨Bx, hk.obj h2 h1, h2, h3, Nat.lt_of_lt_of_le h4 hk.size, h5⟩
        case assign =>
          intro l' O pre x Wx K hpx hI hO hK
          obtain ⟨y, -, -, -, a1, c1, g3⟩ := row_next hokx.2.1 hpx
          clear hpx
          obtain ⟨⟨vh, vs⟩, vi⟩ := x
          simp only at g3
          subst g3
          simp only [encT]
          obtain ⟨v, hI⟩ := hI
          have hw4 := hI.kp.size
          clear hI
          have HK := hide hK
          clear hK
          gi_wp2
          exact HK.out _ _ ((Keep.refl _ _).alloc _) ⟨Wx.heap.size, World.alloc_heap_new _ _, fun h => by have := (hO _ h).2; omega, by omega, by simp, rfl⟩
        case body =>
          rintro l' O pre x a' Wx hpx hO hOl hrec hkx ⟨v, hI⟩ ⟨Bx, hBx1, hBx2, hBx3, hBx4, rfl⟩
          obtain ⟨y, hy0, hy1, hy2, a1, c1, g3⟩ := row_next hokx.2.1 hpx
          have hlenp : pre.length < xt.args.length := by have := hpx.length_le; simp [rdRow_length] at this; omega
          clear hpx
          obtain ⟨⟨vh, vs⟩, vi⟩ := x
          simp only at g3 hy0 hy1 hy2 hBx1
          subst g3
          have HY0 := hide hy0
          have HY1 := hide hy1
          clear hy0 hy1
          have hsr2 : rest.length + xt.args.length ≤ 2000000000 := by
            have h1 := sizeS_length rest
            have h2 := xt.size_eq
            have h3 := Tm.sizes_length xt.args
            simp only [sizeS] at hsr
            omega
          have hb3 : W.heap.size + 1 < Wx.heap.size := by have := hI.kp.size; omega
          have hbc := cell_of_one hI.box
          have hbf := free_of_one hI.box
          have hpx4 := hI.kp.obj (r := W'.heap.size) ⟨by omega, by omega, by omega⟩ hp4
          have c0 : Wx.cell? ⟨Bx, 0, none⟩ = some (.int .i64 vh) := by simp [World.cell?, hBx1]
          have c1' : Wx.cell? ⟨Bx, 1, none⟩ = some (.slice a1 y.args.length c1) := by simp [World.cell?, hBx1]
          have d2 : Wx.cell? ⟨W'.heap.size, 2, none⟩ = some (.int .i64 xd) := by simp [World.cell?, hpx4]
          have hxd0 : 0 ≤ xd := hokx.2.2.1
          have hxd1 : xd ≤ 1000000001 := by have := hokx.2.2.2; simp only at this; omega
          clear hBx1 hpx4 hp4 hbx4 hB4
          obtain ⟨va, vc, rfl⟩ : ∃ va vc, v = .slice va (rest.length + pre.length) vc := by
            rcases hI.row.2 with ⟨h, h'⟩ | ⟨g, cap, cur, h, _⟩
            · exact ⟨none, 0, by rw [h, h']⟩
            · exact ⟨_, _, h⟩
          have hrow := hI.row
          have hown2 := fun b hb => (hI.ne b hb)
          have hbase : W.heap.size ≤ Wx.heap.size := by omega
          gi_wp2_with (gi_at_builtin; refine app_in rfl _ _ 171 rfl W.heap.size 170 (.agg #[.int .i64 0, .slice none 0 0, .int .i64 0]) 3 40 Try.underlying171 (by kernel_rfl) rfl (by decide) (by decide) _ _ _ rfl hrow 1 1 _ rfl (by simp [Value.oneCell']) rfl (by omega) hbase ?_; intro v' w1 r1 r2 r3 r4; obtain ⟨va', vc', rfl⟩ := r4; have hb1 := r2.obj (fun h => (hown2 _ h).1 rfl) hI.box; have hc1 := cell_of_one hb1; have hf1 := free_of_one hb1)
          refine ⟨?_, .slice va' (rest.length + pre.length + 1) vc', ?_⟩
          · refine (r2.mono fun b hb h => ?_).setCell ?_ _
            · rcases h with h | h
              · intro hh; have := (hown2 b hh).2.2; omega
              · intro hh; exact (hown2 b hh).2.1 h
            · rintro (h | h)
              · exact h.2.1 rfl
              · have := (hO _ h).1; simp only at this; omega
          · refine ⟨setCell_box hb1 _, ?_, fun b hb => ⟨?_, ?_, ?_⟩, ?_⟩
            · have hsp : flatS (spotsOf xt.args (xd + 1) (pre ++ [((vh, .slice a1 y.args.length c1), vi)]) ++ rest) = flatS (spotsOf xt.args (xd + 1) pre ++ rest) ++ [.int .i64 vh, .slice a1 y.args.length c1, .int .i64 (xd + 1)] := by
                rw [spotsOf_snoc]; simp [flatS, Spot.cells]
              rw [hsp]
              have := ownsRow_keep r1 ((Keep.refl (fun b => b ≠ W.heap.size + 1) w1).setCell (p := ⟨W.heap.size + 1, 0, none⟩) (by simp) (.slice va' (rest.length + pre.length + 1) vc')) (fun b hb => by
                rcases r3 b hb with h | h
                · exact (hown2 b h).1
                · omega)
              simpa [Nat.add_assoc] using this
            · rcases r3 b hb with h | h
              · exact (hown2 b h).1
              · omega
            · rcases r3 b hb with h | h
              · exact (hown2 b h).2.1
              · intro hh; have := (hO _ hh).2; omega
            · rcases r3 b hb with h | h
              · exact (hown2 b h).2.2
              · exact .inr (by have := hI.kp.size; omega)
            · refine (hI.kp.trans (r2.mono fun b hb h hh => ?_)).setCell (by simp) _
              have := (hown2 b hh).2.2; omega
        case done =>
          intro O Wx hO hOw hkx hdef hI
          gi_wp2
          obtain ⟨v, hI⟩ := hI
          have hst : spotsOf xt.args (xd + 1) (rdRow W0 (.slice xa xt.args.length xc) xt.args.length).zipIdx.reverse = kids xt.args (xd + 1) (rdRow W0 (.slice xa xt.args.length xc) xt.args.length) := spotsOf_all _ _ _ (rdRow_length _ _ _)
          have hkl := sizeS_kids xt.args (xd + 1) (rdRow W0 (.slice xa xt.args.length xc) xt.args.length) (rdRow_length _ _ _)
          have hxs := xt.size_eq
          have hD3 : ∀ D, D ∈ Ds → D < W3.heap.size := fun D hD => by have := (hown D (.inr (.inr hD))).2; omega
          have hDg : ∀ D, D ∈ Ds → D ≠ W.heap.size + 1 ∧ D ≠ g := fun D hD => ⟨(hinv.neD D hD).2.1, fun h => (hinv.neD D hD).1 (by simp [Value.ownBlock, h])⟩
          have hmd3 : Marked W3 Ds := hmdy.keep hk3 fun D hD => .inr (.inr (.inr (.inl hD)))
          have hmdx : Marked Wx Ds := (hmd3.keep hk4 fun _ _ => trivial).keep hI.kp fun D hD => ⟨by have := hD3 D hD; omega, hDg D hD⟩
          have hszx := hI.kp.size
          refine hK (sizeS (kids xt.args (xd + 1) (rdRow W0 (.slice xa xt.args.length xc) xt.args.length) ++ rest)) _ _ (by rw [sizeS_append, hkl]; simp only [sizeS]; omega)
            ⟨pre ++ [(xd, xh, .slice xa xt.args.length xc)], kids xt.args (xd + 1) (rdRow W0 (.slice xa xt.args.length xc) xt.args.length) ++ rest, v, W4.heap.size :: Ds, _, _, _, _, _, _, _, _, _, _, _, _, _, _, _, _, _, _, _, _, _, _, _, _, _, _, _, _, _, _, _, _, _, _, _, _, _, _, _, _, _, rfl, rfl, ?_⟩
          exact {
            all := by
              rw [hinv.all]
              rw [restS_cons, restS_append, restS_kids]
              simp
            ok := fun x hx => by
              rcases List.mem_append.1 hx with h | h
              · have h3 := hokx.2.2.1
                have h4 := hokx.2.2.2
                simp only at h3 h4
                exact kids_ok hokx.2.1 (by omega) (by simp only; omega) x h
              · exact hinv.ok x (List.mem_cons_of_mem _ h)
            le := by rw [sizeS_append, hkl]; simp only [sizeS] at hsr; omega
            box := hI.box
            row := by
              have := hI.row
              rw [hst] at this
              have hl : rest.length + (rdRow W0 (.slice xa xt.args.length xc) xt.args.length).zipIdx.reverse.length = (kids xt.args (xd + 1) (rdRow W0 (.slice xa xt.args.length xc) xt.args.length) ++ rest).length := by
                simp [kids, rdRow_length]; omega
              rw [hl] at this
              exact this
            ne := fun h => (hI.ne _ h).1 rfl
            neD := fun D hD => by
              rcases List.mem_cons.1 hD with rfl | hD
              · exact ⟨fun h => (hI.ne _ h).2.1 hOw, by omega, by omega⟩
              · refine ⟨fun h => ?_, (hDg D hD).1, (hinv.neD D hD).2.2⟩
                rcases (hI.ne _ h).2.2 with h' | h'
                · exact (hDg D hD).2 h'
                · have := hD3 D hD; omega
            md := ⟨List.nodup_cons.2 ⟨fun h => by have := hD3 _ h; omega, hmdx.1⟩, fun D hD => by
              rcases List.mem_cons.1 hD with rfl | hD
              · exact hdef
              · exact hmdx.2 D hD⟩
            kp := ((hkSy.trans (hk3.mono fun b _ hb => .inl hb)).trans (hk4.mono fun _ _ _ => trivial)).trans (hI.kp.mono fun b _ hb => by have := hSne b hb; exact ⟨by omega, by omega, by omega⟩)
            j := hJ _ _ _ W3 Wx (fun b hb => ⟨(hOy b hb).1, Nat.lt_of_lt_of_le (hOy b hb).2 hsz3⟩) hJ3
              ((hk4.mono fun _ _ _ => trivial).trans (hI.kp.mono fun b hb hn => by
                by_cases hb4 : b < W4.heap.size
                · exact ⟨hb4, fun h => hn (.inl h), fun h => hn (.inr (.inl h.symm))⟩
                · omega))
              (fun b hb => by
                rcases hb with h | h | h
                · exact .inl (.inl h)
                · rcases (hI.ne b h).2.2 with h' | h'
                  · exact .inl (.inr (.inl h'.symm))
                  · exact .inr (by omega)
                · rcases List.mem_cons.1 h with h' | h'
                  · exact .inr (by omega)
                  · exact .inl (.inr (.inr (.inl h')))) }
      · gi_wp2
        have hks3 : Keep S W W3 := hkSy.trans (hk3.mono fun b _ hb => .inl hb)
        have hO3 : ∀ b, (b = W.heap.size + 1 ∨ g = b ∨ b ∈ Ds ∨ b = W'.heap.size) → W.heap.size ≤ b ∧ b < W3.heap.size := fun b hb => ⟨(hOy b hb).1, Nat.lt_of_lt_of_le (hOy b hb).2 hk3.size⟩
        refine leaves_marks Ds W3 (hmdy.keep hk3 fun D hD => .inr (.inr (.inr (.inl hD)))) fun W5 hk => ⟨_, results_none rfl _ _ _, ⟨_, rfl⟩, ?_, ?_⟩
        · exact hks3.trans (hk.mono fun b _ hb hD => by have := hSne b hb; have := (hinv.neD b hD).2.2; omega)
        · refine ⟨_, fun b hb => ⟨(hO3 b hb).1, Nat.lt_of_lt_of_le (hO3 b hb).2 hk.size⟩, .inr ⟨_, hpre, ?_⟩⟩
          exact hJx _ _ _ W3 W5 hO3 hJ3 (hk.mono fun b _ hb hD => hb (.inr (.inr (.inl hD)))) (fun b hb => .inl hb)
theorem parts_calls (h : Int) (s : Value) (hs : ∃ a n c, s = .slice a n c) (w : World) :
    Calls Try.prog 94 #[.agg #[.int .i64 h, s]] w fun e w' => e = .returned (.func (.func 138) #[] #[.pointer (some ⟨w.heap.size, 0, none⟩)]) ∧ w' = w.alloc (.cells #[.int .i64 h, s] 25) := by
  obtain ⟨a, n, c, rfl⟩ := hs
  go_enter Try.func94, Try.ntmps94
  go_wp2
  go_ret
  exact ⟨rfl, rfl⟩
end Go.Proofs.Ythplndalbfcbbaa
set_option linter.unusedSimpArgs false
set_option linter.unusedVariables false
namespace Go.Proofs.Ythplndalbfcbbaa
open Go.RowKit Go.Shelf
attribute [local go_sem] Oper.semAt_some
def lenOf : Value → Nat | .slice _ n _ => n | _ => 0
def badR (r : Raw) : Bool := (decide (r.2.1 < 0) && decide (0 < lenOf r.2.2)) || decide (r.2.1 < -256) || decide (1023 < r.2.1) || decide (8 < lenOf r.2.2)
theorem badR_eq (d h : Int) (a : Option Addr) (n c : Nat) : badR (d, h, .slice a n c) = ((decide (h < 0) && decide (0 < n)) || decide (h < -256) || decide (1023 < h) || decide (8 < n)) := rfl
def deepR (l : List Raw) : Int := l.foldl (fun m r => max m r.1) 0
structure CheckInv (b : Nat) (pre : List Raw) (n m : Int) (z : Bool) (W : World) : Prop where
  b1 : W.heap[b + 1]? = some (.cells #[.int .i64 n] 3 (0, 0))
  b2 : W.heap[b + 2]? = some (.cells #[.int .i64 m] 3 (0, 0))
  b3 : W.heap[b + 3]? = some (.cells #[.bool z] 4 (0, 0))
  hn : n = pre.length
  hm : m = deepR pre
  hz : z = pre.any badR
def CheckS (b s : Nat) : Nat → Prop := fun x => x < s ∧ x ≠ b + 1 ∧ x ≠ b + 2 ∧ x ≠ b + 3
def CheckI (b : Nat) (W : World) (_ : Nat → Prop) (pre : List Raw) (Wx : World) : Prop := Keep (CheckS b W.heap.size) W Wx ∧ ∃ n m z, CheckInv b pre n m z Wx
mutual
def Tm.depth : Tm → Nat
  | .node _ l => 1 + Tm.depths l
def Tm.depths : List Tm → Nat
  | [] => 0
  | t :: ts => max t.depth (Tm.depths ts)
end
def okP (t : Tm) : Bool := !((decide (t.h < 0) && decide (0 < t.args.length)) || decide (t.h < -256) || decide (1023 < t.h) || decide (8 < t.args.length))
mutual
def Tm.good : Tm → Bool
  | .node h l => okP (.node h l) && Tm.goods l
def Tm.goods : List Tm → Bool
  | [] => true
  | t :: ts => t.good && Tm.goods ts
end
def chk (t : Tm) : Int := if 400 < t.size then 2 else if 40 < t.depth then 7 else if t.good then 0 else 1
mutual
theorem deep_pre : ∀ (d m : Int) (t : Tm), 0 ≤ d → (preT d t).foldl (fun m r => max m r.1) m = max m (d - 1 + t.depth)
  | d, m, .node h l, hd => by
    simp only [preT, List.foldl_cons, Tm.depth]
    rw [deep_preL (d + 1) _ l (by omega) (by omega)]
    push_cast; omega
theorem deep_preL : ∀ (d m : Int) (l : List Tm), 0 ≤ d → d - 1 ≤ m → (preL d l).foldl (fun m r => max m r.1) m = max m (d - 1 + Tm.depths l)
  | d, m, [], hd, hm => by simp only [preL, List.foldl_nil, Tm.depths]; push_cast; omega
  | d, m, t :: ts, hd, hm => by
    simp only [preL, List.foldl_append, Tm.depths]
    rw [deep_pre d m t hd, deep_preL d _ ts hd (by omega)]
    push_cast; omega
end
mutual
theorem good_pre : ∀ (d : Int) (t : Tm), (preT d t).all (fun p => okP p.2) = t.good
  | d, .node h l => by simp only [preT, List.all_cons, Tm.good, good_preL]
theorem good_preL : ∀ (d : Int) (l : List Tm), (preL d l).all (fun p => okP p.2) = Tm.goods l
  | d, [] => by simp [preL, Tm.goods]
  | d, t :: ts => by simp only [preL, List.all_append, Tm.goods, good_pre, good_preL]
end
theorem All2.deep {A : Nat → Prop} {W : World} {xs : List Raw} {ps : List (Int × Tm)} (h : All2 (RawIs A W) xs ps) : ∀ m : Int, xs.foldl (fun m r => max m r.1) m = ps.foldl (fun m r => max m r.1) m := by
  induction h with
  | nil => intro m; rfl
  | cons h _ ih => intro m; simp only [List.foldl_cons, h.1, ih]
theorem All2.bad {A : Nat → Prop} {W : World} {xs : List Raw} {ps : List (Int × Tm)} (h : All2 (RawIs A W) xs ps) : xs.any badR = !(ps.all fun p => okP p.2) := by
  induction h with
  | nil => rfl
  | cons h _ ih =>
    obtain ⟨_, h2, _, a, c, e⟩ := h
    simp only [List.any_cons, List.all_cons, ih, badR, okP, h2, e, lenOf]
    simp
theorem check_raw_eq {A : Nat → Prop} {W : World} {t : Tm} {r : Int × Value} (h1 : r.1 = t.h) (h2 : Terms A W r.2 t.args) :
    (rawT W t 1 r).length = t.size ∧ deepR (rawT W t 1 r) = t.depth ∧ (rawT W t 1 r).any badR = !t.good := by
  have h := rawT_pre t 1 r h1 h2
  refine ⟨by rw [h.length, preT_length], ?_, by rw [h.bad, good_pre]⟩
  rw [deepR, h.deep, deep_pre 1 0 t (by omega)]; omega
theorem check_close {b : Nat} {W Wx W2 : World} {O : Nat → Prop} {pre : List Raw} {x : Raw} {n m : Int} {z v : Bool} {a' : Act} (hk0 : Keep (CheckS b W.heap.size) W Wx) (hO : ∀ c, O c → b + 4 ≤ c)
    (hk2 : Keep (fun c => c ≠ b + 1 ∧ c ≠ b + 2) Wx W2) (q1 : W2.heap[b + 1]? = some (.cells #[.int .i64 (n + 1)] 3 (0, 0))) (q2 : W2.heap[b + 2]? = some (.cells #[.int .i64 (if m < x.1 then x.1 else m)] 3 (0, 0)))
    (q3 : W2.heap[b + 3]? = some (.cells #[.bool z] 4 (0, 0))) (hn : n = pre.length) (hm : m = deepR pre) (hv : v = (pre.any badR || badR x)) :
    postI (CheckS b W.heap.size) O (CheckI b W) (fun _ _ _ _ => False) (pre ++ [x]) Wx .normal a' (W2.setCell ⟨b + 3, 0, none⟩ (.bool v)) := by
  have hk : Keep (fun c => CheckS b W.heap.size c ∨ O c) Wx (W2.setCell ⟨b + 3, 0, none⟩ (.bool v)) := by
    refine (hk2.mono fun c _ h => ?_).setCell ?_ _
    · rcases h with h | h
      · exact ⟨h.2.1, h.2.2.1⟩
      · have := hO c h; exact ⟨by omega, by omega⟩
    · rintro (h | h)
      · exact h.2.2.2 rfl
      · have := hO _ h; simp only at this; omega
  refine ⟨hk, hk0.trans (hk.mono fun c _ h => .inl h), n + 1, if m < x.1 then x.1 else m, v, ?_, ?_, setCell_box q3 _, ?_, ?_, ?_⟩
  · exact (Below.heap_setCell _ _ _ _ (by simp)).trans q1
  · exact (Below.heap_setCell _ _ _ _ (by simp)).trans q2
  · simp [hn]
  · simp only [deepR, List.foldl_append, List.foldl_cons, List.foldl_nil] at hm ⊢; rw [← hm]; split <;> omega
  · rw [hv]; simp
end Go.Proofs.Ythplndalbfcbbaa
set_option linter.unusedSimpArgs false
set_option linter.unusedVariables false
namespace Go.Proofs.Ythplndalbfcbbaa
open Go.RowKit Go.Shelf
attribute [local go_sem] Oper.semAt_some
set_option maxHeartbeats 2000000 in
set_option maxRecDepth 100000 in
theorem check_calls (t : Tm) (A : Nat → Prop) (h : Int) (s : Value) (w : World) (hs : IsTm A w h s t) (hsz : t.size ≤ 1000000000) :
    Calls Try.prog 81 #[.agg #[.int .i64 h, s]] w fun e w' => e = .returned (.int .i64 (chk t)) ∧ Below w.heap.size w w' := by
  refine (callsIn_wide (n := 0)).1 ?_
  obtain ⟨rfl, a, c, rfl, hc1, hc2⟩ := hs.shape
  refine callsIn_of_wp_marks Try.func81 rfl trivial ?_ rfl
  simp only [Try.ntmps81, List.size_toArray, List.length_cons, List.length_nil, Nat.reduceAdd, Nat.reduceSub, Array.replicate_succ, Array.replicate_zero, List.push_toArray, List.append_toArray, List.nil_append, List.cons_append]
  gi_wp2_with fail
  refine ⟨trivial, rfl, (callsIn_wide.2 (parts_calls _ _ ⟨_, _, _, rfl⟩ _)).mono ?_⟩
  rintro e W ⟨rfl, hW⟩
  have HW := hide hW
  clear hW
  gi_wp2_with fail
  have hWa : W = allocs w [.cells #[.int .i64 t.h, .slice a t.args.length c] 25, .cells #[.int .i64 0] 3, .cells #[.int .i64 0] 3, .cells #[.bool false] 4, .cells #[.int .i64 t.h, .slice a t.args.length c] 25] := HW.out
  clear HW
  have hsW0 : W.heap.size = w.heap.size + 5 := by rw [hWa, allocs_size]; rfl
  have hsW1 : W.heap.size ≤ w.heap.size + 5 := by omega
  have hsW2 : w.heap.size + 5 ≤ W.heap.size := by omega
  clear hsW0
  have hbW : Below w.heap.size w W := by rw [hWa]; exact allocs_below _ _
  have e1 : W.heap[w.heap.size + 1]? = some (.cells #[.int .i64 0] 3 (0, 0)) := by rw [hWa]; exact allocs_get _ _ 1 _ rfl
  have e2 : W.heap[w.heap.size + 2]? = some (.cells #[.int .i64 0] 3 (0, 0)) := by rw [hWa]; exact allocs_get _ _ 2 _ rfl
  have e3 : W.heap[w.heap.size + 3]? = some (.cells #[.bool false] 4 (0, 0)) := by rw [hWa]; exact allocs_get _ _ 3 _ rfl
  have e4 : W.heap[w.heap.size + 4]? = some (.cells #[.int .i64 t.h, .slice a t.args.length c] 25 (0, 0)) := by rw [hWa]; exact allocs_get _ _ 4 _ rfl
  clear hWa
  have hT : Terms (fun b => w.heap.size ≤ b) W (.slice a t.args.length c) t.args :=
    RepD.frame (fun b hb hlt => hbW.block b hlt) (fun b hb h => by omega) _ _ hs.2
  have hmix : Try.prog.follows .mixedOrders = true := by kernel_rfl
  refine wp_range_out (gf := 138) (lb := #[.pointer (some ⟨w.heap.size + 4, 0, none⟩)]) (xs := rawT W t 1 (t.h, .slice a t.args.length c)) (S := CheckS w.heap.size W.heap.size) rfl (enters_of Try.func138 (by kernel_rfl) rfl)
    (parts1_seq W (fun b => w.heap.size ≤ b) _ (w.heap.size + 4) t (t.h, .slice a t.args.length c) ⟨by omega, by omega, by omega, by omega⟩ (fun b hb h => ⟨hb, by omega, by omega, by omega⟩) (fun b hb => hb.1) (by simp [World.cell?, e4]) (by simp [World.cell?, e4]) rfl hT hsz) (fun x => rfl)
    (CheckI w.heap.size W) (fun _ _ _ _ => False) ?frI (fun _ _ _ _ _ _ _ h _ _ => h)
    ⟨Keep.refl _ _, 0, 0, false, e1, e2, e3, rfl, rfl, rfl⟩ (fun b hb => hb.1)
    (fun O pre x a' Wx => ∃ Bx, Wx.heap[Bx]? = some (.cells #[.int .i64 x.2.1, x.2.2] 25 (0, 0)) ∧ ¬ O Bx ∧ W.heap.size ≤ Bx ∧ Bx < Wx.heap.size ∧ a' = { tmps := #[.agg #[.int .i64 t.h, .slice a t.args.length c], .pointer (some ⟨w.heap.size, 0, none⟩), .int .i64 0, .pointer (some ⟨w.heap.size + 1, 0, none⟩), .pointer (some ⟨w.heap.size + 2, 0, none⟩), .pointer (some ⟨w.heap.size + 3, 0, none⟩), .int .i64 x.1, .pointer (some ⟨Bx, 0, none⟩), .agg #[.int .i64 t.h, .slice a t.args.length c], .func (.func 138) #[] #[.pointer (some ⟨w.heap.size + 4, 0, none⟩)], .int .i64 x.1, .agg #[.int .i64 x.2.1, x.2.2], undef, undef, undef, undef, undef, undef, undef, undef, undef, undef, undef, undef, undef, undef, undef, undef, undef, undef, undef, undef, undef, undef, undef, undef, undef, undef, undef, undef, undef, undef, undef, undef, undef, undef, undef, undef, undef, undef, undef, undef, undef], defers := [] }) ?hAx ?assign ?body ?done (fun _ _ _ _ _ _ _ _ _ h => h.elim)
  case frI =>
    rintro pre O O' Wx Wx' hO ⟨hk0, n, m, z, h1, h2, h3, h4, h5, h6⟩ hk hO'
    exact ⟨hk0.trans (hk.mono fun b _ hb h => by have := (hO b h).1; have := hb.1; omega), n, m, z, hk.obj (fun h => by have := (hO _ h).1; omega) h1, hk.obj (fun h => by have := (hO _ h).1; omega) h2, hk.obj (fun h => by have := (hO _ h).1; omega) h3, h4, h5, h6⟩
  case hAx =>
    rintro O pre x a' Wx Wx' ⟨Bx, h1, h2, h3, h4, h5⟩ hk
    exact ⟨Bx, hk.obj h2 h1, h2, h3, Nat.lt_of_lt_of_le h4 hk.size, h5⟩
  case assign =>
    intro l O pre x Wx K hpx hI hO hK
    obtain ⟨xa, xn, xc, hxe⟩ := raw_mem_shape rfl hT (pre_mem hpx)
    obtain ⟨hk, -⟩ := hI
    have hsz := hk.size
    clear hpx hk
    obtain ⟨xd, xh, xs⟩ := x
    simp only at hxe
    subst hxe
    simp only [encP]
    have HK := hide hK
    clear hK e1 e2 e3 e4
    gi_wp2
    exact HK.out _ _ ((Keep.refl _ _).alloc _) ⟨Wx.heap.size, World.alloc_heap_new _ _, fun h => by have := (hO _ h).2; omega, by omega, by simp, rfl⟩
  case body =>
    rintro l O pre x a' Wx hpx hO hOl hrec hkx ⟨hk0, n, m, z, h1, h2, h3, hn, hm, hz⟩ ⟨Bx, hBx1, hBx2, hBx3, hBx4, rfl⟩
    obtain ⟨xa, xn, xc, hxe⟩ := raw_mem_shape rfl hT (pre_mem hpx)
    have hlen : pre.length < 1000000000 := by
      have h1 := hpx.length_le
      have h2 := (rawT_pre t 1 (t.h, .slice a t.args.length c) rfl hT).length
      have h3 := preT_length 1 t
      simp at h1; omega
    clear hpx e1 e2 e3 e4
    obtain ⟨xd, xh, xs⟩ := x
    simp only at hxe hBx1
    subst hxe
    have HN := hide hn
    have HM := hide hm
    have HZ := hide hz
    have hn0 : 0 ≤ n := by omega
    have hn1 : n < 1000000000 := by omega
    clear hn hm hz
    have k1 := cell_of_one h1
    have k2 := cell_of_one h2
    have k3 := cell_of_one h3
    have f1 := free_of_one h1
    have f2 := free_of_one h2
    have f3 := free_of_one h3
    have c0 : Wx.cell? ⟨Bx, 0, none⟩ = some (.int .i64 xh) := by simp [World.cell?, hBx1]
    have c1' : Wx.cell? ⟨Bx, 1, none⟩ = some (.slice xa xn xc) := by simp [World.cell?, hBx1]
    have hlt : w.heap.size + 5 ≤ Wx.heap.size := by have := hk0.size; omega
    clear hBx1
    have hw : IntKind.i64.wrap (n + 1) = n + 1 := IntWalk.i64_in _ (by omega)
    gi_wp2
    refine cut_in (fun a' w' => a' = { tmps := #[.agg #[.int .i64 t.h, .slice a t.args.length c], .pointer (some ⟨w.heap.size, 0, none⟩), .int .i64 0, .pointer (some ⟨w.heap.size + 1, 0, none⟩), .pointer (some ⟨w.heap.size + 2, 0, none⟩), .pointer (some ⟨w.heap.size + 3, 0, none⟩), .int .i64 xd, .pointer (some ⟨Bx, 0, none⟩), .agg #[.int .i64 t.h, .slice a t.args.length c], .func (.func 138) #[] #[.pointer (some ⟨w.heap.size + 4, 0, none⟩)], .int .i64 xd, .agg #[.int .i64 xh, .slice xa xn xc], .int .i64 n, .int .i64 (n + 1), .int .i64 m, .int .i64 xd, .int .i64 (if m < xd then xd else m), undef, undef, undef, undef, undef, undef, undef, undef, undef, undef, undef, undef, undef, undef, undef, undef, undef, undef, undef, undef, undef, undef, undef, undef, undef, undef, undef, undef, undef, undef, undef, undef, undef, undef, undef, undef], defers := [] } ∧ w' = ((Wx.setCell ⟨w.heap.size + 1, 0, none⟩ (.int .i64 (n + 1))).setCell ⟨w.heap.size + 2, 0, none⟩ (.int .i64 (if m < xd then xd else m))).drew) ?_ ?_
    · gi_region_with_o (fail)
      all_goals exact ⟨rfl, rfl⟩
    rintro _ _ ⟨rfl, HW2⟩
    rename_i W2
    have q1 : W2.heap[w.heap.size + 1]? = some (.cells #[.int .i64 (n + 1)] 3 (0, 0)) := by rw [HW2]; exact (Below.heap_setCell _ _ _ _ (by simp)).trans (setCell_box h1 _)
    have q2 : W2.heap[w.heap.size + 2]? = some (.cells #[.int .i64 (if m < xd then xd else m)] 3 (0, 0)) := by
      rw [HW2]; exact setCell_box ((Below.heap_setCell _ _ _ _ (by simp)).trans h2) _
    have hk2 : Keep (fun b => b ≠ w.heap.size + 1 ∧ b ≠ w.heap.size + 2) Wx W2 := by rw [HW2]; exact (((Keep.refl _ _).setCell (by simp) _).setCell (by simp) _).drew
    have q3 := hk2.obj ⟨by omega, by omega⟩ h3
    have r3 := cell_of_one q3
    have g3 := free_of_one q3
    have d0 := hk2.cell (p := ⟨Bx, 0, none⟩) ⟨by simp only; omega, by simp only; omega⟩ c0
    have d1 := hk2.cell (p := ⟨Bx, 1, none⟩) ⟨by simp only; omega, by simp only; omega⟩ c1'
    have hs2 := hk2.size
    clear HW2 hw k1 k2 k3 f1 f2 f3 c0 c1'
    have hOb : ∀ c, O c → w.heap.size + 4 ≤ c := fun c hc => by have := (hO c hc).1; omega
    have fin : ∀ (v : Bool) (a' : Act), v = (pre.any badR || badR (xd, xh, .slice xa xn xc)) → postI (CheckS w.heap.size W.heap.size) O (CheckI w.heap.size W) (fun _ _ _ _ => False) (pre ++ [(xd, xh, .slice xa xn xc)]) Wx .normal a' (W2.setCell ⟨w.heap.size + 3, 0, none⟩ (.bool v)) :=
      fun v a' hv => check_close hk0 hOb hk2 q1 q2 q3 HN.out HM.out hv
    have FIN := hide fin
    clear fin
    rw [← HZ.out] at FIN
    cases z
    · rcases Nat.eq_zero_or_pos xn with rfl | hxn
      · gi_wp2
        all_goals refine FIN.out _ _ ?_
        all_goals rw [badR_eq, Bool.false_or]
        all_goals (rw [Bool.eq_iff_iff]; simp only [Bool.or_eq_true, Bool.and_eq_true, decide_eq_true_eq, true_iff]; omega)
      · gi_wp2
        all_goals refine FIN.out _ _ ?_
        all_goals rw [badR_eq, Bool.false_or]
        all_goals (rw [Bool.eq_iff_iff]; simp only [Bool.or_eq_true, Bool.and_eq_true, decide_eq_true_eq, true_iff]; omega)
    · gi_wp2_with (refine wpListIn_skip rfl rfl ?_)
      all_goals refine FIN.out _ _ ?_
      all_goals simp
  case done =>
    intro O Wx hO hOw hkx hdef ⟨hk0, n, m, z, h1, h2, h3, hn, hm, hz⟩
    obtain ⟨r1, r2, r3⟩ := check_raw_eq (r := (t.h, .slice a t.args.length c)) rfl hT
    rw [r1] at hn
    rw [r2] at hm
    rw [r3] at hz
    subst hn hm hz
    have k1 := cell_of_one h1
    have k2 := cell_of_one h2
    have k3 := cell_of_one h3
    have hB : Below w.heap.size w Wx := hbW.trans (hk0.below (fun b hb => ⟨by omega, by omega, by omega, by omega⟩) (by omega))
    have hszx := hk0.size
    have fin : ∀ (tm : Array Value) (v : Int), tm[2]? = some (.int .i64 v) → v = chk t → LeavesInM Fence.wide 0 Try.prog Try.f81 tm (fun e w' => e = .returned (.int .i64 (chk t)) ∧ Below w.heap.size w w') (marks [W.heap.size]) .returning Wx := by
      intro tm v h1 h2
      refine leaves_marks [W.heap.size] Wx ⟨by simp, fun D hD => by simp at hD; subst hD; exact hdef⟩ fun W' hk => ⟨_, results_tmp rfl _ _ _, ?_, hB.trans (hk.below (fun b hb => by simp; omega) (by omega))⟩
      simp [h1, h2, Array.getD_eq_getD_getElem?]
    have FIN := hide fin
    clear fin e1 e2 e3 e4 h1 h2 h3 hkx r1 r2 r3
    have g0 : ∀ {x y : Nat}, ¬ y < x → (decide ((y : Int) < x)) = false := fun h => by simpa using h
    by_cases c1 : 400 < t.size
    · gi_wp2
      exact FIN.out _ _ rfl (by simp [chk, c1])
    · by_cases c2 : 40 < t.depth
      · gi_wp2
        exact FIN.out _ _ rfl (by simp [chk, c1, c2])
      · cases c3 : t.good
        · have C3 := hide c3
          rw [c3] at k3
          clear c3
          gi_wp2
          exact FIN.out _ _ rfl (by simp [chk, c1, c2, C3.out])
        · have C3 := hide c3
          rw [c3] at k3
          clear c3
          gi_wp2
          exact FIN.out _ _ rfl (by simp [chk, c1, c2, C3.out])
end Go.Proofs.Ythplndalbfcbbaa
set_option linter.unusedSimpArgs false
set_option linter.unusedVariables false
namespace Go.Proofs.Ythplndalbfcbbaa
open Go.RowKit
theorem okP_iff (t : Tm) : okP t = false ↔ (t.h < 0 ∧ 0 < t.args.length) ∨ t.h < -256 ∨ 1023 < t.h ∨ 8 < t.args.length := by
  simp only [okP, Bool.not_eq_false', Bool.or_eq_true, Bool.and_eq_true, decide_eq_true_eq]; omega
end Go.Proofs.Ythplndalbfcbbaa
set_option linter.unusedSimpArgs false
set_option linter.unusedVariables false
namespace Go.Proofs.Ythplndalbfcbbaa
open Go.RowKit
mutual
/-- How many parts, as far as one above a bound. -/
def cntT : Tm → Int → Int
  | .node _ l, m => cntL l m 1
def cntL : List Tm → Int → Int → Int
  | [], _, n => n
  | t :: ts, m, n => if n ≤ m then cntL ts m (n + cntT t (m - n)) else n
end
theorem cntT_eq (t : Tm) (m : Int) : cntT t m = cntL t.args m 1 := by cases t; simp [cntT, Tm.args]
theorem cntL_drop (l : List Tm) (k : Nat) (h : k < l.length) (m n : Int) : cntL (l.drop k) m n = if n ≤ m then cntL (l.drop (k + 1)) m (n + cntT l[k] (m - n)) else n := by
  rw [List.drop_eq_getElem_cons h]; simp [cntL]
mutual
theorem cntT_range : ∀ (t : Tm) (m : Int), 0 ≤ m → 1 ≤ cntT t m ∧ cntT t m ≤ m + 1
  | .node _ l, m, h => by simp only [cntT]; exact cntL_range l m 1 h (by omega) (by omega)
theorem cntL_range : ∀ (l : List Tm) (m n : Int), 0 ≤ m → 1 ≤ n → n ≤ m + 1 → 1 ≤ cntL l m n ∧ cntL l m n ≤ m + 1
  | [], m, n, h, h1, h2 => by simp only [cntL]; omega
  | t :: ts, m, n, h, h1, h2 => by
    simp only [cntL]
    split
    · have := cntT_range t (m - n) (by omega)
      exact cntL_range ts m _ h (by omega) (by omega)
    · omega
end
mutual
theorem cntT_size : ∀ (t : Tm) (m : Int), 0 ≤ m → ((t.size : Int) ≤ m → cntT t m = t.size) ∧ (cntT t m ≤ m → (t.size : Int) ≤ m)
  | .node _ l, m, h => by
    have := cntL_size l m 1 h (by omega)
    simp only [cntT, Tm.size]; push_cast; omega
theorem cntL_size : ∀ (l : List Tm) (m n : Int), 0 ≤ m → 1 ≤ n → (n + Tm.sizes l ≤ m → cntL l m n = n + Tm.sizes l) ∧ (cntL l m n ≤ m → n + Tm.sizes l ≤ m)
  | [], m, n, h, h1 => by simp [cntL, Tm.sizes]
  | t :: ts, m, n, h, h1 => by
    have ht1 := t.size_eq
    simp only [cntL, Tm.sizes]
    split
    · rename_i hle
      have h2 := cntT_size t (m - n) (by omega)
      have h4 := cntT_range t (m - n) (by omega)
      have h3 := cntL_size ts m (n + cntT t (m - n)) h (by omega)
      push_cast
      constructor
      · intro h5
        have h6 := h2.1 (by omega)
        rw [h6] at h3 ⊢
        have := h3.1 (by omega); omega
      · intro h5
        have h6 := h3.2 h5
        have h7 := h2.2 (by omega)
        have h8 := h2.1 h7
        omega
    · push_cast; omega
end
set_option maxHeartbeats 800000 in
theorem count_calls (n0 : Nat) : ∀ (t : Tm) (A : Nat → Prop) (h : Int) (s : Value) (w : World) (m : Int), t.size ≤ n0 → 0 ≤ m → m ≤ 1000000 → IsTm A w h s t →
    Calls Try.prog 80 #[.agg #[.int .i64 h, s], .int .i64 m] w fun e w' => e = .returned (.int .i64 (cntT t m)) ∧ Below w.heap.size w w' := by
  induction n0 with
  | zero => intro t; cases t; intro A h s w m ht; simp [Tm.size] at ht
  | succ n0 ih =>
    rintro t A h s w m ht hm0 hm1 hs
    obtain ⟨rfl, a, c, rfl, hlc, hc⟩ := hs.shape
    have hsz := hide t.size_eq
    have hct := hide (cntT_eq t m)
    have hl : t.args.length ≤ 9223372036854775807 := by omega
    go_enter Try.func80, Try.ntmps80
    go_wp2
    go_loopw [5, 6] (fun q i wr => ∃ (k : Nat) (x : Int), k ≤ t.args.length ∧ i = .int .i64 k ∧ q = .int .i64 x ∧ 1 ≤ x ∧ x ≤ m + 1 ∧ Hid (cntL (t.args.drop k) m x = cntT t m) ∧ Below w.heap.size w wr ∧ wr.cell? ⟨w.heap.size, 1, none⟩ = some (.slice a t.args.length c)) (fun _ i _ => t.args.length - (intOf i).toNat)
    case atStart => exact ⟨0, 1, by omega, rfl, rfl, by omega, by omega, hide (by rw [hct.out]; rfl), (Below.refl _ _).alloc (Nat.le_refl _) _, by simp⟩
    case round =>
      obtain ⟨k, x, hk, rfl, rfl, hx0, hx1, hx, hB, hcell⟩ := hrel
      by_cases hlt : k < t.args.length
      · by_cases hle : x ≤ m
        · obtain ⟨b, off, a', c', rfl, hc1, hc2, hs'⟩ := hs.2.getW hB k hlt
          have hk2 := Tm.size_get t.args k hlt
          have hr := cntT_range t.args[k] (m - x) (by omega)
          have hx2 := hx.out
          rw [cntL_drop _ _ hlt, if_pos hle] at hx2
          have HX2 := hide hx2
          have hn1 : Tm.sizes t.args ≤ n0 := by have := hsz.out; omega
          clear hx2
          go_wp2_with fail
          refine (ih t.args[k] A _ _ _ (m - x) (by omega) (by omega) (by omega) hs').mono ?_
          rintro e w1 ⟨rfl, hB1⟩
          have hcell1 := (hB1.cell (p := ⟨w.heap.size, 1, none⟩) (World.block_lt_of_cell? _ _ hcell)).trans hcell
          obtain ⟨hr1, hr2⟩ := hr
          go_wp2
          go_roundw
          case rel => exact ⟨k + 1, _, by omega, by go_num, rfl, by omega, by omega, HX2, more_below hB hB1, hcell1⟩
          case measure => simp [intOf]; omega
        · have hx2 := hx.out
          rw [cntL_drop _ _ hlt, if_neg hle] at hx2
          have HX2 := hide hx2
          clear hx2
          go_wp2
          go_ret
          exact ⟨ret_int HX2.out, hB⟩
      · have hx2 := hx.out
        rw [List.drop_of_length_le (by omega)] at hx2
        simp only [cntL] at hx2
        have HX2 := hide hx2
        clear hx2
        go_wp2
        go_ret
        exact ⟨ret_int HX2.out, hB⟩
def ordI (a b : Int) : Int := if a < b then -1 else if b < a then 1 else 0
theorem var_calls (n : Int) (h : 0 ≤ n) (h1 : n ≤ 1000000000) (w : World) : Calls Try.prog 39 #[.int .i64 n] w fun e w' => e = .returned (.agg #[.int .i64 (-1 - n), .slice none 0 0]) ∧ Below w.heap.size w w' := by
  go_enter Try.func39, Try.ntmps39
  go_wp2
  exact bodyPost_ret (v := .agg #[.int .i64 (-1 - n), .slice none 0 0]) (by simp [results, Try.results39, go_sem]) rfl ⟨rfl, (Below.refl _ _).alloc (Nat.le_refl _) _⟩
theorem fun_calls (n : Int) (a : Option Addr) (k c : Nat) (w : World) : Calls Try.prog 92 #[.int .i64 n, .slice a k c] w fun e w' => e = .returned (.agg #[.int .i64 n, .slice a k c]) ∧ Below w.heap.size w w' := by
  go_enter Try.func92, Try.ntmps92
  go_wp2
  exact bodyPost_ret (v := .agg #[.int .i64 n, .slice a k c]) (by simp [results, Try.results92, go_sem]) rfl ⟨rfl, (Below.refl _ _).alloc (Nat.le_refl _) _⟩
end Go.Proofs.Ythplndalbfcbbaa
