/- What the proof of the law rests on: contracts of the functions, plain laws, and words. -/
import Derived.Deep.LoopGhost
import Derived.WalkSmall
import Derived.Shelf.Sort.Plain
import Derived.Ground.Names2Prog
import Derived.Shelf.Slices.CompactI
import Derived.Shelf.Slices.In.SortNone
import Derived.Test.YthplndalbfcbbaaProg
import Derived.Shelf.SlGeneric
import Derived.Shelf.SlIterI.Nil
import Derived.Ground.GgzProg
import Derived.Lib.SlKeysI
import Derived.Maps.Range
import Derived.Test.YthplndalbfcbbaaKMatchUnifiesG4
import Derived.Test.YthplndalbfcbbaaKMatchUnifiesG3
import Derived.Test.YthplndalbfcbbaaKMatchUnifiesG0
set_option linter.unusedSimpArgs false
set_option linter.unusedVariables false
namespace Go.Proofs.Ythplndalbfcbbaa
open Go.RowKit
theorem chk_var {v : Int} (h0 : 0 ≤ v) (h1 : v ≤ 255) : chk (.node (-1 - v) []) = 0 := by
  have := node_var_good h0 h1
  simp [chk, Tm.size, Tm.sizes, Tm.depth, Tm.depths, this]
def upto (k : Nat) : List Int := (List.range k).map fun (n : Nat) => (n : Int)
theorem mem_upto {k : Nat} {v : Int} : v ∈ upto k ↔ 0 ≤ v ∧ v < k := by
  simp only [upto, List.mem_map, List.mem_range]
  constructor
  · rintro ⟨n, h, rfl⟩; omega
  · rintro ⟨h1, h2⟩; exact ⟨v.toNat, by omega, by omega⟩
theorem upto_sorted (k : Nat) : (upto k).Pairwise (· < ·) := by
  simp only [upto, List.pairwise_map]
  exact List.pairwise_lt_range.imp fun h => by omega
theorem sorted_ext : ∀ (a b : List Int), a.Pairwise (· < ·) → b.Pairwise (· < ·) → (∀ v, v ∈ a ↔ v ∈ b) → a = b
  | [], b, _, _, h => by
    cases b with
    | nil => rfl
    | cons y b => exact absurd ((h y).2 (by simp)) (by simp)
  | x :: a, [], _, _, h => absurd ((h x).1 (by simp)) (by simp)
  | x :: a, y :: b, ha, hb, h => by
    rw [List.pairwise_cons] at ha hb
    have hxy : x = y := by
      have h1 := (h x).1 (by simp)
      have h2 := (h y).2 (by simp)
      rcases List.mem_cons.1 h1 with h1 | h1
      · exact h1
      · rcases List.mem_cons.1 h2 with h2 | h2
        · exact h2.symm
        · have := ha.1 y h2; have := hb.1 x h1; omega
    subst hxy
    rw [sorted_ext a b ha.2 hb.2 fun v => ?_]
    constructor
    · intro hv
      rcases List.mem_cons.1 ((h v).1 (by simp [hv])) with rfl | h'
      · exact absurd (ha.1 v hv) (by omega)
      · exact h'
    · intro hv
      rcases List.mem_cons.1 ((h v).2 (by simp [hv])) with rfl | h'
      · exact absurd (hb.1 v hv) (by omega)
      · exact h'
end Go.Proofs.Ythplndalbfcbbaa
set_option linter.unusedSimpArgs false
set_option linter.unusedVariables false
namespace Go.Proofs.Ythplndalbfcbbaa
open Go.RowKit
abbrev Env := Int → Option Tm
mutual
/-- The environment makes the pattern the term. -/
def Makes (σ : Env) : Tm → Tm → Prop
  | .node h l, t => if h < 0 then σ (-1 - h) = some t else h = t.h ∧ MakesL σ l t.args
def MakesL (σ : Env) : List Tm → List Tm → Prop
  | [], ts => ts = []
  | _ :: _, [] => False
  | p :: ps, t :: ts => Makes σ p t ∧ MakesL σ ps ts
end
theorem makes_var {σ : Env} {p t : Tm} (h : p.h < 0) : Makes σ p t ↔ σ (-1 - p.h) = some t := by
  cases p with
  | node x l => simp only [Tm.h] at h ⊢; simp only [Makes, h, if_true]
theorem makes_fun {σ : Env} {p t : Tm} (h : ¬ p.h < 0) : Makes σ p t ↔ p.h = t.h ∧ MakesL σ p.args t.args := by
  cases p with
  | node x l =>
    have h' : ¬ x < 0 := h
    rw [Makes, if_neg h']
    exact Iff.rfl
theorem makesL_length {σ : Env} : ∀ {ps ts : List Tm}, MakesL σ ps ts → ps.length = ts.length
  | [], ts, h => by simp only [MakesL] at h; simp [h]
  | _ :: _, [], h => by simp only [MakesL] at h
  | p :: ps, t :: ts, h => by simp only [MakesL] at h; simp [makesL_length h.2]
theorem makesL_append {σ : Env} : ∀ {a c b d : List Tm}, a.length = c.length → (MakesL σ (a ++ b) (c ++ d) ↔ MakesL σ a c ∧ MakesL σ b d)
  | [], [], b, d, _ => by simp [MakesL]
  | [], _ :: _, b, d, h => by simp at h
  | _ :: _, [], b, d, h => by simp at h
  | p :: a, t :: c, b, d, h => by
    have ih := makesL_append (σ := σ) (a := a) (c := c) (b := b) (d := d) (by simpa using h)
    simp only [List.cons_append, MakesL, ih, and_assoc]
theorem makesL_one {σ : Env} {p t : Tm} : MakesL σ [p] [t] ↔ Makes σ p t := by simp [MakesL]
def Within (f σ : Env) : Prop := ∀ v t, f v = some t → σ v = some t
def Gathered (ps ts : List Tm) (f : Env) : Prop := ∀ σ, MakesL σ ps ts ↔ Within f σ
theorem Gathered.makes {ps ts : List Tm} {f : Env} (h : Gathered ps ts f) : MakesL f ps ts := (h f).2 fun _ _ h => h
theorem Gathered.unique {ps ts : List Tm} {f g : Env} (h : Gathered ps ts f) (k : Gathered ps ts g) : f = g := by
  have h1 := (k f).1 h.makes
  have h2 := (h g).1 k.makes
  funext v
  cases hf : f v with
  | some t => exact (h2 v t hf).symm
  | none =>
    cases hg : g v with
    | none => rfl
    | some t => rw [h1 v t hg] at hf; cases hf
def upd (f : Env) (v : Int) (t : Tm) : Env := fun x => if x = v then some t else f x
theorem within_upd {f σ : Env} {v : Int} {t : Tm} (h : f v = none ∨ f v = some t) : Within (upd f v t) σ ↔ Within f σ ∧ σ v = some t := by
  constructor
  · intro hw
    have hv : σ v = some t := hw v t (by simp [upd])
    refine ⟨fun x u hx => ?_, hv⟩
    by_cases e : x = v
    · subst e
      rcases h with h | h
      · rw [h] at hx; cases hx
      · rw [h] at hx; cases hx; exact hv
    · exact hw x u (by simp [upd, e, hx])
  · rintro ⟨hw, hv⟩ x u hx
    by_cases e : x = v
    · subst e; simp [upd] at hx; rw [← hx]; exact hv
    · simp [upd, e] at hx; exact hw x u hx
def GState (ps ts ls rs : List Tm) (f : Env) : Prop := ∀ σ, MakesL σ ps ts ↔ MakesL σ ls rs ∧ Within f σ
theorem gstate_start {ps ts : List Tm} : GState ps ts ps ts (fun _ => none) := fun σ => ⟨fun h => ⟨h, fun v t h => by cases h⟩, fun h => h.1⟩
theorem gstate_end {ps ts : List Tm} {f : Env} (h : GState ps ts [] [] f) : Gathered ps ts f := fun σ => by rw [h σ]; simp [MakesL]
theorem gstate_var {ps ts ls rs : List Tm} {x y : Tm} {f : Env} (h : GState ps ts (ls ++ [x]) (rs ++ [y]) f) (hl : ls.length = rs.length) (hx : x.h < 0) (hf : f (-1 - x.h) = none ∨ f (-1 - x.h) = some y) : GState ps ts ls rs (upd f (-1 - x.h) y) := by
  intro σ
  rw [h σ, makesL_append hl, makesL_one, makes_var hx, within_upd hf, and_assoc, and_comm (a := σ (-1 - x.h) = some y)]
theorem gstate_clash {ps ts ls rs : List Tm} {x y u : Tm} {f : Env} (h : GState ps ts (ls ++ [x]) (rs ++ [y]) f) (hl : ls.length = rs.length) (hx : x.h < 0) (hf : f (-1 - x.h) = some u) (hu : u ≠ y) : ∀ σ, ¬ MakesL σ ps ts := by
  intro σ hm
  rw [h σ, makesL_append hl, makesL_one, makes_var hx] at hm
  have := hm.2 _ _ hf
  rw [hm.1.2] at this
  cases this
  exact hu rfl
theorem gstate_fun {ps ts ls rs : List Tm} {x y : Tm} {f : Env} (h : GState ps ts (ls ++ [x]) (rs ++ [y]) f) (hl : ls.length = rs.length) (hx : ¬ x.h < 0) (hh : x.h = y.h) (hn : x.args.length = y.args.length) : GState ps ts (ls ++ x.args) (rs ++ y.args) f := by
  intro σ
  rw [h σ, makesL_append hl, makesL_append hl, makesL_one, makes_fun hx]
  simp [hh]
theorem gstate_other {ps ts ls rs : List Tm} {x y : Tm} {f : Env} (h : GState ps ts (ls ++ [x]) (rs ++ [y]) f) (hl : ls.length = rs.length) (hx : ¬ x.h < 0) (hne : ¬ (x.h = y.h ∧ x.args.length = y.args.length)) : ∀ σ, ¬ MakesL σ ps ts := by
  intro σ hm
  rw [h σ, makesL_append hl, makesL_one, makes_fun hx] at hm
  exact hne ⟨hm.1.2.1, makesL_length hm.1.2.2⟩
def tidyT (f : Env) : List Bd := (upto 256).filterMap fun v => match f v with
  | some t => if t.h != -1 - v then some ⟨v, t⟩ else none
  | none => none
mutual
/-- As the document gathers. -/
def gatherT : Tm → Tm → Env → Option Env
  | .node h l, t, f => if h < 0 then (match f (-1 - h) with
      | some u => if sameB u t = true then some f else none
      | none => some (upd f (-1 - h) t)) else if h = t.h ∧ l.length = t.args.length then gatherL l t.args f else none
def gatherL : List Tm → List Tm → Env → Option Env
  | [], _, f => some f
  | _ :: _, [], _ => none
  | p :: ps, t :: ts, f => match gatherT p t f with
    | some g => gatherL ps ts g
    | none => none
end
mutual
theorem gatherT_spec : ∀ (p t : Tm) (f : Env), (∀ g, gatherT p t f = some g → ∀ σ, Within g σ ↔ Makes σ p t ∧ Within f σ) ∧ (gatherT p t f = none → ∀ σ, ¬ (Makes σ p t ∧ Within f σ))
  | .node h l, t, f => by
    by_cases hn : h < 0
    · have hm : ∀ σ, Makes σ (.node h l) t ↔ σ (-1 - h) = some t := fun σ => makes_var (p := .node h l) hn
      rw [gatherT, if_pos hn]
      cases hf : f (-1 - h) with
      | none =>
        refine ⟨fun g hg σ => ?_, fun hg => by cases hg⟩
        cases hg
        rw [within_upd (.inl hf), hm, and_comm]
      | some u =>
        simp only
        by_cases hs : sameB u t = true
        · rw [if_pos hs]
          have hu := sameB_iff.1 hs
          subst hu
          refine ⟨fun g hg σ => ?_, fun hg => by cases hg⟩
          cases hg
          rw [hm]
          exact ⟨fun h => ⟨h _ _ hf, h⟩, fun h => h.2⟩
        · rw [if_neg hs]
          refine ⟨(fun g hg => by cases hg), fun _ σ hh => ?_⟩
          rw [hm] at hh
          have := hh.2 _ _ hf
          rw [hh.1] at this
          cases this
          exact hs (sameB_self _)
    · have hm : ∀ σ, Makes σ (.node h l) t ↔ h = t.h ∧ MakesL σ l t.args := fun σ => makes_fun (p := .node h l) hn
      rw [gatherT, if_neg hn]
      by_cases hc : h = t.h ∧ l.length = t.args.length
      · rw [if_pos hc]
        have ih := gatherL_spec l t.args f hc.2
        refine ⟨fun g hg σ => ?_, fun hg σ hh => ?_⟩
        · rw [ih.1 g hg σ, hm]; simp [hc.1]
        · rw [hm] at hh; exact ih.2 hg σ ⟨hh.1.2, hh.2⟩
      · rw [if_neg hc]
        refine ⟨(fun g hg => by cases hg), fun _ σ hh => ?_⟩
        rw [hm] at hh
        exact hc ⟨hh.1.1, makesL_length hh.1.2⟩
theorem gatherL_spec : ∀ (ps ts : List Tm) (f : Env), ps.length = ts.length → (∀ g, gatherL ps ts f = some g → ∀ σ, Within g σ ↔ MakesL σ ps ts ∧ Within f σ) ∧ (gatherL ps ts f = none → ∀ σ, ¬ (MakesL σ ps ts ∧ Within f σ))
  | [], ts, f, hl => by
    have ht : ts = [] := List.eq_nil_of_length_eq_zero (by simpa using hl.symm)
    subst ht
    refine ⟨fun g hg σ => ?_, fun hg => ?_⟩
    · simp only [gatherL, Option.some.injEq] at hg
      subst hg
      simp [MakesL]
    · simp [gatherL] at hg
  | _ :: _, [], f, hl => by simp at hl
  | p :: ps, t :: ts, f, hl => by
    have i1 := gatherT_spec p t f
    rw [gatherL]
    cases hg1 : gatherT p t f with
    | none =>
      refine ⟨(fun g hg => by cases hg), fun _ σ hh => ?_⟩
      simp only [MakesL] at hh
      exact i1.2 hg1 σ ⟨hh.1.1, hh.2⟩
    | some g1 =>
      have i2 := gatherL_spec ps ts g1 (by simpa using hl)
      refine ⟨fun g hg σ => ?_, fun hg σ hh => ?_⟩
      · rw [i2.1 g hg σ, i1.1 g1 hg1 σ, MakesL]
        constructor
        · rintro ⟨h1, h2, h3⟩; exact ⟨⟨h2, h1⟩, h3⟩
        · rintro ⟨⟨h2, h1⟩, h3⟩; exact ⟨h1, h2, h3⟩
      · simp only [MakesL] at hh
        exact i2.2 hg σ ⟨hh.1.2, (i1.1 g1 hg1 σ).2 ⟨hh.1.1, hh.2⟩⟩
end
def noE : Env := fun _ => none
theorem within_no (σ : Env) : Within noE σ := fun v t h => by cases h
theorem gather_gathered {ps ts : List Tm} (hl : ps.length = ts.length) {g : Env} (h : gatherL ps ts noE = some g) : Gathered ps ts g := fun σ => by
  rw [(gatherL_spec ps ts noE hl).1 g h σ]
  exact ⟨fun h => ⟨h, within_no σ⟩, fun h => h.1⟩
theorem gather_none {ps ts : List Tm} (hl : ps.length = ts.length) (h : gatherL ps ts noE = none) : ∀ σ, ¬ MakesL σ ps ts := fun σ hm =>
  (gatherL_spec ps ts noE hl).2 h σ ⟨hm, within_no σ⟩
theorem gather_of {ps ts : List Tm} (hl : ps.length = ts.length) {f : Env} (h : Gathered ps ts f) : gatherL ps ts noE = some f := by
  cases hg : gatherL ps ts noE with
  | none => exact absurd h.makes (gather_none hl hg f)
  | some g => rw [(gather_gathered hl hg).unique h]
theorem gather_of_none {ps ts : List Tm} (hl : ps.length = ts.length) (h : ∀ σ, ¬ MakesL σ ps ts) : gatherL ps ts noE = none := by
  cases hg : gatherL ps ts noE with
  | none => rfl
  | some g => exact absurd (gather_gathered hl hg).makes (h g)
def matchT (ps ts : List Tm) : List Bd × Bool × Int :=
  if ps.length = ts.length ∧ ps.all rightB = true ∧ ts.all rightB = true then (match gatherL ps ts noE with
    | some f => (tidyT f, true, 0)
    | none => ([], false, 0)) else ([], false, 1)
end Go.Proofs.Ythplndalbfcbbaa
set_option linter.unusedSimpArgs false
set_option linter.unusedVariables false
namespace Go.Proofs.Ythplndalbfcbbaa
open Go.RowKit
def MapEnv (A : Nat → Prop) (W : World) (b : Nat) (g : Env) : Prop :=
  ∃ f, MapAt W b f ∧ ∀ x : Int, (g x = none → f x = none) ∧ ∀ t, g x = some t → ∃ s, f x = some (.agg #[.int .i64 t.h, s]) ∧ Terms A W s t.args
theorem MapEnv.keep {A S : Nat → Prop} {W W' : World} {b : Nat} {g : Env} (h : MapEnv A W b g) (hk : Keep S W W') (hb : S b) (hS : ∀ c, c < W.heap.size → ¬ A c → S c) : MapEnv A W' b g := by
  obtain ⟨f, h1, h2⟩ := h
  exact ⟨f, h1.keep hk hb, fun x => ⟨(h2 x).1, fun t ht => by obtain ⟨s, h3, h4⟩ := (h2 x).2 t ht; exact ⟨s, h3, h4.keep hk hS⟩⟩⟩
theorem MapEnv.below {A : Nat → Prop} {W W' : World} {b : Nat} {g : Env} (h : MapEnv A W b g) (hB : Below W.heap.size W W') : MapEnv A W' b g := h.keep (S := fun _ => True) (.of_below hB) trivial (fun _ _ _ => trivial)
theorem MapEnv.made (A : Nat → Prop) (W : World) : MapEnv A (W.alloc (.map #[] 0)) W.heap.size noE := ⟨_, MapAt.made W, fun x => ⟨fun _ => rfl, fun t ht => by cases ht⟩⟩
theorem goods_append (a b : List Tm) : Tm.goods (a ++ b) = (Tm.goods a && Tm.goods b) := by
  induction a with
  | nil => simp [Tm.goods]
  | cons t a ih => simp [Tm.goods, ih, Bool.and_assoc]
theorem cut_endcap {P : Program} {c : Code} {Q : Exit → Act → World → Prop} {a : Act} {w : World} (R : Act → Act → World → Prop)
    (h : c.wp P (Exit.then (R a) (fun _ _ _ => False)) a w) (k : ∀ a' w', R a a' w' → Q .normal a' w') : c.wp P Q a w := by
  refine wp_mono h ?_
  intro e a' w' hq
  cases e <;> first | exact k _ _ hq | exact hq.elim
theorem OwnD.lower {A : Nat → Prop} {W : World} {base b' e k : Nat} {v : Value} {ds : List D} (h : OwnD A W base e k v ds) (hb : b' ≤ base) : OwnD A W b' e k v ds := by
  obtain ⟨css, ⟨h0, h1⟩, h2, h3⟩ := h
  refine ⟨css, ⟨h0, ?_⟩, h2, h3⟩
  rcases h1 with h1 | ⟨g, cap, cur, e1, e2, e3⟩
  · exact .inl h1
  · exact .inr ⟨g, cap, cur, e1, Nat.le_trans hb e2, e3⟩
section
variable {P : Program} {W : World} {ops : Array Oper} {rest : List Oper} {o : Oper} {a : Act} {Q : Exit → Act → World → Prop} {k e : TypeId}
theorem store_pl (hg : o.guard = none) (m x v : Operand) (t : TypeId) (hop : o.op = .mapUpdate t m x v) (hk : P.underlying k = some (.int .i64)) (ht : P.underlying t = some (.map k e))
    (b : Nat) (f : Int → Option Value) (hm : a.eval m = .map (some b)) (h : MapAt W b f) (y : Int) (hx : a.eval x = .int .i64 y) (h0 : -9223372036854775808 ≤ y) (h1 : y ≤ 9223372036854775807) (u : Value) (hv : a.eval v = u)
    (hK : ∀ W', MapAt W' b (fun z => if z = y then some u else f z) → Keep (fun c => c ≠ b) W W' → wpList P ops Q rest (a.put o.dst undef) W') : wpList P ops Q (o :: rest) a W := by
  refine wpList_plain hg fun K' hK' => ?_
  obtain ⟨w', hrun, r1, r2⟩ := h.store hk ht h0 h1 u
  unfold Oper.wp
  simp [execOp, hop, hm, hx, hv, hrun, Result.andThen]
  exact hK' _ _ (hK w' r1 r2)
end
structure Gst (A : Nat → Prop) (mb : Nat) (w W : World) (v u : Value) (ls rs : List Tm) (f : Env) : Prop where
  below : Below mb w W
  more : w.heap.size ≤ W.heap.size
  left : OwnD (fun b => mb ≤ b ∨ A b) W w.heap.size 25 2 v (ls.map Tm.d)
  right : OwnD (fun b => mb ≤ b ∨ A b) W w.heap.size 25 2 u (rs.map Tm.d)
  apart : Apart v u
  len : ls.length = rs.length
  size : Tm.sizes ls ≤ 1000000000
  env : MapEnv (fun b => mb ≤ b ∨ A b) W mb f
  good : Tm.goods ls = true
  size2 : Tm.sizes rs ≤ 1000000000
  esz : ∀ v t, f v = some t → t.size ≤ 1000000000
def GPost (A : Nat → Prop) (mb : Nat) (ps ts : List Tm) (w : World) (e : Ending) (w' : World) : Prop :=
  Below mb w w' ∧ w.heap.size ≤ w'.heap.size ∧ ((∃ f, gatherL ps ts noE = some f ∧ e = .returned (.bool true) ∧ MapEnv (fun b => mb ≤ b ∨ A b) w' mb f) ∨ (gatherL ps ts noE = none ∧ e = .returned (.bool false)))
set_option maxHeartbeats 8000000 in
set_option maxRecDepth 100000 in
theorem gather_calls (A : Nat → Prop) (ps ts : List Tm) (mb : Nat) (s1 s2 : Value) (w : World) (hlen : ps.length = ts.length) (hsz : Tm.sizes ps ≤ 1000000000) (hsz2 : Tm.sizes ts ≤ 1000000000) (hgood : Tm.goods ps = true) (hmb : mb < w.heap.size)
    (hs : Terms (fun b => mb ≤ b ∨ A b) w s1 ps) (ht : Terms (fun b => mb ≤ b ∨ A b) w s2 ts) (hm : MapEnv (fun b => mb ≤ b ∨ A b) w mb noE) :
    Calls Try.prog 97 #[s1, s2, .map (some mb)] w fun e w' => GPost A mb ps ts w e w' := by
  obtain ⟨a1, d1, rfl, hd1, hd1'⟩ := hs.shape
  obtain ⟨a2, d2, rfl, hd2, hd2'⟩ := ht.shape
  have hpl := Tm.sizes_length ps
  have htl : ts.length ≤ 1000000000 := by omega
  have HL := hide hlen
  clear hlen
  go_enter Try.func97, Try.ntmps97
  go_wp2_with fail
  refine (clone_calls ps (fun b => mb ≤ b ∨ A b) _ _ (by omega) hs).mono ?_
  rintro e w1 ⟨v1, rfl, o1, h1⟩
  go_wp2_with fail
  refine (clone_calls ts (fun b => mb ≤ b ∨ A b) _ _ (by omega) (ht.below h1)).mono ?_
  rintro e w2 ⟨v2, rfl, o2, h2⟩
  have HG0 : Gst A mb w w2 v1 v2 ps ts noE := {
    below := ((h1.trans (h2.mono h1.size)).mono (Nat.le_of_lt hmb))
    more := Nat.le_trans h1.size h2.size
    left := o1.below h2
    right := o2.lower h1.size
    apart := fun b hb hb2 => by have := (o1.lt b hb).2; have := (o2.lt b hb2).1; omega
    len := HL.out
    size := hsz
    env := (hm.below h1).below h2
    good := hgood
    size2 := hsz2
    esz := fun v t h => by cases h }
  have HG := hide (gstate_start (ps := ps) (ts := ts))
  clear o1 o2 h1 h2 hm hs ht hgood
  go_wp2
  go_loopg [7, 8] (Tm.sizes ps + 1) (fun k v x wr => ∃ ls rs f, k = Tm.sizes ls + 1 ∧ Gst A mb w wr v x ls rs f ∧ Hid (GState ps ts ls rs f))
  case atStart => exact ⟨ps, ts, noE, rfl, HG0, HG⟩
  case round =>
    obtain ⟨ls, rs, f, rfl, hst, hg⟩ := hrel
    rcases unsnoc ls with rfl | ⟨ls, x, rfl⟩
    · obtain ⟨ad, cp, rfl⟩ := hst.left.shape
      have hr0 : rs = [] := List.eq_nil_of_length_eq_zero (by have := hst.len; simpa using this.symm)
      subst hr0
      have HX := hide (gather_of HL.out (gstate_end hg.out))
      have HST := hide hst
      clear hg hst HG HG0
      go_wp2
      go_ret
      exact ⟨HST.out.below, HST.out.more, .inl ⟨f, HX.out, rfl, HST.out.env⟩⟩
    · rcases unsnoc rs with rfl | ⟨rs, y, rfl⟩
      · exact absurd hst.len (by simp)
      have hlen : ls.length = rs.length := by have := hst.len; simpa using this
      have hszs := hst.size
      rw [Tm.sizes_append] at hszs
      have hx1 := x.size_eq
      simp only [Tm.sizes] at hszs
      have hls : ls.length ≤ 1000000000 := by have := Tm.sizes_length ls; omega
      have hO1 := hst.left
      have hO2 := hst.right
      have hap := hst.apart
      have hB := hst.below
      have hmore := hst.more
      have hgl := hst.good
      have hs2 := hst.size2
      rw [Tm.sizes_append] at hs2
      have hy1 := y.size_eq
      simp only [Tm.sizes] at hs2
      have HESZ := hide hst.esz
      rw [List.map_append, List.map_cons, List.map_nil] at hO1 hO2
      obtain ⟨g1, cap1, cs1, rfl, hg1, hg1', hc1, hc1', hk1, e1, q1', P1⟩ := hO1.last (by omega)
      obtain ⟨g2, cap2, cs2, rfl, hg2, hg2', hc2, hc2', hk2, e2, q2', P2⟩ := hO2.last (by omega)
      simp only [List.length_map] at hc1 hc2 e1 e2 P1 P2 hst hap ⊢
      simp only [← hlen] at hc2 e2 P2 hst hap ⊢
      obtain ⟨sx, rfl, tx⟩ := repTm.1 q1'
      obtain ⟨sy, rfl, ty⟩ := repTm.1 q2'
      obtain ⟨ax, cx, rfl, hcx, hcx'⟩ := tx.shape
      obtain ⟨ay, cy, rfl, hcy, hcy'⟩ := ty.shape
      have p0 := e1 0 (by omega)
      have p1 := e1 1 (by omega)
      have q0 := e2 0 (by omega)
      have q1 := e2 1 (by omega)
      simp only [Nat.add_zero, List.getElem?_cons_zero, List.getElem?_cons_succ] at p0 p1 q0 q1
      clear e1 e2 q1' q2' hO1 hO2 HG HG0
      have HENV := hide hst.env
      clear hst
      have HLEN := hide hlen
      clear hlen
      have HAP := hide hap
      clear hap
      have HP1 := hide P1
      have HP2 := hide P2
      clear P1 P2
      have HX1 := hide hx1
      have HY1 := hide hy1
      clear hx1 hy1
      have HGL := hide hgl
      clear hgl
      go_wp2
      refine cut_cap (fun a0 a' w' => ∃ B1 B2, a' = ((((((((((a0.put (some 25) (.slice (some ⟨g1, 0, none⟩) (ls.length + 1) cap1)).put (some 26) (.int .i64 ls.length)).put (some 27) (.pointer (some ⟨g1, ls.length * 2, none⟩))).put (some 28) (.agg #[.int .i64 x.h, .slice ax x.args.length cx])).put (some 29) (.slice (some ⟨g2, 0, none⟩) (ls.length + 1) cap2)).put (some 30) (.int .i64 ls.length)).put (some 31) (.pointer (some ⟨g2, ls.length * 2, none⟩))).put (some 32) (.agg #[.int .i64 y.h, .slice ay y.args.length cy])).put (some 10) (.pointer (some ⟨B1, 0, none⟩))).put (some 11) (.pointer (some ⟨B2, 0, none⟩))) ∧ wr.heap.size ≤ B1 ∧ wr.heap.size ≤ B2 ∧ B1 ≠ B2 ∧ w'.heap[B1]? = some (.cells #[.int .i64 x.h, .slice ax x.args.length cx] 25 (0, 0)) ∧ w'.heap[B2]? = some (.cells #[.int .i64 y.h, .slice ay y.args.length cy] 25 (0, 0)) ∧ Below wr.heap.size wr w') ?_ ?_
      · have hS : ∀ W', Below wr.heap.size wr W' → Below wr.heap.size wr W' ∧ W'.cell? ⟨g1, ls.length * 2, none⟩ = some (.int .i64 x.h) ∧ W'.cell? ⟨g1, ls.length * 2 + 1, none⟩ = some (.slice ax x.args.length cx) ∧ W'.cell? ⟨g2, ls.length * 2, none⟩ = some (.int .i64 y.h) ∧ W'.cell? ⟨g2, ls.length * 2 + 1, none⟩ = some (.slice ay y.args.length cy) := fun W' hW =>
          ⟨hW, (hW.cell (p := ⟨g1, ls.length * 2, none⟩) hg1').trans p0, (hW.cell (p := ⟨g1, ls.length * 2 + 1, none⟩) hg1').trans p1, (hW.cell (p := ⟨g2, ls.length * 2, none⟩) hg2').trans q0, (hW.cell (p := ⟨g2, ls.length * 2 + 1, none⟩) hg2').trans q1⟩
        refine drawn_two (fun W' => Below wr.heap.size wr W' ∧ W'.cell? ⟨g1, ls.length * 2, none⟩ = some (.int .i64 x.h) ∧ W'.cell? ⟨g1, ls.length * 2 + 1, none⟩ = some (.slice ax x.args.length cx) ∧ W'.cell? ⟨g2, ls.length * 2, none⟩ = some (.int .i64 y.h) ∧ W'.cell? ⟨g2, ls.length * 2 + 1, none⟩ = some (.slice ay y.args.length cy)) [.take 0, .take 1, .take 2, .take 3, .take 4, .take 5, .take 6, .take 7, .two 8 9, .one 10, .one 11] (by kernel_rfl) (by kernel_rfl) (by kernel_rfl) (by kernel_rfl) (fun _ _ _ _ _ h => h) (hS _ (Below.refl _ _).drew) ?_
        have hi0 : (ls.length : Int) < (ls.length : Int) + 1 := by omega
        iterate 8 (refine p_take (v := ?_) rfl (by rfl) ?_ ?_; rotate_left; (intro w hS; obtain ⟨-, S1, S2, S3, S4⟩ := hS; go_simp; try with_reducible rfl); simp only [Act.put, List.setIfInBounds_toArray, List.set_cons_zero, List.set_cons_succ])
        refine p_two rfl rfl (by rfl) (by rfl) ?_ ?_
        · intro K hK
          go_simp
          refine hK.out _ _ (hS _ ((Below.refl _ _).drew.alloc (Nat.le_refl _) _)) ?_
          refine p_then rfl (by rfl) ?_
          clear hK K
          intro K hK
          go_simp
          have hW3 : Below wr.heap.size wr (((wr.alloc (.cells #[.int .i64 0, .slice none 0 0] 25)).alloc (.cells #[.int .i64 0, .slice none 0 0] 25)).drew) := (((Below.refl wr.heap.size wr).alloc (Nat.le_refl _) (.cells #[.int .i64 0, .slice none 0 0] 25)).alloc (by simp) (.cells #[.int .i64 0, .slice none 0 0] 25)).drew
          refine hK.out _ _ (hS _ hW3) ?_
          clear hK K
          have b0 := World.alloc_heap_new wr (.cells #[.int .i64 0, .slice none 0 0] 25)
          have b9 : (((wr.alloc (.cells #[.int .i64 0, .slice none 0 0] 25)).alloc (.cells #[.int .i64 0, .slice none 0 0] 25)).drew).heap[wr.heap.size + 1]? = some (.cells #[.int .i64 0, .slice none 0 0] 25 (0, 0)) := by
            have h := World.alloc_heap_new (wr.alloc (.cells #[.int .i64 0, .slice none 0 0] 25)) (.cells #[.int .i64 0, .slice none 0 0] 25)
            rw [World.size_alloc] at h
            exact h
          have b8 : (((wr.alloc (.cells #[.int .i64 0, .slice none 0 0] 25)).alloc (.cells #[.int .i64 0, .slice none 0 0] 25)).drew).heap[wr.heap.size]? = some (.cells #[.int .i64 0, .slice none 0 0] 25 (0, 0)) := (Below.heap_alloc (wr.alloc (.cells #[.int .i64 0, .slice none 0 0] 25)) (.cells #[.int .i64 0, .slice none 0 0] 25) _ (by simp)).trans b0
          generalize (((wr.alloc (.cells #[.int .i64 0, .slice none 0 0] 25)).alloc (.cells #[.int .i64 0, .slice none 0 0] 25)).drew) = W3 at *
          clear b0
          obtain ⟨l8, z0, z1, z2, z3⟩ := box2 b8
          obtain ⟨l9, y0, y1, y2, y3⟩ := box2 b9
          refine p_one rfl (by rfl) ?_
          intro K hK
          go_simp
          have hW4 := set2_below (b := wr.heap.size) hW3 (by omega) (.int .i64 x.h) (.slice ax x.args.length cx)
          have c8 := box2_set b8 (.int .i64 x.h) (.slice ax x.args.length cx)
          have c9 := (Keep.refl (fun b => b ≠ wr.heap.size) W3).setCell (p := ⟨wr.heap.size, 0, none⟩) (by simp) (.int .i64 x.h) |>.setCell (p := ⟨wr.heap.size, 1, none⟩) (by simp) (.slice ax x.args.length cx) |>.obj (by omega) b9
          refine hK.out _ _ (hS _ hW4) ?_
          clear hK K
          generalize ((W3.setCell ⟨wr.heap.size, 0, none⟩ (.int .i64 x.h)).setCell ⟨wr.heap.size, 1, none⟩ (.slice ax x.args.length cx)) = W4 at *
          clear l8 l9 z0 z1 z2 z3 y0 y1 y2 y3 b8 b9
          obtain ⟨l9, y0, y1, y2, y3⟩ := box2 c9
          refine p_one rfl (by rfl) ?_
          intro K hK
          go_simp
          have hW5 := set2_below (b := wr.heap.size + 1) hW4 (by omega) (.int .i64 y.h) (.slice ay y.args.length cy)
          have d9 := box2_set c9 (.int .i64 y.h) (.slice ay y.args.length cy)
          have d8 := (Keep.refl (fun b => b ≠ wr.heap.size + 1) W4).setCell (p := ⟨wr.heap.size + 1, 0, none⟩) (by simp) (.int .i64 y.h) |>.setCell (p := ⟨wr.heap.size + 1, 1, none⟩) (by simp) (.slice ay y.args.length cy) |>.obj (by omega) c8
          refine hK.out _ _ (hS _ hW5) ?_
          clear hK K
          refine p_done ?_
          exact ⟨wr.heap.size, wr.heap.size + 1, by try simp only [Act.put, List.setIfInBounds_toArray, List.set_cons_zero, List.set_cons_succ]; try rfl, by omega, by omega, by omega, d8, d9, hW5⟩
        · intro K hK
          go_simp
          refine hK.out _ _ (hS _ ((Below.refl _ _).drew.alloc (Nat.le_refl _) _)) ?_
          refine p_then rfl (by rfl) ?_
          clear hK K
          intro K hK
          go_simp
          have hW3 : Below wr.heap.size wr (((wr.alloc (.cells #[.int .i64 0, .slice none 0 0] 25)).alloc (.cells #[.int .i64 0, .slice none 0 0] 25)).drew) := (((Below.refl wr.heap.size wr).alloc (Nat.le_refl _) (.cells #[.int .i64 0, .slice none 0 0] 25)).alloc (by simp) (.cells #[.int .i64 0, .slice none 0 0] 25)).drew
          refine hK.out _ _ (hS _ hW3) ?_
          clear hK K
          have b0 := World.alloc_heap_new wr (.cells #[.int .i64 0, .slice none 0 0] 25)
          have b8 : (((wr.alloc (.cells #[.int .i64 0, .slice none 0 0] 25)).alloc (.cells #[.int .i64 0, .slice none 0 0] 25)).drew).heap[wr.heap.size + 1]? = some (.cells #[.int .i64 0, .slice none 0 0] 25 (0, 0)) := by
            have h := World.alloc_heap_new (wr.alloc (.cells #[.int .i64 0, .slice none 0 0] 25)) (.cells #[.int .i64 0, .slice none 0 0] 25)
            rw [World.size_alloc] at h
            exact h
          have b9 : (((wr.alloc (.cells #[.int .i64 0, .slice none 0 0] 25)).alloc (.cells #[.int .i64 0, .slice none 0 0] 25)).drew).heap[wr.heap.size]? = some (.cells #[.int .i64 0, .slice none 0 0] 25 (0, 0)) := (Below.heap_alloc (wr.alloc (.cells #[.int .i64 0, .slice none 0 0] 25)) (.cells #[.int .i64 0, .slice none 0 0] 25) _ (by simp)).trans b0
          generalize (((wr.alloc (.cells #[.int .i64 0, .slice none 0 0] 25)).alloc (.cells #[.int .i64 0, .slice none 0 0] 25)).drew) = W3 at *
          clear b0
          obtain ⟨l8, z0, z1, z2, z3⟩ := box2 b8
          obtain ⟨l9, y0, y1, y2, y3⟩ := box2 b9
          refine p_one rfl (by rfl) ?_
          intro K hK
          go_simp
          have hW4 := set2_below (b := wr.heap.size + 1) hW3 (by omega) (.int .i64 x.h) (.slice ax x.args.length cx)
          have c8 := box2_set b8 (.int .i64 x.h) (.slice ax x.args.length cx)
          have c9 := (Keep.refl (fun b => b ≠ wr.heap.size + 1) W3).setCell (p := ⟨wr.heap.size + 1, 0, none⟩) (by simp) (.int .i64 x.h) |>.setCell (p := ⟨wr.heap.size + 1, 1, none⟩) (by simp) (.slice ax x.args.length cx) |>.obj (by omega) b9
          refine hK.out _ _ (hS _ hW4) ?_
          clear hK K
          generalize ((W3.setCell ⟨wr.heap.size + 1, 0, none⟩ (.int .i64 x.h)).setCell ⟨wr.heap.size + 1, 1, none⟩ (.slice ax x.args.length cx)) = W4 at *
          clear l8 l9 z0 z1 z2 z3 y0 y1 y2 y3 b8 b9
          obtain ⟨l9, y0, y1, y2, y3⟩ := box2 c9
          refine p_one rfl (by rfl) ?_
          intro K hK
          go_simp
          have hW5 := set2_below (b := wr.heap.size) hW4 (by omega) (.int .i64 y.h) (.slice ay y.args.length cy)
          have d9 := box2_set c9 (.int .i64 y.h) (.slice ay y.args.length cy)
          have d8 := (Keep.refl (fun b => b ≠ wr.heap.size) W4).setCell (p := ⟨wr.heap.size, 0, none⟩) (by simp) (.int .i64 y.h) |>.setCell (p := ⟨wr.heap.size, 1, none⟩) (by simp) (.slice ay y.args.length cy) |>.obj (by omega) c8
          refine hK.out _ _ (hS _ hW5) ?_
          clear hK K
          refine p_done ?_
          exact ⟨wr.heap.size + 1, wr.heap.size, by try simp only [Act.put, List.setIfInBounds_toArray, List.set_cons_zero, List.set_cons_succ]; try rfl, by omega, by omega, by omega, d8, d9, hW5⟩
      rintro _ W2 ⟨B1, B2, rfl, hB1, hB2, hne2, k1, k2, hW2⟩
      simp only [Act.put, List.setIfInBounds_toArray, List.set_cons_zero, List.set_cons_succ]
      go_wp2
      refine cut_cap (fun a0 a' w' => a' = ((((((((a0.put (some 33) (.slice (some ⟨g1, 0, none⟩) (ls.length + 1) cap1)).put (some 34) (.int .i64 ls.length)).put (some 35) (.slice (some ⟨g1, 0, none⟩) ls.length cap1)).put (some 36) (.slice (some ⟨g2, 0, none⟩) (ls.length + 1) cap2)).put (some 37) (.int .i64 ls.length)).put (some 38) (.slice (some ⟨g2, 0, none⟩) ls.length cap2)).put (some 7) (.slice (some ⟨g1, 0, none⟩) ls.length cap1)).put (some 8) (.slice (some ⟨g2, 0, none⟩) ls.length cap2)) ∧ w' = W2.drew) ?_ ?_
      · refine drawn_two (fun _ => True) [.take 0, .take 1, .take 2, .take 3, .take 4, .take 5, .take 6, .take 7] (by kernel_rfl) (by kernel_rfl) (by kernel_rfl) (by kernel_rfl) (fun _ _ _ _ _ h => h) trivial ?_
        have hi1 : ls.length ≤ cap1 := by omega
        have hi2 : ls.length ≤ cap2 := by omega
        iterate 8 (refine p_take (v := ?_) rfl (by rfl) ?_ ?_; rotate_left; (intro w _; go_simp; try with_reducible rfl); simp only [Act.put, List.setIfInBounds_toArray, List.set_cons_zero, List.set_cons_succ])
        exact p_done ⟨by try simp only [Act.put, List.setIfInBounds_toArray, List.set_cons_zero, List.set_cons_succ]; try rfl, rfl⟩
      rintro _ _ ⟨rfl, rfl⟩
      simp only [Act.put, List.setIfInBounds_toArray, List.set_cons_zero, List.set_cons_succ]
      have hW3 := hW2.drew
      have k1' : W2.drew.heap[B1]? = _ := k1
      have k2' : W2.drew.heap[B2]? = _ := k2
      generalize W2.drew = W3 at *
      clear k1 k2 hW2 p0 p1 q0 q1
      obtain ⟨kk1, z0, z1, -, -⟩ := box2 k1'
      obtain ⟨kk2, y0, y1, -, -⟩ := box2 k2'
      have hB9 : Below mb w W3 := hB.trans (hW3.mono (by omega))
      have hmore9 : w.heap.size ≤ W3.heap.size := Nat.le_trans hmore hW3.size
      have hgx : x.good = true := by
        have := HGL.out
        rw [goods_append, Bool.and_eq_true] at this
        simpa [Tm.goods] using this.2
      have hxr := good_heads x hgx x.h (by rw [Tm.heads_eq]; simp)
      have hw1 : IntKind.i64.wrap (-1 - x.h) = -1 - x.h := IntWalk.i64_in _ (by omega)
      have hszx := HX1.out
      have hmb9 : mb < wr.heap.size := by omega
      by_cases hneg : x.h < 0
      · have hge : 0 ≤ -1 - x.h := by omega
        obtain ⟨F, hF, hFv⟩ := HENV.out.below hW3
        have HFV := hide hFv
        cases hfv : f (-1 - x.h) with
        | none =>
          have HFX := hide ((hFv _).1 hfv)
          have HGV := hide (gstate_var hg.out HLEN.out hneg (.inl hfv))
          have hal : Below W3.heap.size W3 (W3.alloc (.cells #[.int .i64 0, .slice none 0 0] 25)) := (Below.refl _ _).alloc (Nat.le_refl _) _
          have HF2 := hide (hF.below hal)
          obtain ⟨-, m0, m1, -, -⟩ := box2 ((hal.block _ kk2).trans k2')
          have hB10 := hB9.trans (hal.mono (by have := hW3.size; omega))
          have hm10 := Nat.le_trans hmore9 hal.size
          clear hFv hfv hg
          go_wp2_with (first | (at_lookup; refine look_pl rfl _ _ 97 rfl Try.underlying3 Try.underlying97 (zeroTerm _) mb F rfl hF (-1 - x.h) rfl (by omega) (by omega) ?_; rw [HFX.out]) | (at_mapUpdate; refine store_pl rfl _ _ _ 97 rfl Try.underlying3 Try.underlying97 mb F rfl HF2.out (-1 - x.h) rfl (by omega) (by omega) (.agg #[.int .i64 y.h, .slice ay y.args.length cy]) rfl ?_; intro W9 hm9 hk9))
          have hlt1 := HP1.out.lt
          have hlt2 := HP2.out.lt
          have hfin : Gst A mb w W9 _ _ ls rs (upd f (-1 - x.h) y) := {
            below := hB10.trans (hk9.below (fun b hb h => by omega) (by omega))
            more := Nat.le_trans hm10 hk9.size
            left := ((HP1.out.below hW3).below hal).keep hk9 (fun b _ hb h => by omega) (fun b hb h => by have := (hlt1 b hb).1; omega)
            right := ((HP2.out.below hW3).below hal).keep hk9 (fun b _ hb h => by omega) (fun b hb h => by have := (hlt2 b hb).1; omega)
            apart := HAP.out
            len := HLEN.out
            size := by omega
            env := by
              refine ⟨_, hm9, fun z => ⟨fun hz => ?_, fun t hz => ?_⟩⟩
              · by_cases e : z = -1 - x.h
                · simp [upd, e] at hz
                · simp only [e, if_false]
                  exact (HFV.out z).1 (by simpa [upd, e] using hz)
              · by_cases e : z = -1 - x.h
                · simp only [e, if_true]
                  simp only [upd, e, if_true, Option.some.injEq] at hz
                  subst hz
                  refine ⟨_, rfl, (((ty.bar fun b _ h => .inl h).below hW3).below hal).keep hk9 (fun b _ hb h => by omega)⟩
                · simp only [e, if_false]
                  obtain ⟨s9, h8, h9⟩ := (HFV.out z).2 t (by simpa [upd, e] using hz)
                  exact ⟨s9, h8, (h9.below hal).keep hk9 (fun b _ hb h => by omega)⟩
            good := by have := HGL.out; rw [goods_append, Bool.and_eq_true] at this; exact this.1
            size2 := by omega
            esz := fun v t hz => by
              by_cases e : v = -1 - x.h
              · simp [upd, e] at hz; rw [← hz]; omega
              · simp [upd, e] at hz; exact HESZ.out v t hz }
          go_roundg (Tm.sizes ls + 1)
          case measure => have := HX1.out; rw [Tm.sizes_append]; simp only [Tm.sizes]; omega
          case rel => exact ⟨ls, rs, upd f (-1 - x.h) y, rfl, hfin, HGV.out⟩
        | some u =>
          obtain ⟨su, hfx, tu⟩ := (hFv _).2 u hfv
          obtain ⟨au, cu, rfl, -, -⟩ := tu.shape
          have HFX := hide hfx
          have husz := HESZ.out _ _ hfv
          have HGV := hide (fun h : u = y => gstate_var hg.out HLEN.out hneg (.inr (h ▸ hfv)))
          have HGC := hide (fun h : u ≠ y => gather_of_none HL.out (gstate_clash hg.out HLEN.out hneg hfv h))
          have hal0 : Below W3.heap.size W3 (W3.alloc (.cells #[.int .i64 u.h, .slice au u.args.length cu] 25)) := (Below.refl _ _).alloc (Nat.le_refl _) _
          have kU : (W3.alloc (.cells #[.int .i64 u.h, .slice au u.args.length cu] 25)).heap[W3.heap.size]? = some (.cells #[.int .i64 u.h, .slice au u.args.length cu] 25 (0, 0)) := World.alloc_heap_new _ _
          obtain ⟨-, n0, n1, -, -⟩ := box2 kU
          obtain ⟨-, m0, m1, -, -⟩ := box2 ((hal0.block _ kk2).trans k2')
          clear hFv hfv hg hfx
          go_wp2_with (first | (at_lookup; refine look_pl rfl _ _ 97 rfl Try.underlying3 Try.underlying97 (zeroTerm _) mb F rfl hF (-1 - x.h) rfl (by omega) (by omega) ?_; rw [HFX.out]) | fail)
          refine (tsame_calls u y (fun b => mb ≤ b ∨ A b) (fun b => mb ≤ b ∨ A b) _ _ _ _ _ husz ⟨rfl, tu.below hal0⟩ ⟨rfl, ((ty.bar fun b _ h => .inl h).below hW3).below hal0⟩).mono ?_
          rintro e W8 ⟨rfl, h8⟩
          have hal := hal0.trans (h8.mono hal0.size)
          have HF2 := hide (hF.below hal)
          have hB10 := hB9.trans (hal.mono (by have := hW3.size; omega))
          have hm10 := Nat.le_trans hmore9 hal.size
          have kx2 := (hal.block _ kk2).trans k2'
          clear m0 m1 n0 n1 kU
          obtain ⟨-, m0, m1, -, -⟩ := box2 kx2
          cases hsb : sameB u y
          · have hne : u ≠ y := fun h => by rw [h, sameB_self] at hsb; cases hsb
            have HR := hide (HGC.out hne)
            have HSB := hide hsb
            clear hsb hne
            go_wp2
            go_ret
            exact ⟨hB10, hm10, .inr ⟨HR.out, rfl⟩⟩
          · have HGV := hide (HGV.out (sameB_iff.1 hsb))
            have HSB := hide hsb
            clear hsb
            go_wp2_with (at_mapUpdate; refine store_pl rfl _ _ _ 97 rfl Try.underlying3 Try.underlying97 mb F rfl HF2.out (-1 - x.h) rfl (by omega) (by omega) (.agg #[.int .i64 y.h, .slice ay y.args.length cy]) rfl ?_; intro W9 hm9 hk9)
            have hlt1 := HP1.out.lt
            have hlt2 := HP2.out.lt
            have hfin : Gst A mb w W9 _ _ ls rs (upd f (-1 - x.h) y) := {
              below := hB10.trans (hk9.below (fun b hb h => by omega) (by omega))
              more := Nat.le_trans hm10 hk9.size
              left := ((HP1.out.below hW3).below hal).keep hk9 (fun b _ hb h => by omega) (fun b hb h => by have := (hlt1 b hb).1; omega)
              right := ((HP2.out.below hW3).below hal).keep hk9 (fun b _ hb h => by omega) (fun b hb h => by have := (hlt2 b hb).1; omega)
              apart := HAP.out
              len := HLEN.out
              size := by omega
              env := by
                refine ⟨_, hm9, fun z => ⟨fun hz => ?_, fun t hz => ?_⟩⟩
                · by_cases e : z = -1 - x.h
                  · simp [upd, e] at hz
                  · simp only [e, if_false]
                    exact (HFV.out z).1 (by simpa [upd, e] using hz)
                · by_cases e : z = -1 - x.h
                  · simp only [e, if_true]
                    simp only [upd, e, if_true, Option.some.injEq] at hz
                    subst hz
                    refine ⟨_, rfl, (((ty.bar fun b _ h => .inl h).below hW3).below hal).keep hk9 (fun b _ hb h => by omega)⟩
                  · simp only [e, if_false]
                    obtain ⟨s9, h8, h9⟩ := (HFV.out z).2 t (by simpa [upd, e] using hz)
                    exact ⟨s9, h8, (h9.below hal).keep hk9 (fun b _ hb h => by omega)⟩
              good := by have := HGL.out; rw [goods_append, Bool.and_eq_true] at this; exact this.1
              size2 := by omega
              esz := fun v t hz => by
                by_cases e : v = -1 - x.h
                · simp [upd, e] at hz; rw [← hz]; omega
                · simp [upd, e] at hz; exact HESZ.out v t hz }
            go_roundg (Tm.sizes ls + 1)
            case measure => have := HX1.out; rw [Tm.sizes_append]; simp only [Tm.sizes]; omega
            case rel => exact ⟨ls, rs, upd f (-1 - x.h) y, rfl, hfin, HGV.out⟩
      · have hge : ¬ 0 ≤ -1 - x.h := by omega
        by_cases hh : x.h = y.h ∧ x.args.length = y.args.length
        · obtain ⟨h1, h2⟩ := hh
          have HXY := hide (show x.h = y.h ∧ x.args.length = y.args.length from ⟨h1, h2⟩)
          have HG2 := hide (gstate_fun hg.out HLEN.out hneg h1 h2)
          have hal : x.args.length ≤ Tm.sizes x.args := Tm.sizes_length _
          have hlls : ls.length ≤ Tm.sizes ls := Tm.sizes_length _
          have hbd : ls.length + x.args.length ≤ 1000000000 := by omega
          have HSY := hide (show Tm.sizes rs + Tm.sizes y.args ≤ 1000000000 by have := HY1.out; omega)
          clear hal hlls hg
          have l1 : x.h ≤ y.h := by omega
          have l2 : y.h ≤ x.h := by omega
          have l3 : x.args.length ≤ y.args.length := by omega
          have l4 : y.args.length ≤ x.args.length := by omega
          clear h1 h2
          go_wp2
          refine cut_endcap (fun a0 a' w' => ∃ v3 v4, a' = ((((((((((a0.put (some 74) (.slice (some ⟨g1, 0, none⟩) ls.length cap1)).put (some 75) (.pointer (some ⟨B1, 1, none⟩))).put (some 76) (.slice ax x.args.length cx)).put (some 77) (v3)).put (some 78) (.slice (some ⟨g2, 0, none⟩) ls.length cap2)).put (some 79) (.pointer (some ⟨B2, 1, none⟩))).put (some 80) (.slice ay y.args.length cy)).put (some 81) (v4)).put (some 7) (v3)).put (some 8) (v4)) ∧ Gst A mb w w' v3 v4 (ls ++ x.args) (rs ++ y.args) f) ?_ ?_
          · have hS : ∀ W' : World, W'.heap[B1]? = W3.heap[B1]? → W'.heap[B2]? = W3.heap[B2]? → W'.cell? ⟨B1, 1, none⟩ = some (.slice ax x.args.length cx) ∧ W'.cell? ⟨B2, 1, none⟩ = some (.slice ay y.args.length cy) := fun W' e1 e2 => by
              obtain ⟨-, -, z1, -, -⟩ := box2 (e1.trans k1')
              obtain ⟨-, -, y1, -, -⟩ := box2 (e2.trans k2')
              exact ⟨z1, y1⟩
            refine drawn_two (fun W' => W'.cell? ⟨B1, 1, none⟩ = some (.slice ax x.args.length cx) ∧ W'.cell? ⟨B2, 1, none⟩ = some (.slice ay y.args.length cy)) [.take 0, .take 1, .take 2, .take 4, .take 5, .take 6, .one 3, .one 7, .take 8, .take 9] (by kernel_rfl) (by kernel_rfl) (by kernel_rfl) (by kernel_rfl) (fun _ _ _ _ _ h => h) (hS _ rfl rfl) ?_
            iterate 6 (refine p_take (v := ?_) rfl (by rfl) ?_ ?_; rotate_left; (intro w hS; obtain ⟨S1, S2⟩ := hS; go_simp; try with_reducible rfl); simp only [Act.put, List.setIfInBounds_toArray, List.set_cons_zero, List.set_cons_succ])
            have hWd := hW3.drew
            generalize hV : W3.drew = V at *
            have eB : ∀ b : Nat, V.heap[b]? = W3.heap[b]? := fun b => by rw [← hV]; rfl
            have P1 := HP1.out.below hWd
            have P2 := HP2.out.below hWd
            have EV := HENV.out.below hWd
            have hap : g1 ≠ g2 := fun h => HAP.out g1 rfl (by simp [Value.ownBlock, h])
            have tx' : RepD (fun b => (mb ≤ b ∨ A b) ∨ (Value.slice (some ⟨g1, 0, none⟩) ls.length cap1).ownBlock = some b) V (.row 2 (x.args.map Tm.d)) [.slice ax x.args.length cx] := by
              have := (tx.below hWd).bar (B := fun b => (mb ≤ b ∨ A b) ∨ (Value.slice (some ⟨g1, 0, none⟩) ls.length cap1).ownBlock = some b) fun b _ h => by
                rcases h with h | h
                · exact .inl h
                · exact .inl (.inl (by simp [Value.ownBlock] at h; omega))
              simpa only [Terms, Tm.ds_eq] using this
            have ty' : Terms (fun b => mb ≤ b ∨ A b) V (.slice ay y.args.length cy) y.args := (ty.below hWd).bar fun b _ h => .inl h
            have hVs := hWd.size
            refine p_one rfl (by rfl) ?_
            intro K hK
            refine wp_app_all (.tmp 74) (.tmp 76) 23 rfl w.heap.size 25 (.agg #[.int .i64 0, .slice none 0 0]) 2 32 Try.underlying23 (by kernel_rfl) rfl (by decide) (v := .slice (some ⟨g1, 0, none⟩) ls.length cap1) (xv := .slice ax x.args.length cx) rfl rfl P1 tx' (fun d hd => by obtain ⟨z, -, rfl⟩ := List.mem_map.1 hd; exact Tm.oneD z) (by simp [maxLen]; omega) (by simp; omega) (by omega) ?_
            intro v3 w4 o1 kp1 ob1 ⟨ad1, cp1, hv1⟩
            have nB1 : V.heap.size ≤ w4.heap.size := kp1.size
            have kB1 : ∀ b, b < V.heap.size → b ≠ g1 → w4.heap[b]? = V.heap[b]? := fun b hb hne => kp1.block b hb (by simp [Value.ownBlock]; omega)
            have lt1 := o1.lt
            subst hv1
            have lB1 : B1 < V.heap.size := by rw [← hV]; exact kk1
            have lB2 : B2 < V.heap.size := by rw [← hV]; exact kk2
            refine hK.out _ _ (hS _ ((kB1 _ lB1 (by omega)).trans (eB _)) ((kB1 _ lB2 (by omega)).trans (eB _))) ?_
            clear hK K
            simp only [Act.put, List.setIfInBounds_toArray, List.set_cons_zero, List.set_cons_succ]
            have P2' := P2.keep kp1 (fun b _ hb h => by simp [Value.ownBlock] at h; omega) (fun b hb h => by simp [Value.ownBlock] at h hb; omega)
            have E1 := EV.keep kp1 (fun h => by simp [Value.ownBlock] at h; omega) (fun c _ hc h => by simp [Value.ownBlock] at h; omega)
            have ty2 : RepD (fun b => (mb ≤ b ∨ A b) ∨ (Value.slice (some ⟨g2, 0, none⟩) ls.length cap2).ownBlock = some b) w4 (.row 2 (y.args.map Tm.d)) [.slice ay y.args.length cy] := by
              have := (ty'.keep kp1 (fun b _ hb h => by simp [Value.ownBlock] at h; omega)).bar (B := fun b => (mb ≤ b ∨ A b) ∨ (Value.slice (some ⟨g2, 0, none⟩) ls.length cap2).ownBlock = some b) fun b _ h => by
                rcases h with h | h
                · exact h
                · exact .inl (by simp [Value.ownBlock] at h; omega)
              simpa only [Terms, Tm.ds_eq] using this
            refine p_one rfl (by rfl) ?_
            intro K hK
            refine wp_app_all (.tmp 78) (.tmp 80) 23 rfl w.heap.size 25 (.agg #[.int .i64 0, .slice none 0 0]) 2 32 Try.underlying23 (by kernel_rfl) rfl (by decide) (v := .slice (some ⟨g2, 0, none⟩) ls.length cap2) (xv := .slice ay y.args.length cy) rfl rfl P2' ty2 (fun d hd => by obtain ⟨z, -, rfl⟩ := List.mem_map.1 hd; exact Tm.oneD z) (by have := HLEN.out; simp [maxLen]; omega) (by have := HLEN.out; simp; omega) (by omega) ?_
            intro v4 w5 o2 kp2 ob2 ⟨ad2, cp2, hv2⟩
            subst hv2
            have kB2 : ∀ b, b < w4.heap.size → b ≠ g2 → w5.heap[b]? = w4.heap[b]? := fun b hb hne => kp2.block b hb (by simp [Value.ownBlock]; omega)
            refine hK.out _ _ (hS _ ((kB2 _ (by omega) (by omega)).trans ((kB1 _ lB1 (by omega)).trans (eB _))) ((kB2 _ (by omega) (by omega)).trans ((kB1 _ lB2 (by omega)).trans (eB _)))) ?_
            clear hK K
            simp only [Act.put, List.setIfInBounds_toArray, List.set_cons_zero, List.set_cons_succ]
            have hfin : Gst A mb w w5 _ _ (ls ++ x.args) (rs ++ y.args) f := {
              below := ((hB.trans (hWd.mono (by omega))).trans (kp1.below (fun b hb h => by simp [Value.ownBlock] at h; omega) (by omega))).trans (kp2.below (fun b hb h => by simp [Value.ownBlock] at h; omega) (by omega))
              more := by have := kp2.size; omega
              left := by
                rw [List.map_append]
                exact o1.keep kp2 (fun b _ hb h => by simp [Value.ownBlock] at h; omega) (fun b hb h => by
                  have := ob1 b hb
                  have := lt1 b hb
                  simp [Value.ownBlock] at h this
                  rcases ob1 b hb with h9 | h9
                  · simp [Value.ownBlock] at h9; omega
                  · omega)
              right := by rw [List.map_append]; exact o2
              apart := fun b hb1 hb2 => by
                have l1 := lt1 b hb1
                rcases ob1 b hb1 with h9 | h9
                · simp [Value.ownBlock] at h9
                  rcases ob2 b hb2 with h8 | h8
                  · simp [Value.ownBlock] at h8; omega
                  · omega
                · rcases ob2 b hb2 with h8 | h8
                  · simp [Value.ownBlock] at h8; omega
                  · omega
              len := by rw [List.length_append, List.length_append, HLEN.out, HXY.out.2]
              size := by rw [Tm.sizes_append]; have := HX1.out; omega
              env := E1.keep kp2 (fun h => by simp [Value.ownBlock] at h; omega) (fun c _ hc h => by simp [Value.ownBlock] at h; omega)
              good := by
                have h1 := HGL.out
                rw [goods_append, Bool.and_eq_true] at h1 ⊢
                refine ⟨h1.1, ?_⟩
                cases x with
                | node xh xl =>
                  have := hgx
                  simp only [Tm.good, Bool.and_eq_true] at this
                  exact this.2
              size2 := by rw [Tm.sizes_append]; exact HSY.out
              esz := HESZ.out }
            simp only [List.length_map] at hfin
            iterate 2 (refine p_take (v := ?_) rfl (by rfl) ?_ ?_; rotate_left; (intro w hS; obtain ⟨S1, S2⟩ := hS; go_simp; try with_reducible rfl); simp only [Act.put, List.setIfInBounds_toArray, List.set_cons_zero, List.set_cons_succ])
            exact p_done ⟨.slice ad1 (ls.length + x.args.length) cp1, .slice ad2 (rs.length + y.args.length) cp2, by first | rfl | (simp [Act.put]), hfin⟩
          rintro _ W5 ⟨v3, v4, rfl, hst5⟩
          simp only [Act.put, List.setIfInBounds_toArray, List.set_cons_zero, List.set_cons_succ]
          go_wp2
          go_roundg (Tm.sizes (ls ++ x.args) + 1)
          case measure => rw [Tm.sizes_append, Tm.sizes_append]; have := HX1.out; simp only [Tm.sizes]; omega
          case rel => exact ⟨_, _, f, rfl, hst5, HG2.out⟩
        · have HR := hide (gather_of_none HL.out (gstate_other hg.out HLEN.out hneg hh))
          clear hg
          by_cases h1 : x.h = y.h
          · have h2 : ¬ x.args.length = y.args.length := fun h => hh ⟨h1, h⟩
            have l1 : x.h ≤ y.h := by omega
            have l2 : y.h ≤ x.h := by omega
            have hd : (x.h != y.h) = false := by simpa using h1
            clear hh h1
            go_wp2
            go_ret
            exact ⟨hB9, hmore9, .inr ⟨HR.out, rfl⟩⟩
          · have hd : (x.h != y.h) = true := by simpa using h1
            clear hh
            go_wp2
            go_ret
            exact ⟨hB9, hmore9, .inr ⟨HR.out, rfl⟩⟩
end Go.Proofs.Ythplndalbfcbbaa
set_option linter.unusedSimpArgs false
set_option linter.unusedVariables false
namespace Go.Proofs.Ythplndalbfcbbaa
open Go.RowKit
def InR (v : Int) : Prop := 0 ≤ v ∧ v ≤ 255
mutual
theorem gatherT_dom : ∀ (p t : Tm) (f g : Env), p.good = true → gatherT p t f = some g → (∀ v u, f v = some u → InR v) → ∀ v u, g v = some u → InR v
  | .node h l, t, f, g, hg, hr, hf => by
    rw [gatherT] at hr
    have hh := good_heads _ hg h (by simp [Tm.heads])
    by_cases hn : h < 0
    · rw [if_pos hn] at hr
      cases hfv : f (-1 - h) with
      | none =>
        rw [hfv] at hr
        cases hr
        intro v u hv
        by_cases e : v = -1 - h
        · rw [e]; exact ⟨by omega, by omega⟩
        · simp [upd, e] at hv; exact hf v u hv
      | some w =>
        rw [hfv] at hr
        simp only at hr
        split at hr
        · cases hr; exact hf
        · cases hr
    · rw [if_neg hn] at hr
      have hg' : Tm.goods l = true := by simp only [Tm.good, Bool.and_eq_true] at hg; exact hg.2
      split at hr
      · exact gatherL_dom l t.args f g hg' hr hf
      · cases hr
theorem gatherL_dom : ∀ (ps ts : List Tm) (f g : Env), Tm.goods ps = true → gatherL ps ts f = some g → (∀ v u, f v = some u → InR v) → ∀ v u, g v = some u → InR v
  | [], ts, f, g, _, hr, hf => by rw [gatherL] at hr; cases hr; exact hf
  | _ :: _, [], f, g, _, hr, _ => by rw [gatherL] at hr; cases hr
  | p :: ps, t :: ts, f, g, hg, hr, hf => by
    simp only [Tm.goods, Bool.and_eq_true] at hg
    rw [gatherL] at hr
    cases h1 : gatherT p t f with
    | none => rw [h1] at hr; cases hr
    | some g1 =>
      rw [h1] at hr
      exact gatherL_dom ps ts g1 g hg.2 hr (gatherT_dom p t f g1 hg.1 h1 hf)
end
def bindOf (f : Env) (v : Int) : Option Bd := match f v with
  | some t => if t.h != -1 - v then some ⟨v, t⟩ else none
  | none => none
theorem tidyT_eq (f : Env) : tidyT f = (upto 256).filterMap (bindOf f) := rfl
theorem tidy_dom {f : Env} {vs : List Int} (hs : vs.Pairwise (· < ·)) (hv : ∀ v, v ∈ vs ↔ ∃ t, f v = some t) (hr : ∀ v t, f v = some t → InR v) : vs.filterMap (bindOf f) = tidyT f := by
  have he : vs = (upto 256).filter fun v => (f v).isSome := by
    refine sorted_ext _ _ hs ((upto_sorted 256).filter _) fun v => ?_
    simp only [List.mem_filter, mem_upto, hv v, Option.isSome_iff_exists]
    constructor
    · rintro ⟨t, ht⟩; have := hr v t ht; exact ⟨⟨this.1, by have := this.2; omega⟩, t, ht⟩
    · rintro ⟨_, h⟩; exact h
  rw [tidyT_eq, he, List.filterMap_filter]
  congr 1
  funext v
  cases h : f v <;> simp [bindOf, h]
theorem bindOf_snoc {f : Env} {vs : List Int} {k : Nat} (h : k < vs.length) {t : Tm} (ht : f vs[k] = some t) : (vs.take (k + 1)).filterMap (bindOf f) = (vs.take k).filterMap (bindOf f) ++ if t.h != -1 - vs[k] then [⟨vs[k], t⟩] else [] := by
  rw [List.take_succ_eq_append_getElem h, List.filterMap_append]
  congr 1
  simp only [List.filterMap_cons, List.filterMap_nil, bindOf, ht]
  split <;> rename_i hc
  · split at hc <;> simp_all
  · split at hc <;> simp_all
theorem goods_of_right : ∀ {l : List Tm}, l.all rightB = true → Tm.goods l = true
  | [], _ => rfl
  | t :: l, h => by
    simp only [List.all_cons, Bool.and_eq_true] at h
    simp only [Tm.goods, chk_good h.1, goods_of_right h.2, Bool.and_self]
end Go.Proofs.Ythplndalbfcbbaa
namespace Go.Proofs
open Go.Shelf
def Try.lays189_ren : Go.Shelf.Ren := ⟨fun | 189 => 104 | 125 => 148 | 257 => 147 | 128 => 180 | 129 => 181 | 294 => 171 | 295 => 172 | 296 => 173 | 297 => 174 | 298 => 175 | 299 => 176 | 216 => 177 | 300 => 178 | 301 => 179 | 328 => 195 | 329 => 196 | 330 => 197 | 331 => 198 | 332 => 199 | 215 => 200 | 343 => 209 | n => n, fun | 28 => 37 | 3 => 3 | 46 => 181 | 0 => 0 | 51 => 211 | 53 => 213 | 4 => 4 | 183 => 204 | 182 => 203 | 131 => 122 | 5 => 5 | 9 => 9 | 218 => 228 | 222 => 232 | 228 => 241 | 229 => 242 | n => n, fun | n => n⟩
theorem Try.lays189 : Go.Proofs.Lays.n189 Try.prog Try.lays189_ren := {
  mixed := by kernel_rfl
  f125 := Try.func148.trans (congrArg some (by kernel_rfl))
  f128 := Try.func180.trans (congrArg some (by kernel_rfl))
  f129 := Try.func181.trans (congrArg some (by kernel_rfl))
  f189 := Try.func104.trans (congrArg some (by kernel_rfl))
  f215 := Try.func200.trans (congrArg some (by kernel_rfl))
  f216 := Try.func177.trans (congrArg some (by kernel_rfl))
  f257 := Try.func147.trans (congrArg some (by kernel_rfl))
  f294 := Try.func171.trans (congrArg some (by kernel_rfl))
  f295 := Try.func172.trans (congrArg some (by kernel_rfl))
  f296 := Try.func173.trans (congrArg some (by kernel_rfl))
  f297 := Try.func174.trans (congrArg some (by kernel_rfl))
  f298 := Try.func175.trans (congrArg some (by kernel_rfl))
  f299 := Try.func176.trans (congrArg some (by kernel_rfl))
  f300 := Try.func178.trans (congrArg some (by kernel_rfl))
  f301 := Try.func179.trans (congrArg some (by kernel_rfl))
  f328 := Try.func195.trans (congrArg some (by kernel_rfl))
  f329 := Try.func196.trans (congrArg some (by kernel_rfl))
  f330 := Try.func197.trans (congrArg some (by kernel_rfl))
  f331 := Try.func198.trans (congrArg some (by kernel_rfl))
  f332 := Try.func199.trans (congrArg some (by kernel_rfl))
  f343 := Try.func209.trans (congrArg some (by kernel_rfl))
  t0 := Try.underlying0
  a0 := Try.isAgg0
  z0 := Try.sizeOf0
  v0 := Try.zeroValue0
  t3 := Try.underlying3
  a3 := Try.isAgg3
  z3 := Try.sizeOf3
  v3 := Try.zeroValue3
  t4 := Try.underlying4
  a4 := Try.isAgg4
  z4 := Try.sizeOf4
  v4 := Try.zeroValue4
  t5 := Try.underlying5
  a5 := Try.isAgg5
  z5 := Try.sizeOf5
  v5 := Try.zeroValue5
  t9 := Try.underlying9
  a9 := Try.isAgg9
  z9 := Try.sizeOf9
  v9 := Try.zeroValue9
  t28 := Try.underlying37
  a28 := Try.isAgg37
  z28 := Try.sizeOf37
  v28 := Try.zeroValue37
  t46 := Try.underlying181
  a46 := Try.isAgg181
  z46 := Try.sizeOf181
  v46 := Try.zeroValue181
  t51 := Try.underlying211
  a51 := Try.isAgg211
  z51 := Try.sizeOf211
  v51 := Try.zeroValue211
  t53 := Try.underlying213
  a53 := Try.isAgg213
  z53 := Try.sizeOf213
  v53 := Try.zeroValue213
  t131 := Try.underlying122
  a131 := Try.isAgg122
  z131 := Try.sizeOf122
  v131 := Try.zeroValue122
  t182 := Try.underlying203
  a182 := Try.isAgg203
  z182 := Try.sizeOf203
  v182 := Try.zeroValue203
  t183 := Try.underlying204
  a183 := Try.isAgg204
  z183 := Try.sizeOf204
  v183 := Try.zeroValue204
  t218 := Try.underlying228
  a218 := Try.isAgg228
  z218 := Try.sizeOf228
  v218 := Try.zeroValue228
  t222 := Try.underlying232
  a222 := Try.isAgg232
  z222 := Try.sizeOf232
  v222 := Try.zeroValue232
  t228 := Try.underlying241
  a228 := Try.isAgg241
  z228 := Try.sizeOf241
  v228 := Try.zeroValue241
  t229 := Try.underlying242
  a229 := Try.isAgg242
  z229 := Try.sizeOf242
  v229 := Try.zeroValue242 }
open Go.Sort Go.RowKit in
theorem Try.slices_Sort_int (blk off cap : Nat) (zs : List Int) (w : World) (hH : Holds (Value.int .i64) w blk off zs.toArray) (hblk : blk < w.heap.size) (hsz : zs.length < 4611686018427387904) :
    Calls Try.prog 104 #[.slice (some ⟨blk, off, none⟩) zs.length cap] w fun e w' =>
      e = .returned (.tuple #[]) ∧ ∃ n os, w' = grow (putRow (Value.int .i64) (Sort.ahead w n) blk off (zs.mergeSort fun x y => decide (x ≤ y)).toArray) os := Any.slices_Sort_int Try.lays189 blk off cap zs w hH hblk hsz
open Go.RowKit Go.Sort in
theorem Try.slices_Sort_int_none (p : Option Addr) (cap : Nat) (w : World) :
    Calls Try.prog 104 #[.slice p 0 cap] w fun e w' => e = .returned (.tuple #[]) ∧ w' = w := Any.slices_Sort_int_none Try.lays189 p cap w
end Go.Proofs
namespace Go.Proofs
open Go.Shelf
def Try.keysA_ren : Go.Shelf.Ren := ⟨fun | 7 => 99 | 10 => 144 | n => n, fun | 23 => 97 | 26 => 3 | 3 => 25 | 28 => 112 | 0 => 0 | 27 => 111 | 33 => 175 | 4 => 4 | n => n, fun | n => n⟩
theorem Try.keysA : Go.Proofs.SlLaysZI.n7 Try.prog Try.keysA_ren := {
  mixed := by kernel_rfl
  f7 := ⟨Try.f99.name, by decide, Try.func99.trans (congrArg some (by kernel_rfl))⟩
  f10 := ⟨Try.f144.name, by decide, Try.func144.trans (congrArg some (by kernel_rfl))⟩
  t0 := Try.underlying0
  a0 := Try.isAgg0
  z0 := Try.sizeOf0
  v0 := Try.zeroValue0
  t4 := Try.underlying4
  a4 := Try.isAgg4
  z4 := Try.sizeOf4
  v4 := Try.zeroValue4
  t23 := Try.underlying97
  a23 := Try.isAgg97
  z23 := Try.sizeOf97
  v23 := Try.zeroValue97
  t26 := Try.underlying3
  a26 := Try.isAgg3
  z26 := Try.sizeOf3
  v26 := Try.zeroValue3
  t27 := Try.underlying111
  a27 := Try.isAgg111
  z27 := Try.sizeOf111
  v27 := Try.zeroValue111
  t28 := Try.underlying112
  a28 := Try.isAgg112
  z28 := Try.sizeOf112
  v28 := Try.zeroValue112
  t33 := Try.underlying175
  a33 := Try.isAgg175
  z33 := Try.sizeOf175
  v33 := Try.zeroValue175 }
def Try.sortedA_ren : Go.Shelf.Ren := ⟨fun | 6 => 98 | 8 => 143 | 9 => 104 | 11 => 170 | 13 => 148 | 12 => 147 | 23 => 180 | 24 => 181 | 14 => 171 | 15 => 172 | 16 => 173 | 17 => 174 | 18 => 175 | 19 => 176 | 20 => 177 | 21 => 178 | 22 => 179 | 25 => 195 | 26 => 196 | 27 => 197 | 28 => 198 | 29 => 199 | 30 => 200 | 31 => 209 | n => n, fun | 26 => 3 | 28 => 112 | 24 => 37 | 0 => 0 | 3 => 3 | 37 => 181 | 48 => 211 | 50 => 213 | 4 => 4 | 40 => 204 | 39 => 203 | 45 => 122 | 5 => 5 | 9 => 9 | 51 => 228 | 55 => 232 | 57 => 241 | 58 => 242 | 33 => 175 | n => n, fun | n => n⟩
theorem Try.sortedA : Go.Proofs.SlLaysZI.n6 Try.prog Try.sortedA_ren := {
  mixed := by kernel_rfl
  f6 := ⟨Try.f98.name, by decide, Try.func98.trans (congrArg some (by kernel_rfl))⟩
  f8 := ⟨Try.f143.name, by decide, Try.func143.trans (congrArg some (by kernel_rfl))⟩
  f11 := ⟨Try.f170.name, by decide, Try.func170.trans (congrArg some (by kernel_rfl))⟩
  t0 := Try.underlying0
  a0 := Try.isAgg0
  z0 := Try.sizeOf0
  v0 := Try.zeroValue0
  t24 := Try.underlying37
  a24 := Try.isAgg37
  z24 := Try.sizeOf37
  v24 := Try.zeroValue37
  t26 := Try.underlying3
  a26 := Try.isAgg3
  z26 := Try.sizeOf3
  v26 := Try.zeroValue3
  t28 := Try.underlying112
  a28 := Try.isAgg112
  z28 := Try.sizeOf112
  v28 := Try.zeroValue112
  i26 := by kernel_rfl }
end Go.Proofs
set_option linter.unusedSimpArgs false
set_option linter.unusedVariables false
namespace Go.Proofs.Ythplndalbfcbbaa
open Go.RowKit Go.MapKept Go.WideShapes Go.ChangeMaps Go.WideElems
theorem pigeon : ∀ (n : Nat) (l : List Int), l.Nodup → (∀ x, x ∈ l → 0 ≤ x ∧ x < n) → l.length ≤ n
  | 0, l, _, h => by
    cases l with
    | nil => simp
    | cons x l => have := h x (by simp); omega
  | n + 1, l, hn, h => by
    have h1 := pigeon n (l.erase (n : Int)) (hn.erase _) fun x hx => by
      have h2 := (hn.mem_erase_iff).1 hx
      have h3 := h x h2.2
      have := h2.1
      omega
    rw [List.length_erase] at h1
    split at h1 <;> omega
def R0 : Value → Option (DataW Unit × List MemPlace) := fun _ => some (.nil, [])
theorem MapAt.owns {P : Program} {k : TypeId} {W : World} {b : Nat} {f : Int → Option Value} (h : MapAt W b f) (hk : P.underlying k = some (.int .i64)) (hr : ∀ x v, f x = some v → 0 ≤ x ∧ x ≤ 255) :
    ∃ D : DataW Unit, W.ownsMap P k R0 b 256 D ∧ (∀ x, x ∈ intKeys D ↔ ∃ v, f x = some v) ∧ (intKeys D).Nodup := by
  obtain ⟨es, clock, hb, hkeys, huniq, hval, hdom, hst⟩ := h
  have hkey : ∀ e, e ∈ es.toList → ∃ x : Int, e.key = .int .i64 x ∧ f x = some e.val ∧ keyOf P k e.key = some (.int .i64 x) := fun e he => by
    obtain ⟨x, hx, h0, h1⟩ := hkeys e he
    exact ⟨x, hx, hval e he x hx, by rw [hx]; exact Maps.keyOf_int_mk hk (wf_i64 h0 h1)⟩
  have hnd : (es.toList.map fun e => match e.key with | .int _ x => x | _ => 0).Nodup := by
        have hp := hst.2.2
        rw [List.nodup_iff_pairwise_ne, List.pairwise_map] at hp ⊢
        refine List.Pairwise.imp_of_mem ?_ hp
        intro e e' he he' hne
        obtain ⟨x, hx, _⟩ := hkey e he
        obtain ⟨y, hy, _⟩ := hkey e' he'
        rw [hx, hy] at hne ⊢
        simp only at hne ⊢
        intro e1
        exact hne (by rw [e1])
  have hsize : es.size ≤ 256 := by
    have h1 : (es.toList.map fun e => match e.key with | .int _ x => x | _ => 0).length ≤ 256 := by
      refine pigeon 256 _ hnd ?_
      · intro x hx
        obtain ⟨e, he, rfl⟩ := List.mem_map.1 hx
        obtain ⟨y, hy, hf, _⟩ := hkey e he
        rw [hy]
        have := hr y _ hf
        simp only; omega
    simpa using h1
  have hrd : ∀ e, e ∈ es.toList → ∃ x : Int, e.key = .int .i64 x ∧ rd P k R0 e = some (.int .i64 x, .nil) := fun e he => by
    obtain ⟨x, hx, _, hk2⟩ := hkey e he
    refine ⟨x, hx, ?_⟩
    cases e with
    | mk key val born => exact rd_mk (born := born) hk2 (yv := (.nil, [])) rfl
  refine ⟨_, ⟨es, clock, hb, ⟨by unfold maxLen; omega, hst, fun e he => by obtain ⟨x, _, h2⟩ := hrd e he; exact ⟨_, h2⟩⟩, hsize, rfl⟩, fun x => ?_, ?_⟩
  rotate_left
  · simp only [intKeys]
    refine ((sorted_perm _).map _).nodup_iff.2 ?_
    rw [List.map_map]
    have he : es.toList.map ((fun p => _root_.Go.intOf p.1) ∘ rg P k R0) = es.toList.map fun e => match e.key with | .int _ x => x | _ => 0 := by
      refine List.map_congr_left fun e he => ?_
      obtain ⟨y, hy, h2⟩ := hrd e he
      simp only [Function.comp, rg_of h2, hy]
      rfl
    rw [he]; exact hnd
  simp only [intKeys, List.mem_map, mem_sorted]
  constructor
  · rintro ⟨p, ⟨e, he, rfl⟩, rfl⟩
    obtain ⟨y, hy, h2⟩ := hrd e he
    rw [rg_of h2]
    exact ⟨e.val, hval e he y hy⟩
  · rintro ⟨v, hv⟩
    obtain ⟨e, he, hek⟩ := hdom x v hv
    obtain ⟨y, hy, h2⟩ := hrd e he
    refine ⟨_, ⟨e, he, rfl⟩, ?_⟩
    rw [rg_of h2]
    rw [hek] at hy
    cases hy
    rfl
end Go.Proofs.Ythplndalbfcbbaa
