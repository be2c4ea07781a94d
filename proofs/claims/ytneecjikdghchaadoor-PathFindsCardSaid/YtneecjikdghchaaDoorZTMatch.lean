/- match.Match, walked; the document's example of layer 5. -/
import Derived.Test.YtneecjikdghchaaDoorJoin
import Derived.Test.YtneecjikdghchaaDoorDraw
import Derived.Test.YtneecjikdghchaaDoorRef1p
import Derived.Test.YtneecjikdghchaaDoorOwn
import Derived.Test.YtneecjikdghchaaDoorBox
import Derived.Test.YtneecjikdghchaaDoorGrow
import Derived.Shelf.Abstract
import Derived.Shelf.RegionOpen
import Derived.WalkKit
import Derived.OwnWalkIn
import Derived.TacticsInMore
import Derived.LoopNIn
import Derived.LoopIn
import Derived.Test.YtneecjikdghchaaDoorIntMap
import Derived.Test.YtneecjikdghchaaDoorBack
import Derived.Test.YtneecjikdghchaaDoorCheck
import Derived.Deep.LoopGhost
import Derived.WalkSmall
import Derived.Test.YtneecjikdghchaaDoorTSame
import Derived.Shelf.SlIterI.Nil
import Derived.Test.YtneecjikdghchaaDoorZTShelfK
import Derived.Test.YtneecjikdghchaaDoorKeys
import Derived.Test.YtneecjikdghchaaDoorSortD
import Derived.Test.YtneecjikdghchaaDoorRef1c
import Derived.Test.YtneecjikdghchaaDoorParts
import Derived.Lib.AppendZerosOnto
import Derived.Lib.SliceRun
import Derived.Test.YtneecjikdghchaaDoorTwo
import Derived.Test.YtneecjikdghchaaDoorDraw3
set_option linter.unusedSimpArgs false
set_option linter.unusedVariables false
namespace Go.Proofs.YtneecjikdghchaaDoor
section
open Go.RowKit

set_option maxHeartbeats 2000000 in
set_option maxRecDepth 100000 in
theorem clone_calls (ts : List Tm) (A : Nat → Prop) (s : Value) (w : World) (hl : ts.length ≤ 1000000000) (hs : Terms A w s ts) :
    Calls Tryd.prog 65 #[s] w fun e w' => ∃ v, e = .returned v ∧ OwnD A w' w.heap.size 24 2 v (ts.map Tm.d) ∧ Below w.heap.size w w' := by
  obtain ⟨a, c, rfl, hlc, hc⟩ := hs.shape
  cases a with
  | none =>
    have h0 : ts = [] := by
      cases ts with
      | nil => rfl
      | cons t ts => obtain ⟨b, off, a', c', h1, _⟩ := hs.get 0 (by simp); cases h1
    subst h0
    have he : ∀ w : World, (binOp .eql 22 (.slice none 0 c) (.slice none 0 0)).run Tryd.prog w = .ok (.bool true) w := fun _ => rfl
    go_enter Tryd.func65, Tryd.ntmps65
    go_wp2
    go_ret
    exact ⟨_, rfl, OwnD.nil _ _ _ _ _, Below.refl _ _⟩
  | some ad =>
    have he : ∀ w : World, (binOp .eql 22 (.slice (some ad) ts.length c) (.slice none 0 0)).run Tryd.prog w = .ok (.bool false) w := fun _ => rfl
    have O0 : OwnD A (w.alloc (.cells #[] 24)) w.heap.size 24 2 (.slice (some ⟨w.heap.size, 0, none⟩) 0 0) [] := ⟨[], World.ownsRow_made w #[] 0 (Nat.le_refl _) (Nat.zero_le _) (by simp), by simp, .nil⟩
    have hal : Below w.heap.size w (w.alloc (.cells #[] 24)) := (Below.refl _ _).alloc (Nat.le_refl _) _
    have HX := hide (show RepD (fun b => A b ∨ (Value.slice (some ⟨w.heap.size, 0, none⟩) 0 0).ownBlock = some b) (w.alloc (.cells #[] 24)) (.row 2 (ts.map Tm.d)) [.slice (some ad) ts.length c] by
      rw [← Tm.ds_eq]
      exact RepD.frame (fun b _ hlt => hal.block b hlt) (fun b hb h => by
        rcases h with h | h
        · exact h
        · simp [Value.ownBlock] at h; omega) _ _ hs)
    have HO := hide O0
    have HB := hide (show w.heap.size ≤ (w.alloc (.cells #[] 24)).heap.size by simp)
    have HAL := hide hal
    clear hs O0 hal
    go_enter Tryd.func65, Tryd.ntmps65
    go_wp2_with (at_builtin; refine app_all_pl rfl (.tmp 5) (.tmp 6) 22 rfl w.heap.size 24 (.agg #[.int .i64 0, .slice none 0 0]) 2 32 Tryd.underlying22 (by kernel_rfl) rfl (by decide) (v := .slice (some ⟨w.heap.size, 0, none⟩) 0 0) (xv := .slice (some ad) ts.length c) rfl rfl HO.out HX.out (fun d hd => by obtain ⟨z, -, rfl⟩ := List.mem_map.1 hd; exact Tm.oneD z) (by simp [maxLen]; omega) (by simp; omega) HB.out ?_; intro v' w' o' kp ob hsh)
    go_ret
    refine ⟨_, rfl, by simpa using o', HAL.out.trans (kp.below (fun b hb h => ?_) HB.out)⟩
    simp [Value.ownBlock] at h; omega
end
section
open Go.RowKit

/-- What a function that gives a term leaves. -/
def Gives (A : Nat → Prop) (w : World) (t : Tm) (e : Ending) (w' : World) : Prop := ∃ s, e = .returned (.agg #[.int .i64 t.h, s]) ∧ Terms A w' s t.args ∧ Below w.heap.size w w'
theorem good_args {t : Tm} (h : t.good = true) : -256 ≤ t.h ∧ t.args.length ≤ 8 ∧ (∀ k (hk : k < t.args.length), t.args[k].good = true) := by
  rw [Tm.good_eq, Bool.and_eq_true] at h
  have h1 : ¬ okP t = false := by simp [h.1]
  rw [okP_iff] at h1
  refine ⟨by omega, by omega, ?_⟩
  have : ∀ l : List Tm, Tm.goods l = true → ∀ k (hk : k < l.length), l[k].good = true := by
    intro l
    induction l with
    | nil => simp
    | cons t ts ih =>
      intro hl k hk
      simp only [Tm.goods, Bool.and_eq_true] at hl
      cases k with
      | zero => exact hl.1
      | succ k => exact ih hl.2 k (by simpa using hk)
  exact this _ h.2

end
section
open Go.RowKit

theorem chk_good {t : Tm} (h : rightB t = true) : t.good = true := by
  simp only [rightB, chk, beq_iff_eq] at h
  split at h
  · simp at h
  · split at h
    · simp at h
    · split at h
      · assumption
      · simp at h

end
section
open Go.RowKit

mutual
def Tm.heads : Tm → List Int
  | .node h l => h :: Tm.headsL l
def Tm.headsL : List Tm → List Int
  | [] => []
  | t :: ts => t.heads ++ Tm.headsL ts
end
theorem Tm.headsL_mem (l : List Tm) (h : Int) : h ∈ Tm.headsL l ↔ ∃ t, t ∈ l ∧ h ∈ t.heads := by
  induction l with
  | nil => simp [Tm.headsL]
  | cons t ts ih => simp [Tm.headsL, ih]
theorem Tm.heads_eq (t : Tm) : t.heads = t.h :: Tm.headsL t.args := by cases t; simp [Tm.heads, Tm.h, Tm.args]
theorem All2.heads {A : Nat → Prop} {W : World} {a : List Raw} {c : List (Int × Tm)} (h : All2 (RawIs A W) a c) : a.map (fun r => r.2.1) = c.map (fun p => p.2.h) := by
  induction h with
  | nil => rfl
  | cons h _ ih => simp only [List.map_cons, ih, h.2.1]
def vstep (l : List Int) (h : Int) : List Int := if h < 0 ∧ (-1 - h) ∉ l then l ++ [-1 - h] else l
def varsH (hs : List Int) : List Int := hs.foldl vstep []
def varsT (t : Tm) : List Int := varsH t.heads
theorem mem_foldl_vstep : ∀ (hs : List Int) (l : List Int) (v : Int), v ∈ hs.foldl vstep l ↔ v ∈ l ∨ ∃ h, h ∈ hs ∧ h < 0 ∧ v = -1 - h
  | [], l, v => by simp
  | h :: hs, l, v => by
    rw [List.foldl_cons, mem_foldl_vstep hs]
    unfold vstep
    split
    · rename_i hc
      rw [List.mem_append, List.mem_singleton]
      simp only [List.mem_cons (l := hs)]
      constructor
      · rintro ((h1 | h1) | ⟨x, h1, h2⟩)
        · exact .inl h1
        · exact .inr ⟨h, .inl rfl, hc.1, h1⟩
        · exact .inr ⟨x, .inr h1, h2⟩
      · rintro (h1 | ⟨x, rfl | h1, h2, h3⟩)
        · exact .inl (.inl h1)
        · exact .inl (.inr h3)
        · exact .inr ⟨x, h1, h2, h3⟩
    · rename_i hc
      simp only [List.mem_cons]
      constructor
      · rintro (h1 | ⟨x, h1, h2⟩)
        · exact .inl h1
        · exact .inr ⟨x, .inr h1, h2⟩
      · rintro (h1 | ⟨x, rfl | h1, h2, h3⟩)
        · exact .inl h1
        · refine .inl ?_
          by_cases hm : (-1 - x) ∈ l
          · rw [h3]; exact hm
          · exact absurd ⟨h2, hm⟩ hc
        · exact .inr ⟨x, h1, h2, h3⟩
theorem mem_varsT {t : Tm} {v : Int} : v ∈ varsT t ↔ ∃ h, h ∈ t.heads ∧ h < 0 ∧ v = -1 - h := by simp [varsT, varsH, mem_foldl_vstep]
theorem good_ok {h : Int} {l : List Tm} (hg : (Tm.node h l).good = true) : ¬ (h < 0 ∧ 0 < l.length ∨ h < -256 ∨ 1023 < h ∨ 8 < l.length) := by
  simp only [Tm.good, Bool.and_eq_true] at hg
  have h1 : ¬ okP (.node h l) = false := by rw [hg.1]; simp
  rwa [okP_iff] at h1
mutual
theorem good_heads : ∀ t : Tm, t.good = true → ∀ h, h ∈ t.heads → -256 ≤ h ∧ h ≤ 1023
  | .node x l, hg, h, hh => by
    have hk := good_ok hg
    simp only [Tm.good, Bool.and_eq_true] at hg
    simp only [Tm.heads, List.mem_cons] at hh
    rcases hh with rfl | hh
    · omega
    · exact goods_heads l hg.2 h hh
theorem goods_heads : ∀ l : List Tm, Tm.goods l = true → ∀ h, h ∈ Tm.headsL l → -256 ≤ h ∧ h ≤ 1023
  | [], _, h, hh => by simp [Tm.headsL] at hh
  | t :: ts, hg, h, hh => by
    simp only [Tm.goods, Bool.and_eq_true] at hg
    simp only [Tm.headsL, List.mem_append] at hh
    rcases hh with hh | hh
    · exact good_heads t hg.1 h hh
    · exact goods_heads ts hg.2 h hh
end
theorem good_var {h : Int} {l : List Tm} (hg : (Tm.node h l).good = true) (hn : h < 0) : l = [] := by
  have := good_ok hg
  exact List.eq_nil_of_length_eq_zero (by omega)

theorem node_var_good {v : Int} (h0 : 0 ≤ v) (h1 : v ≤ 255) : (Tm.node (-1 - v) []).good = true := by
  have h2 : ¬ okP (.node (-1 - v) []) = false := by rw [okP_iff]; simp only [Tm.h, Tm.args, List.length_nil]; omega
  simp only [Tm.good, Tm.goods, Bool.and_true]
  cases h3 : okP (.node (-1 - v) []) <;> simp_all
theorem right_size {t : Tm} (h : chk t = 0) : t.size ≤ 400 := by
  unfold chk at h
  split at h
  · cases h
  · omega
end
section
open Go.RowKit

theorem chk_var {v : Int} (h0 : 0 ≤ v) (h1 : v ≤ 255) : chk (.node (-1 - v) []) = 0 := by
  have := node_var_good h0 h1
  simp [chk, Tm.size, Tm.sizes, Tm.depth, Tm.depths, this]

def upto (k : Nat) : List Int := (List.range k).map fun (n : Nat) => (n : Int)
theorem mem_upto {k : Nat} {v : Int} : v ∈ upto k ↔ 0 ≤ v ∧ v < k := by
  simp only [upto, List.mem_map, List.mem_range]
  constructor
  · rintro ⟨n, h, rfl⟩; omega
  · rintro ⟨h1, h2⟩; exact ⟨v.toNat, by omega, by omega⟩
theorem upto_sorted (k : Nat) : (upto k).Pairwise (· < ·) := by
  simp only [upto, List.pairwise_map]
  exact List.pairwise_lt_range.imp fun h => by omega
theorem sorted_ext : ∀ (a b : List Int), a.Pairwise (· < ·) → b.Pairwise (· < ·) → (∀ v, v ∈ a ↔ v ∈ b) → a = b
  | [], b, _, _, h => by
    cases b with
    | nil => rfl
    | cons y b => exact absurd ((h y).2 (by simp)) (by simp)
  | x :: a, [], _, _, h => absurd ((h x).1 (by simp)) (by simp)
  | x :: a, y :: b, ha, hb, h => by
    rw [List.pairwise_cons] at ha hb
    have hxy : x = y := by
      have h1 := (h x).1 (by simp)
      have h2 := (h y).2 (by simp)
      rcases List.mem_cons.1 h1 with h1 | h1
      · exact h1
      · rcases List.mem_cons.1 h2 with h2 | h2
        · exact h2.symm
        · have := ha.1 y h2; have := hb.1 x h1; omega
    subst hxy
    rw [sorted_ext a b ha.2 hb.2 fun v => ?_]
    constructor
    · intro hv
      rcases List.mem_cons.1 ((h v).1 (by simp [hv])) with rfl | h'
      · exact absurd (ha.1 v hv) (by omega)
      · exact h'
    · intro hv
      rcases List.mem_cons.1 ((h v).2 (by simp [hv])) with rfl | h'
      · exact absurd (hb.1 v hv) (by omega)
      · exact h'
end
section
open Go.RowKit

abbrev Env := Int → Option Tm
mutual
/-- The environment makes the pattern the term. -/
def Makes (σ : Env) : Tm → Tm → Prop
  | .node h l, t => if h < 0 then σ (-1 - h) = some t else h = t.h ∧ MakesL σ l t.args
def MakesL (σ : Env) : List Tm → List Tm → Prop
  | [], ts => ts = []
  | _ :: _, [] => False
  | p :: ps, t :: ts => Makes σ p t ∧ MakesL σ ps ts
end
theorem makes_var {σ : Env} {p t : Tm} (h : p.h < 0) : Makes σ p t ↔ σ (-1 - p.h) = some t := by
  cases p with
  | node x l => simp only [Tm.h] at h ⊢; simp only [Makes, h, if_true]
theorem makes_fun {σ : Env} {p t : Tm} (h : ¬ p.h < 0) : Makes σ p t ↔ p.h = t.h ∧ MakesL σ p.args t.args := by
  cases p with
  | node x l =>
    have h' : ¬ x < 0 := h
    rw [Makes, if_neg h']
    exact Iff.rfl
theorem makesL_length {σ : Env} : ∀ {ps ts : List Tm}, MakesL σ ps ts → ps.length = ts.length
  | [], ts, h => by simp only [MakesL] at h; simp [h]
  | _ :: _, [], h => by simp only [MakesL] at h
  | p :: ps, t :: ts, h => by simp only [MakesL] at h; simp [makesL_length h.2]
theorem makesL_append {σ : Env} : ∀ {a c b d : List Tm}, a.length = c.length → (MakesL σ (a ++ b) (c ++ d) ↔ MakesL σ a c ∧ MakesL σ b d)
  | [], [], b, d, _ => by simp [MakesL]
  | [], _ :: _, b, d, h => by simp at h
  | _ :: _, [], b, d, h => by simp at h
  | p :: a, t :: c, b, d, h => by
    have ih := makesL_append (σ := σ) (a := a) (c := c) (b := b) (d := d) (by simpa using h)
    simp only [List.cons_append, MakesL, ih, and_assoc]
theorem makesL_one {σ : Env} {p t : Tm} : MakesL σ [p] [t] ↔ Makes σ p t := by simp [MakesL]
/-- One environment within another one. -/
def Within (f σ : Env) : Prop := ∀ v t, f v = some t → σ v = some t
/-- What a gathering hands back: all that makes it holds it, or nothing does. -/
def Gathered (ps ts : List Tm) (f : Env) : Prop := ∀ σ, MakesL σ ps ts ↔ Within f σ
theorem Gathered.makes {ps ts : List Tm} {f : Env} (h : Gathered ps ts f) : MakesL f ps ts := (h f).2 fun _ _ h => h
theorem Gathered.unique {ps ts : List Tm} {f g : Env} (h : Gathered ps ts f) (k : Gathered ps ts g) : f = g := by
  have h1 := (k f).1 h.makes
  have h2 := (h g).1 k.makes
  funext v
  cases hf : f v with
  | some t => exact (h2 v t hf).symm
  | none =>
    cases hg : g v with
    | none => rfl
    | some t => rw [h1 v t hg] at hf; cases hf
/-- One step of the gathering: the variable's. -/
def upd (f : Env) (v : Int) (t : Tm) : Env := fun x => if x = v then some t else f x
theorem within_upd {f σ : Env} {v : Int} {t : Tm} (h : f v = none ∨ f v = some t) : Within (upd f v t) σ ↔ Within f σ ∧ σ v = some t := by
  constructor
  · intro hw
    have hv : σ v = some t := hw v t (by simp [upd])
    refine ⟨fun x u hx => ?_, hv⟩
    by_cases e : x = v
    · subst e
      rcases h with h | h
      · rw [h] at hx; cases hx
      · rw [h] at hx; cases hx; exact hv
    · exact hw x u (by simp [upd, e, hx])
  · rintro ⟨hw, hv⟩ x u hx
    by_cases e : x = v
    · subst e; simp [upd] at hx; rw [← hx]; exact hv
    · simp [upd, e] at hx; exact hw x u hx
/-- The state of a gathering: what is still to come, what is known. -/
def GState (ps ts ls rs : List Tm) (f : Env) : Prop := ∀ σ, MakesL σ ps ts ↔ MakesL σ ls rs ∧ Within f σ
theorem gstate_start {ps ts : List Tm} : GState ps ts ps ts (fun _ => none) := fun σ => ⟨fun h => ⟨h, fun v t h => by cases h⟩, fun h => h.1⟩
theorem gstate_end {ps ts : List Tm} {f : Env} (h : GState ps ts [] [] f) : Gathered ps ts f := fun σ => by rw [h σ]; simp [MakesL]
/-- A variable, taken from the end. -/
theorem gstate_var {ps ts ls rs : List Tm} {x y : Tm} {f : Env} (h : GState ps ts (ls ++ [x]) (rs ++ [y]) f) (hl : ls.length = rs.length) (hx : x.h < 0) (hf : f (-1 - x.h) = none ∨ f (-1 - x.h) = some y) : GState ps ts ls rs (upd f (-1 - x.h) y) := by
  intro σ
  rw [h σ, makesL_append hl, makesL_one, makes_var hx, within_upd hf, and_assoc, and_comm (a := σ (-1 - x.h) = some y)]
theorem gstate_clash {ps ts ls rs : List Tm} {x y u : Tm} {f : Env} (h : GState ps ts (ls ++ [x]) (rs ++ [y]) f) (hl : ls.length = rs.length) (hx : x.h < 0) (hf : f (-1 - x.h) = some u) (hu : u ≠ y) : ∀ σ, ¬ MakesL σ ps ts := by
  intro σ hm
  rw [h σ, makesL_append hl, makesL_one, makes_var hx] at hm
  have := hm.2 _ _ hf
  rw [hm.1.2] at this
  cases this
  exact hu rfl
theorem gstate_fun {ps ts ls rs : List Tm} {x y : Tm} {f : Env} (h : GState ps ts (ls ++ [x]) (rs ++ [y]) f) (hl : ls.length = rs.length) (hx : ¬ x.h < 0) (hh : x.h = y.h) (hn : x.args.length = y.args.length) : GState ps ts (ls ++ x.args) (rs ++ y.args) f := by
  intro σ
  rw [h σ, makesL_append hl, makesL_append hl, makesL_one, makes_fun hx]
  simp [hh]
theorem gstate_other {ps ts ls rs : List Tm} {x y : Tm} {f : Env} (h : GState ps ts (ls ++ [x]) (rs ++ [y]) f) (hl : ls.length = rs.length) (hx : ¬ x.h < 0) (hne : ¬ (x.h = y.h ∧ x.args.length = y.args.length)) : ∀ σ, ¬ MakesL σ ps ts := by
  intro σ hm
  rw [h σ, makesL_append hl, makesL_one, makes_fun hx] at hm
  exact hne ⟨hm.1.2.1, makesL_length hm.1.2.2⟩
def tidyT (f : Env) : List Bd := (upto 256).filterMap fun v => match f v with
  | some t => if t.h != -1 - v then some ⟨v, t⟩ else none
  | none => none
mutual
/-- As the document gathers. -/
def gatherT : Tm → Tm → Env → Option Env
  | .node h l, t, f => if h < 0 then (match f (-1 - h) with
      | some u => if sameB u t = true then some f else none
      | none => some (upd f (-1 - h) t)) else if h = t.h ∧ l.length = t.args.length then gatherL l t.args f else none
def gatherL : List Tm → List Tm → Env → Option Env
  | [], _, f => some f
  | _ :: _, [], _ => none
  | p :: ps, t :: ts, f => match gatherT p t f with
    | some g => gatherL ps ts g
    | none => none
end
mutual
theorem gatherT_spec : ∀ (p t : Tm) (f : Env), (∀ g, gatherT p t f = some g → ∀ σ, Within g σ ↔ Makes σ p t ∧ Within f σ) ∧ (gatherT p t f = none → ∀ σ, ¬ (Makes σ p t ∧ Within f σ))
  | .node h l, t, f => by
    by_cases hn : h < 0
    · have hm : ∀ σ, Makes σ (.node h l) t ↔ σ (-1 - h) = some t := fun σ => makes_var (p := .node h l) hn
      rw [gatherT, if_pos hn]
      cases hf : f (-1 - h) with
      | none =>
        refine ⟨fun g hg σ => ?_, fun hg => by cases hg⟩
        cases hg
        rw [within_upd (.inl hf), hm, and_comm]
      | some u =>
        simp only
        by_cases hs : sameB u t = true
        · rw [if_pos hs]
          have hu := sameB_iff.1 hs
          subst hu
          refine ⟨fun g hg σ => ?_, fun hg => by cases hg⟩
          cases hg
          rw [hm]
          exact ⟨fun h => ⟨h _ _ hf, h⟩, fun h => h.2⟩
        · rw [if_neg hs]
          refine ⟨(fun g hg => by cases hg), fun _ σ hh => ?_⟩
          rw [hm] at hh
          have := hh.2 _ _ hf
          rw [hh.1] at this
          cases this
          exact hs (sameB_self _)
    · have hm : ∀ σ, Makes σ (.node h l) t ↔ h = t.h ∧ MakesL σ l t.args := fun σ => makes_fun (p := .node h l) hn
      rw [gatherT, if_neg hn]
      by_cases hc : h = t.h ∧ l.length = t.args.length
      · rw [if_pos hc]
        have ih := gatherL_spec l t.args f hc.2
        refine ⟨fun g hg σ => ?_, fun hg σ hh => ?_⟩
        · rw [ih.1 g hg σ, hm]; simp [hc.1]
        · rw [hm] at hh; exact ih.2 hg σ ⟨hh.1.2, hh.2⟩
      · rw [if_neg hc]
        refine ⟨(fun g hg => by cases hg), fun _ σ hh => ?_⟩
        rw [hm] at hh
        exact hc ⟨hh.1.1, makesL_length hh.1.2⟩
theorem gatherL_spec : ∀ (ps ts : List Tm) (f : Env), ps.length = ts.length → (∀ g, gatherL ps ts f = some g → ∀ σ, Within g σ ↔ MakesL σ ps ts ∧ Within f σ) ∧ (gatherL ps ts f = none → ∀ σ, ¬ (MakesL σ ps ts ∧ Within f σ))
  | [], ts, f, hl => by
    have ht : ts = [] := List.eq_nil_of_length_eq_zero (by simpa using hl.symm)
    subst ht
    refine ⟨fun g hg σ => ?_, fun hg => ?_⟩
    · simp only [gatherL, Option.some.injEq] at hg
      subst hg
      simp [MakesL]
    · simp [gatherL] at hg
  | _ :: _, [], f, hl => by simp at hl
  | p :: ps, t :: ts, f, hl => by
    have i1 := gatherT_spec p t f
    rw [gatherL]
    cases hg1 : gatherT p t f with
    | none =>
      refine ⟨(fun g hg => by cases hg), fun _ σ hh => ?_⟩
      simp only [MakesL] at hh
      exact i1.2 hg1 σ ⟨hh.1.1, hh.2⟩
    | some g1 =>
      have i2 := gatherL_spec ps ts g1 (by simpa using hl)
      refine ⟨fun g hg σ => ?_, fun hg σ hh => ?_⟩
      · rw [i2.1 g hg σ, i1.1 g1 hg1 σ, MakesL]
        constructor
        · rintro ⟨h1, h2, h3⟩; exact ⟨⟨h2, h1⟩, h3⟩
        · rintro ⟨⟨h2, h1⟩, h3⟩; exact ⟨h1, h2, h3⟩
      · simp only [MakesL] at hh
        exact i2.2 hg σ ⟨hh.1.2, (i1.1 g1 hg1 σ).2 ⟨hh.1.1, hh.2⟩⟩
end
def noE : Env := fun _ => none
theorem within_no (σ : Env) : Within noE σ := fun v t h => by cases h
theorem gather_gathered {ps ts : List Tm} (hl : ps.length = ts.length) {g : Env} (h : gatherL ps ts noE = some g) : Gathered ps ts g := fun σ => by
  rw [(gatherL_spec ps ts noE hl).1 g h σ]
  exact ⟨fun h => ⟨h, within_no σ⟩, fun h => h.1⟩
theorem gather_none {ps ts : List Tm} (hl : ps.length = ts.length) (h : gatherL ps ts noE = none) : ∀ σ, ¬ MakesL σ ps ts := fun σ hm =>
  (gatherL_spec ps ts noE hl).2 h σ ⟨hm, within_no σ⟩
theorem gather_of {ps ts : List Tm} (hl : ps.length = ts.length) {f : Env} (h : Gathered ps ts f) : gatherL ps ts noE = some f := by
  cases hg : gatherL ps ts noE with
  | none => exact absurd h.makes (gather_none hl hg f)
  | some g => rw [(gather_gathered hl hg).unique h]
theorem gather_of_none {ps ts : List Tm} (hl : ps.length = ts.length) (h : ∀ σ, ¬ MakesL σ ps ts) : gatherL ps ts noE = none := by
  cases hg : gatherL ps ts noE with
  | none => rfl
  | some g => exact absurd (gather_gathered hl hg).makes (h g)
/-- match.All: binds, whether it matches, the error. -/
def matchT (ps ts : List Tm) : List Bd × Bool × Int :=
  if ps.length = ts.length ∧ ps.all rightB = true ∧ ts.all rightB = true then (match gatherL ps ts noE with
    | some f => (tidyT f, true, 0)
    | none => ([], false, 0)) else ([], false, 1)

end
section
open Go.RowKit Go.Shelf
attribute [local go_sem] Oper.semAt_some

section
variable {F : Fence} {nF : Nat} {P : Program} {W : World} {ops : Array Oper} {rest : List Oper} {o : Oper} {a : Act} {Q : Exit → Act → World → Prop} {k e : TypeId}
theorem look_pl (hg : o.guard = none) (m x : Operand) (t : TypeId) (hop : o.op = .lookup t m x true) (hk : P.underlying k = some (.int .i64)) (ht : P.underlying t = some (.map k e)) {z : Value} (hz : (zeroValue e).run P W = .ok z W)
    (b : Nat) (f : Int → Option Value) (hm : a.eval m = .map (some b)) (h : MapAt W b f) (y : Int) (hx : a.eval x = .int .i64 y) (h0 : -9223372036854775808 ≤ y) (h1 : y ≤ 9223372036854775807)
    (hK : wpList P ops Q rest (a.put o.dst (.tuple #[(f y).getD z, .bool (f y).isSome])) W) : wpList P ops Q (o :: rest) a W := by
  refine wpList_plain hg fun K' hK' => ?_
  have hrun := h.look hk ht hz h0 h1
  unfold Oper.wp
  simp [execOp, hop, hm, hx, hrun, Result.andThen]
  exact hK' _ _ hK
end

/-- What the first bind of a variable puts. -/
def firstB (v : Int) : List Bd → Option Tm
  | [] => none
  | b :: bs => if b.v = v then some b.t else firstB v bs
/-- Block b is the binds' table. -/
def MapBinds (A : Nat → Prop) (W : World) (b : Nat) (bs : List Bd) : Prop :=
  ∃ f, MapAt W b f ∧ ∀ x : Int, (firstB x bs = none → f x = none) ∧ ∀ t, firstB x bs = some t → ∃ s, f x = some (.agg #[.int .i64 t.h, s]) ∧ Terms A W s t.args
theorem MapBinds.below {A : Nat → Prop} {W W' : World} {b : Nat} {bs : List Bd} (h : MapBinds A W b bs) (hB : Below W.heap.size W W') : MapBinds A W' b bs := by
  obtain ⟨f, h1, h2⟩ := h
  exact ⟨f, h1.below hB, fun x => ⟨(h2 x).1, fun t ht => by obtain ⟨s, h3, h4⟩ := (h2 x).2 t ht; exact ⟨s, h3, h4.below hB⟩⟩⟩
theorem MapBinds.bar {A B : Nat → Prop} {W : World} {b : Nat} {bs : List Bd} (h : MapBinds A W b bs) (hB : ∀ c, c < W.heap.size → B c → A c) : MapBinds B W b bs := by
  obtain ⟨f, h1, h2⟩ := h
  exact ⟨f, h1, fun x => ⟨(h2 x).1, fun t ht => by obtain ⟨s, h3, h4⟩ := (h2 x).2 t ht; exact ⟨s, h3, h4.bar hB⟩⟩⟩
theorem zeroTerm (W : World) : (zeroValue 24).run Tryd.prog W = .ok (.agg #[.int .i64 0, .slice none 0 0]) W := by kernel_rfl
end
section
open Go.RowKit

/-- Block b is the environment's map. -/
def MapEnv (A : Nat → Prop) (W : World) (b : Nat) (g : Env) : Prop :=
  ∃ f, MapAt W b f ∧ ∀ x : Int, (g x = none → f x = none) ∧ ∀ t, g x = some t → ∃ s, f x = some (.agg #[.int .i64 t.h, s]) ∧ Terms A W s t.args
theorem MapEnv.keep {A S : Nat → Prop} {W W' : World} {b : Nat} {g : Env} (h : MapEnv A W b g) (hk : Keep S W W') (hb : S b) (hS : ∀ c, c < W.heap.size → ¬ A c → S c) : MapEnv A W' b g := by
  obtain ⟨f, h1, h2⟩ := h
  exact ⟨f, h1.keep hk hb, fun x => ⟨(h2 x).1, fun t ht => by obtain ⟨s, h3, h4⟩ := (h2 x).2 t ht; exact ⟨s, h3, h4.keep hk hS⟩⟩⟩
theorem MapEnv.below {A : Nat → Prop} {W W' : World} {b : Nat} {g : Env} (h : MapEnv A W b g) (hB : Below W.heap.size W W') : MapEnv A W' b g := h.keep (S := fun _ => True) (.of_below hB) trivial (fun _ _ _ => trivial)
theorem MapEnv.made (A : Nat → Prop) (W : World) : MapEnv A (W.alloc (.map #[] 0)) W.heap.size noE := ⟨_, MapAt.made W, fun x => ⟨fun _ => rfl, fun t ht => by cases ht⟩⟩
theorem goods_append (a b : List Tm) : Tm.goods (a ++ b) = (Tm.goods a && Tm.goods b) := by
  induction a with
  | nil => simp [Tm.goods]
  | cons t a ih => simp [Tm.goods, ih, Bool.and_assoc]
theorem cut_endcap {P : Program} {c : Code} {Q : Exit → Act → World → Prop} {a : Act} {w : World} (R : Act → Act → World → Prop)
    (h : c.wp P (Exit.then (R a) (fun _ _ _ => False)) a w) (k : ∀ a' w', R a a' w' → Q .normal a' w') : c.wp P Q a w := by
  refine wp_mono h ?_
  intro e a' w' hq
  cases e <;> first | exact k _ _ hq | exact hq.elim
theorem OwnD.lower {A : Nat → Prop} {W : World} {base b' e k : Nat} {v : Value} {ds : List D} (h : OwnD A W base e k v ds) (hb : b' ≤ base) : OwnD A W b' e k v ds := by
  obtain ⟨css, ⟨h0, h1⟩, h2, h3⟩ := h
  refine ⟨css, ⟨h0, ?_⟩, h2, h3⟩
  rcases h1 with h1 | ⟨g, cap, cur, e1, e2, e3⟩
  · exact .inl h1
  · exact .inr ⟨g, cap, cur, e1, Nat.le_trans hb e2, e3⟩
section
variable {P : Program} {W : World} {ops : Array Oper} {rest : List Oper} {o : Oper} {a : Act} {Q : Exit → Act → World → Prop} {k e : TypeId}
theorem store_pl (hg : o.guard = none) (m x v : Operand) (t : TypeId) (hop : o.op = .mapUpdate t m x v) (hk : P.underlying k = some (.int .i64)) (ht : P.underlying t = some (.map k e))
    (b : Nat) (f : Int → Option Value) (hm : a.eval m = .map (some b)) (h : MapAt W b f) (y : Int) (hx : a.eval x = .int .i64 y) (h0 : -9223372036854775808 ≤ y) (h1 : y ≤ 9223372036854775807) (u : Value) (hv : a.eval v = u)
    (hK : ∀ W', MapAt W' b (fun z => if z = y then some u else f z) → Keep (fun c => c ≠ b) W W' → wpList P ops Q rest (a.put o.dst undef) W') : wpList P ops Q (o :: rest) a W := by
  refine wpList_plain hg fun K' hK' => ?_
  obtain ⟨w', hrun, r1, r2⟩ := h.store hk ht h0 h1 u
  unfold Oper.wp
  simp [execOp, hop, hm, hx, hv, hrun, Result.andThen]
  exact hK' _ _ (hK w' r1 r2)
end
/-- The state between two rounds. -/
structure Gst (A : Nat → Prop) (mb : Nat) (w W : World) (v u : Value) (ls rs : List Tm) (f : Env) : Prop where
  below : Below mb w W
  more : w.heap.size ≤ W.heap.size
  left : OwnD (fun b => mb ≤ b ∨ A b) W w.heap.size 24 2 v (ls.map Tm.d)
  right : OwnD (fun b => mb ≤ b ∨ A b) W w.heap.size 24 2 u (rs.map Tm.d)
  apart : Apart v u
  len : ls.length = rs.length
  size : Tm.sizes ls ≤ 1000000000
  env : MapEnv (fun b => mb ≤ b ∨ A b) W mb f
  good : Tm.goods ls = true
  size2 : Tm.sizes rs ≤ 1000000000
  esz : ∀ v t, f v = some t → t.size ≤ 1000000000
/-- What it hands back. -/
def GPost (A : Nat → Prop) (mb : Nat) (ps ts : List Tm) (w : World) (e : Ending) (w' : World) : Prop :=
  Below mb w w' ∧ w.heap.size ≤ w'.heap.size ∧ ((∃ f, gatherL ps ts noE = some f ∧ e = .returned (.bool true) ∧ MapEnv (fun b => mb ≤ b ∨ A b) w' mb f) ∨ (gatherL ps ts noE = none ∧ e = .returned (.bool false)))

set_option maxHeartbeats 8000000 in
set_option maxRecDepth 100000 in
theorem gather_calls (A : Nat → Prop) (ps ts : List Tm) (mb : Nat) (s1 s2 : Value) (w : World) (hlen : ps.length = ts.length) (hsz : Tm.sizes ps ≤ 1000000000) (hsz2 : Tm.sizes ts ≤ 1000000000) (hgood : Tm.goods ps = true) (hmb : mb < w.heap.size)
    (hs : Terms (fun b => mb ≤ b ∨ A b) w s1 ps) (ht : Terms (fun b => mb ≤ b ∨ A b) w s2 ts) (hm : MapEnv (fun b => mb ≤ b ∨ A b) w mb noE) :
    Calls Tryd.prog 52 #[s1, s2, .map (some mb)] w fun e w' => GPost A mb ps ts w e w' := by
  obtain ⟨a1, d1, rfl, hd1, hd1'⟩ := hs.shape
  obtain ⟨a2, d2, rfl, hd2, hd2'⟩ := ht.shape
  have hpl := Tm.sizes_length ps
  have htl : ts.length ≤ 1000000000 := by omega
  have HL := hide hlen
  clear hlen
  go_enter Tryd.func52, Tryd.ntmps52
  go_wp2_with fail
  refine (clone_calls ps (fun b => mb ≤ b ∨ A b) _ _ (by omega) hs).mono ?_
  rintro e w1 ⟨v1, rfl, o1, h1⟩
  go_wp2_with fail
  refine (clone_calls ts (fun b => mb ≤ b ∨ A b) _ _ (by omega) (ht.below h1)).mono ?_
  rintro e w2 ⟨v2, rfl, o2, h2⟩
  have HG0 : Gst A mb w w2 v1 v2 ps ts noE := {
    below := ((h1.trans (h2.mono h1.size)).mono (Nat.le_of_lt hmb))
    more := Nat.le_trans h1.size h2.size
    left := o1.below h2
    right := o2.lower h1.size
    apart := fun b hb hb2 => by have := (o1.lt b hb).2; have := (o2.lt b hb2).1; omega
    len := HL.out
    size := hsz
    env := (hm.below h1).below h2
    good := hgood
    size2 := hsz2
    esz := fun v t h => by cases h }
  have HG := hide (gstate_start (ps := ps) (ts := ts))
  clear o1 o2 h1 h2 hm hs ht hgood
  go_wp2
  go_loopg [7, 8] (Tm.sizes ps + 1) (fun k v x wr => ∃ ls rs f, k = Tm.sizes ls + 1 ∧ Gst A mb w wr v x ls rs f ∧ Hid (GState ps ts ls rs f))
  case atStart => exact ⟨ps, ts, noE, rfl, HG0, HG⟩
  case round =>
    obtain ⟨ls, rs, f, rfl, hst, hg⟩ := hrel
    rcases unsnoc ls with rfl | ⟨ls, x, rfl⟩
    · obtain ⟨ad, cp, rfl⟩ := hst.left.shape
      have hr0 : rs = [] := List.eq_nil_of_length_eq_zero (by have := hst.len; simpa using this.symm)
      subst hr0
      have HX := hide (gather_of HL.out (gstate_end hg.out))
      have HST := hide hst
      clear hg hst HG HG0
      go_wp2
      go_ret
      exact ⟨HST.out.below, HST.out.more, .inl ⟨f, HX.out, rfl, HST.out.env⟩⟩
    · rcases unsnoc rs with rfl | ⟨rs, y, rfl⟩
      · exact absurd hst.len (by simp)
      have hlen : ls.length = rs.length := by have := hst.len; simpa using this
      have hszs := hst.size
      rw [Tm.sizes_append] at hszs
      have hx1 := x.size_eq
      simp only [Tm.sizes] at hszs
      have hls : ls.length ≤ 1000000000 := by have := Tm.sizes_length ls; omega
      have hO1 := hst.left
      have hO2 := hst.right
      have hap := hst.apart
      have hB := hst.below
      have hmore := hst.more
      have hgl := hst.good
      have hs2 := hst.size2
      rw [Tm.sizes_append] at hs2
      have hy1 := y.size_eq
      simp only [Tm.sizes] at hs2
      have HESZ := hide hst.esz
      rw [List.map_append, List.map_cons, List.map_nil] at hO1 hO2
      obtain ⟨g1, cap1, cs1, rfl, hg1, hg1', hc1, hc1', hk1, e1, q1', P1⟩ := hO1.last (by omega)
      obtain ⟨g2, cap2, cs2, rfl, hg2, hg2', hc2, hc2', hk2, e2, q2', P2⟩ := hO2.last (by omega)
      simp only [List.length_map] at hc1 hc2 e1 e2 P1 P2 hst hap ⊢
      simp only [← hlen] at hc2 e2 P2 hst hap ⊢
      obtain ⟨sx, rfl, tx⟩ := repTm.1 q1'
      obtain ⟨sy, rfl, ty⟩ := repTm.1 q2'
      obtain ⟨ax, cx, rfl, hcx, hcx'⟩ := tx.shape
      obtain ⟨ay, cy, rfl, hcy, hcy'⟩ := ty.shape
      have p0 := e1 0 (by omega)
      have p1 := e1 1 (by omega)
      have q0 := e2 0 (by omega)
      have q1 := e2 1 (by omega)
      simp only [Nat.add_zero, List.getElem?_cons_zero, List.getElem?_cons_succ] at p0 p1 q0 q1
      clear e1 e2 q1' q2' hO1 hO2 HG HG0
      have HENV := hide hst.env
      clear hst
      have HLEN := hide hlen
      clear hlen
      have HAP := hide hap
      clear hap
      have HP1 := hide P1
      have HP2 := hide P2
      clear P1 P2
      have HX1 := hide hx1
      have HY1 := hide hy1
      clear hx1 hy1
      have HGL := hide hgl
      clear hgl
      go_wp2
      refine cut_cap (fun a0 a' w' => ∃ B1 B2, a' = ((((((((((a0.put (some 25) (.slice (some ⟨g1, 0, none⟩) (ls.length + 1) cap1)).put (some 26) (.int .i64 ls.length)).put (some 27) (.pointer (some ⟨g1, ls.length * 2, none⟩))).put (some 28) (.agg #[.int .i64 x.h, .slice ax x.args.length cx])).put (some 29) (.slice (some ⟨g2, 0, none⟩) (ls.length + 1) cap2)).put (some 30) (.int .i64 ls.length)).put (some 31) (.pointer (some ⟨g2, ls.length * 2, none⟩))).put (some 32) (.agg #[.int .i64 y.h, .slice ay y.args.length cy])).put (some 10) (.pointer (some ⟨B1, 0, none⟩))).put (some 11) (.pointer (some ⟨B2, 0, none⟩))) ∧ wr.heap.size ≤ B1 ∧ wr.heap.size ≤ B2 ∧ B1 ≠ B2 ∧ w'.heap[B1]? = some (.cells #[.int .i64 x.h, .slice ax x.args.length cx] 24 (0, 0)) ∧ w'.heap[B2]? = some (.cells #[.int .i64 y.h, .slice ay y.args.length cy] 24 (0, 0)) ∧ Below wr.heap.size wr w') ?_ ?_
      · have hS : ∀ W', Below wr.heap.size wr W' → Below wr.heap.size wr W' ∧ W'.cell? ⟨g1, ls.length * 2, none⟩ = some (.int .i64 x.h) ∧ W'.cell? ⟨g1, ls.length * 2 + 1, none⟩ = some (.slice ax x.args.length cx) ∧ W'.cell? ⟨g2, ls.length * 2, none⟩ = some (.int .i64 y.h) ∧ W'.cell? ⟨g2, ls.length * 2 + 1, none⟩ = some (.slice ay y.args.length cy) := fun W' hW =>
          ⟨hW, (hW.cell (p := ⟨g1, ls.length * 2, none⟩) hg1').trans p0, (hW.cell (p := ⟨g1, ls.length * 2 + 1, none⟩) hg1').trans p1, (hW.cell (p := ⟨g2, ls.length * 2, none⟩) hg2').trans q0, (hW.cell (p := ⟨g2, ls.length * 2 + 1, none⟩) hg2').trans q1⟩
        refine drawn_two (fun W' => Below wr.heap.size wr W' ∧ W'.cell? ⟨g1, ls.length * 2, none⟩ = some (.int .i64 x.h) ∧ W'.cell? ⟨g1, ls.length * 2 + 1, none⟩ = some (.slice ax x.args.length cx) ∧ W'.cell? ⟨g2, ls.length * 2, none⟩ = some (.int .i64 y.h) ∧ W'.cell? ⟨g2, ls.length * 2 + 1, none⟩ = some (.slice ay y.args.length cy)) [.take 0, .take 1, .take 2, .take 3, .take 4, .take 5, .take 6, .take 7, .two 8 9, .one 10, .one 11] (by kernel_rfl) (by kernel_rfl) (by kernel_rfl) (by kernel_rfl) (fun _ _ _ _ _ h => h) (hS _ (Below.refl _ _).drew) ?_
        have hi0 : (ls.length : Int) < (ls.length : Int) + 1 := by omega
        iterate 8 (refine p_take (v := ?_) rfl (by rfl) ?_ ?_; rotate_left; (intro w hS; obtain ⟨-, S1, S2, S3, S4⟩ := hS; go_simp; try with_reducible rfl); simp only [Act.put, List.setIfInBounds_toArray, List.set_cons_zero, List.set_cons_succ])
        refine p_two rfl rfl (by rfl) (by rfl) ?_ ?_
        · intro K hK
          go_simp
          refine hK.out _ _ (hS _ ((Below.refl _ _).drew.alloc (Nat.le_refl _) _)) ?_
          refine p_then rfl (by rfl) ?_
          clear hK K
          intro K hK
          go_simp
          have hW3 : Below wr.heap.size wr (((wr.alloc (.cells #[.int .i64 0, .slice none 0 0] 24)).alloc (.cells #[.int .i64 0, .slice none 0 0] 24)).drew) := (((Below.refl wr.heap.size wr).alloc (Nat.le_refl _) (.cells #[.int .i64 0, .slice none 0 0] 24)).alloc (by simp) (.cells #[.int .i64 0, .slice none 0 0] 24)).drew
          refine hK.out _ _ (hS _ hW3) ?_
          clear hK K
          have b0 := World.alloc_heap_new wr (.cells #[.int .i64 0, .slice none 0 0] 24)
          have b9 : (((wr.alloc (.cells #[.int .i64 0, .slice none 0 0] 24)).alloc (.cells #[.int .i64 0, .slice none 0 0] 24)).drew).heap[wr.heap.size + 1]? = some (.cells #[.int .i64 0, .slice none 0 0] 24 (0, 0)) := by
            have h := World.alloc_heap_new (wr.alloc (.cells #[.int .i64 0, .slice none 0 0] 24)) (.cells #[.int .i64 0, .slice none 0 0] 24)
            rw [World.size_alloc] at h
            exact h
          have b8 : (((wr.alloc (.cells #[.int .i64 0, .slice none 0 0] 24)).alloc (.cells #[.int .i64 0, .slice none 0 0] 24)).drew).heap[wr.heap.size]? = some (.cells #[.int .i64 0, .slice none 0 0] 24 (0, 0)) := (Below.heap_alloc (wr.alloc (.cells #[.int .i64 0, .slice none 0 0] 24)) (.cells #[.int .i64 0, .slice none 0 0] 24) _ (by simp)).trans b0
          generalize (((wr.alloc (.cells #[.int .i64 0, .slice none 0 0] 24)).alloc (.cells #[.int .i64 0, .slice none 0 0] 24)).drew) = W3 at *
          clear b0
          obtain ⟨l8, z0, z1, z2, z3⟩ := box2 b8
          obtain ⟨l9, y0, y1, y2, y3⟩ := box2 b9
          refine p_one rfl (by rfl) ?_
          intro K hK
          go_simp
          have hW4 := set2_below (b := wr.heap.size) hW3 (by omega) (.int .i64 x.h) (.slice ax x.args.length cx)
          have c8 := box2_set b8 (.int .i64 x.h) (.slice ax x.args.length cx)
          have c9 := (Keep.refl (fun b => b ≠ wr.heap.size) W3).setCell (p := ⟨wr.heap.size, 0, none⟩) (by simp) (.int .i64 x.h) |>.setCell (p := ⟨wr.heap.size, 1, none⟩) (by simp) (.slice ax x.args.length cx) |>.obj (by omega) b9
          refine hK.out _ _ (hS _ hW4) ?_
          clear hK K
          generalize ((W3.setCell ⟨wr.heap.size, 0, none⟩ (.int .i64 x.h)).setCell ⟨wr.heap.size, 1, none⟩ (.slice ax x.args.length cx)) = W4 at *
          clear l8 l9 z0 z1 z2 z3 y0 y1 y2 y3 b8 b9
          obtain ⟨l9, y0, y1, y2, y3⟩ := box2 c9
          refine p_one rfl (by rfl) ?_
          intro K hK
          go_simp
          have hW5 := set2_below (b := wr.heap.size + 1) hW4 (by omega) (.int .i64 y.h) (.slice ay y.args.length cy)
          have d9 := box2_set c9 (.int .i64 y.h) (.slice ay y.args.length cy)
          have d8 := (Keep.refl (fun b => b ≠ wr.heap.size + 1) W4).setCell (p := ⟨wr.heap.size + 1, 0, none⟩) (by simp) (.int .i64 y.h) |>.setCell (p := ⟨wr.heap.size + 1, 1, none⟩) (by simp) (.slice ay y.args.length cy) |>.obj (by omega) c8
          refine hK.out _ _ (hS _ hW5) ?_
          clear hK K
          refine p_done ?_
          exact ⟨wr.heap.size, wr.heap.size + 1, by try simp only [Act.put, List.setIfInBounds_toArray, List.set_cons_zero, List.set_cons_succ]; try rfl, by omega, by omega, by omega, d8, d9, hW5⟩
        · intro K hK
          go_simp
          refine hK.out _ _ (hS _ ((Below.refl _ _).drew.alloc (Nat.le_refl _) _)) ?_
          refine p_then rfl (by rfl) ?_
          clear hK K
          intro K hK
          go_simp
          have hW3 : Below wr.heap.size wr (((wr.alloc (.cells #[.int .i64 0, .slice none 0 0] 24)).alloc (.cells #[.int .i64 0, .slice none 0 0] 24)).drew) := (((Below.refl wr.heap.size wr).alloc (Nat.le_refl _) (.cells #[.int .i64 0, .slice none 0 0] 24)).alloc (by simp) (.cells #[.int .i64 0, .slice none 0 0] 24)).drew
          refine hK.out _ _ (hS _ hW3) ?_
          clear hK K
          have b0 := World.alloc_heap_new wr (.cells #[.int .i64 0, .slice none 0 0] 24)
          have b8 : (((wr.alloc (.cells #[.int .i64 0, .slice none 0 0] 24)).alloc (.cells #[.int .i64 0, .slice none 0 0] 24)).drew).heap[wr.heap.size + 1]? = some (.cells #[.int .i64 0, .slice none 0 0] 24 (0, 0)) := by
            have h := World.alloc_heap_new (wr.alloc (.cells #[.int .i64 0, .slice none 0 0] 24)) (.cells #[.int .i64 0, .slice none 0 0] 24)
            rw [World.size_alloc] at h
            exact h
          have b9 : (((wr.alloc (.cells #[.int .i64 0, .slice none 0 0] 24)).alloc (.cells #[.int .i64 0, .slice none 0 0] 24)).drew).heap[wr.heap.size]? = some (.cells #[.int .i64 0, .slice none 0 0] 24 (0, 0)) := (Below.heap_alloc (wr.alloc (.cells #[.int .i64 0, .slice none 0 0] 24)) (.cells #[.int .i64 0, .slice none 0 0] 24) _ (by simp)).trans b0
          generalize (((wr.alloc (.cells #[.int .i64 0, .slice none 0 0] 24)).alloc (.cells #[.int .i64 0, .slice none 0 0] 24)).drew) = W3 at *
          clear b0
          obtain ⟨l8, z0, z1, z2, z3⟩ := box2 b8
          obtain ⟨l9, y0, y1, y2, y3⟩ := box2 b9
          refine p_one rfl (by rfl) ?_
          intro K hK
          go_simp
          have hW4 := set2_below (b := wr.heap.size + 1) hW3 (by omega) (.int .i64 x.h) (.slice ax x.args.length cx)
          have c8 := box2_set b8 (.int .i64 x.h) (.slice ax x.args.length cx)
          have c9 := (Keep.refl (fun b => b ≠ wr.heap.size + 1) W3).setCell (p := ⟨wr.heap.size + 1, 0, none⟩) (by simp) (.int .i64 x.h) |>.setCell (p := ⟨wr.heap.size + 1, 1, none⟩) (by simp) (.slice ax x.args.length cx) |>.obj (by omega) b9
          refine hK.out _ _ (hS _ hW4) ?_
          clear hK K
          generalize ((W3.setCell ⟨wr.heap.size + 1, 0, none⟩ (.int .i64 x.h)).setCell ⟨wr.heap.size + 1, 1, none⟩ (.slice ax x.args.length cx)) = W4 at *
          clear l8 l9 z0 z1 z2 z3 y0 y1 y2 y3 b8 b9
          obtain ⟨l9, y0, y1, y2, y3⟩ := box2 c9
          refine p_one rfl (by rfl) ?_
          intro K hK
          go_simp
          have hW5 := set2_below (b := wr.heap.size) hW4 (by omega) (.int .i64 y.h) (.slice ay y.args.length cy)
          have d9 := box2_set c9 (.int .i64 y.h) (.slice ay y.args.length cy)
          have d8 := (Keep.refl (fun b => b ≠ wr.heap.size) W4).setCell (p := ⟨wr.heap.size, 0, none⟩) (by simp) (.int .i64 y.h) |>.setCell (p := ⟨wr.heap.size, 1, none⟩) (by simp) (.slice ay y.args.length cy) |>.obj (by omega) c8
          refine hK.out _ _ (hS _ hW5) ?_
          clear hK K
          refine p_done ?_
          exact ⟨wr.heap.size + 1, wr.heap.size, by try simp only [Act.put, List.setIfInBounds_toArray, List.set_cons_zero, List.set_cons_succ]; try rfl, by omega, by omega, by omega, d8, d9, hW5⟩
      rintro _ W2 ⟨B1, B2, rfl, hB1, hB2, hne2, k1, k2, hW2⟩
      simp only [Act.put, List.setIfInBounds_toArray, List.set_cons_zero, List.set_cons_succ]
      go_wp2
      refine cut_cap (fun a0 a' w' => a' = ((((((((a0.put (some 33) (.slice (some ⟨g1, 0, none⟩) (ls.length + 1) cap1)).put (some 34) (.int .i64 ls.length)).put (some 35) (.slice (some ⟨g1, 0, none⟩) ls.length cap1)).put (some 36) (.slice (some ⟨g2, 0, none⟩) (ls.length + 1) cap2)).put (some 37) (.int .i64 ls.length)).put (some 38) (.slice (some ⟨g2, 0, none⟩) ls.length cap2)).put (some 7) (.slice (some ⟨g1, 0, none⟩) ls.length cap1)).put (some 8) (.slice (some ⟨g2, 0, none⟩) ls.length cap2)) ∧ w' = W2.drew) ?_ ?_
      · refine drawn_two (fun _ => True) [.take 0, .take 1, .take 2, .take 3, .take 4, .take 5, .take 6, .take 7] (by kernel_rfl) (by kernel_rfl) (by kernel_rfl) (by kernel_rfl) (fun _ _ _ _ _ h => h) trivial ?_
        have hi1 : ls.length ≤ cap1 := by omega
        have hi2 : ls.length ≤ cap2 := by omega
        iterate 8 (refine p_take (v := ?_) rfl (by rfl) ?_ ?_; rotate_left; (intro w _; go_simp; try with_reducible rfl); simp only [Act.put, List.setIfInBounds_toArray, List.set_cons_zero, List.set_cons_succ])
        exact p_done ⟨by try simp only [Act.put, List.setIfInBounds_toArray, List.set_cons_zero, List.set_cons_succ]; try rfl, rfl⟩
      rintro _ _ ⟨rfl, rfl⟩
      simp only [Act.put, List.setIfInBounds_toArray, List.set_cons_zero, List.set_cons_succ]
      have hW3 := hW2.drew
      have k1' : W2.drew.heap[B1]? = _ := k1
      have k2' : W2.drew.heap[B2]? = _ := k2
      generalize W2.drew = W3 at *
      clear k1 k2 hW2 p0 p1 q0 q1
      obtain ⟨kk1, z0, z1, -, -⟩ := box2 k1'
      obtain ⟨kk2, y0, y1, -, -⟩ := box2 k2'
      have hB9 : Below mb w W3 := hB.trans (hW3.mono (by omega))
      have hmore9 : w.heap.size ≤ W3.heap.size := Nat.le_trans hmore hW3.size
      have hgx : x.good = true := by
        have := HGL.out
        rw [goods_append, Bool.and_eq_true] at this
        simpa [Tm.goods] using this.2
      have hxr := good_heads x hgx x.h (by rw [Tm.heads_eq]; simp)
      have hw1 : IntKind.i64.wrap (-1 - x.h) = -1 - x.h := IntWalk.i64_in _ (by omega)
      have hszx := HX1.out
      have hmb9 : mb < wr.heap.size := by omega
      by_cases hneg : x.h < 0
      · have hge : 0 ≤ -1 - x.h := by omega
        obtain ⟨F, hF, hFv⟩ := HENV.out.below hW3
        have HFV := hide hFv
        cases hfv : f (-1 - x.h) with
        | none =>
          have HFX := hide ((hFv _).1 hfv)
          have HGV := hide (gstate_var hg.out HLEN.out hneg (.inl hfv))
          have hal : Below W3.heap.size W3 (W3.alloc (.cells #[.int .i64 0, .slice none 0 0] 24)) := (Below.refl _ _).alloc (Nat.le_refl _) _
          have HF2 := hide (hF.below hal)
          obtain ⟨-, m0, m1, -, -⟩ := box2 ((hal.block _ kk2).trans k2')
          have hB10 := hB9.trans (hal.mono (by have := hW3.size; omega))
          have hm10 := Nat.le_trans hmore9 hal.size
          clear hFv hfv hg
          go_wp2_with (first | (at_lookup; refine look_pl rfl _ _ 91 rfl Tryd.underlying3 Tryd.underlying91 (zeroTerm _) mb F rfl hF (-1 - x.h) rfl (by omega) (by omega) ?_; rw [HFX.out]) | (at_mapUpdate; refine store_pl rfl _ _ _ 91 rfl Tryd.underlying3 Tryd.underlying91 mb F rfl HF2.out (-1 - x.h) rfl (by omega) (by omega) (.agg #[.int .i64 y.h, .slice ay y.args.length cy]) rfl ?_; intro W9 hm9 hk9))
          have hlt1 := HP1.out.lt
          have hlt2 := HP2.out.lt
          have hfin : Gst A mb w W9 _ _ ls rs (upd f (-1 - x.h) y) := {
            below := hB10.trans (hk9.below (fun b hb h => by omega) (by omega))
            more := Nat.le_trans hm10 hk9.size
            left := ((HP1.out.below hW3).below hal).keep hk9 (fun b _ hb h => by omega) (fun b hb h => by have := (hlt1 b hb).1; omega)
            right := ((HP2.out.below hW3).below hal).keep hk9 (fun b _ hb h => by omega) (fun b hb h => by have := (hlt2 b hb).1; omega)
            apart := HAP.out
            len := HLEN.out
            size := by omega
            env := by
              refine ⟨_, hm9, fun z => ⟨fun hz => ?_, fun t hz => ?_⟩⟩
              · by_cases e : z = -1 - x.h
                · simp [upd, e] at hz
                · simp only [e, if_false]
                  exact (HFV.out z).1 (by simpa [upd, e] using hz)
              · by_cases e : z = -1 - x.h
                · simp only [e, if_true]
                  simp only [upd, e, if_true, Option.some.injEq] at hz
                  subst hz
                  refine ⟨_, rfl, (((ty.bar fun b _ h => .inl h).below hW3).below hal).keep hk9 (fun b _ hb h => by omega)⟩
                · simp only [e, if_false]
                  obtain ⟨s9, h8, h9⟩ := (HFV.out z).2 t (by simpa [upd, e] using hz)
                  exact ⟨s9, h8, (h9.below hal).keep hk9 (fun b _ hb h => by omega)⟩
            good := by have := HGL.out; rw [goods_append, Bool.and_eq_true] at this; exact this.1
            size2 := by omega
            esz := fun v t hz => by
              by_cases e : v = -1 - x.h
              · simp [upd, e] at hz; rw [← hz]; omega
              · simp [upd, e] at hz; exact HESZ.out v t hz }
          go_roundg (Tm.sizes ls + 1)
          case measure => have := HX1.out; rw [Tm.sizes_append]; simp only [Tm.sizes]; omega
          case rel => exact ⟨ls, rs, upd f (-1 - x.h) y, rfl, hfin, HGV.out⟩
        | some u =>
          obtain ⟨su, hfx, tu⟩ := (hFv _).2 u hfv
          obtain ⟨au, cu, rfl, -, -⟩ := tu.shape
          have HFX := hide hfx
          have husz := HESZ.out _ _ hfv
          have HGV := hide (fun h : u = y => gstate_var hg.out HLEN.out hneg (.inr (h ▸ hfv)))
          have HGC := hide (fun h : u ≠ y => gather_of_none HL.out (gstate_clash hg.out HLEN.out hneg hfv h))
          have hal0 : Below W3.heap.size W3 (W3.alloc (.cells #[.int .i64 u.h, .slice au u.args.length cu] 24)) := (Below.refl _ _).alloc (Nat.le_refl _) _
          have kU : (W3.alloc (.cells #[.int .i64 u.h, .slice au u.args.length cu] 24)).heap[W3.heap.size]? = some (.cells #[.int .i64 u.h, .slice au u.args.length cu] 24 (0, 0)) := World.alloc_heap_new _ _
          obtain ⟨-, n0, n1, -, -⟩ := box2 kU
          obtain ⟨-, m0, m1, -, -⟩ := box2 ((hal0.block _ kk2).trans k2')
          clear hFv hfv hg hfx
          go_wp2_with (first | (at_lookup; refine look_pl rfl _ _ 91 rfl Tryd.underlying3 Tryd.underlying91 (zeroTerm _) mb F rfl hF (-1 - x.h) rfl (by omega) (by omega) ?_; rw [HFX.out]) | fail)
          refine (tsame_calls u y (fun b => mb ≤ b ∨ A b) (fun b => mb ≤ b ∨ A b) _ _ _ _ _ husz ⟨rfl, tu.below hal0⟩ ⟨rfl, ((ty.bar fun b _ h => .inl h).below hW3).below hal0⟩).mono ?_
          rintro e W8 ⟨rfl, h8⟩
          have hal := hal0.trans (h8.mono hal0.size)
          have HF2 := hide (hF.below hal)
          have hB10 := hB9.trans (hal.mono (by have := hW3.size; omega))
          have hm10 := Nat.le_trans hmore9 hal.size
          have kx2 := (hal.block _ kk2).trans k2'
          clear m0 m1 n0 n1 kU
          obtain ⟨-, m0, m1, -, -⟩ := box2 kx2
          cases hsb : sameB u y
          · have hne : u ≠ y := fun h => by rw [h, sameB_self] at hsb; cases hsb
            have HR := hide (HGC.out hne)
            have HSB := hide hsb
            clear hsb hne
            go_wp2
            go_ret
            exact ⟨hB10, hm10, .inr ⟨HR.out, rfl⟩⟩
          · have HGV := hide (HGV.out (sameB_iff.1 hsb))
            have HSB := hide hsb
            clear hsb
            go_wp2_with (at_mapUpdate; refine store_pl rfl _ _ _ 91 rfl Tryd.underlying3 Tryd.underlying91 mb F rfl HF2.out (-1 - x.h) rfl (by omega) (by omega) (.agg #[.int .i64 y.h, .slice ay y.args.length cy]) rfl ?_; intro W9 hm9 hk9)
            have hlt1 := HP1.out.lt
            have hlt2 := HP2.out.lt
            have hfin : Gst A mb w W9 _ _ ls rs (upd f (-1 - x.h) y) := {
              below := hB10.trans (hk9.below (fun b hb h => by omega) (by omega))
              more := Nat.le_trans hm10 hk9.size
              left := ((HP1.out.below hW3).below hal).keep hk9 (fun b _ hb h => by omega) (fun b hb h => by have := (hlt1 b hb).1; omega)
              right := ((HP2.out.below hW3).below hal).keep hk9 (fun b _ hb h => by omega) (fun b hb h => by have := (hlt2 b hb).1; omega)
              apart := HAP.out
              len := HLEN.out
              size := by omega
              env := by
                refine ⟨_, hm9, fun z => ⟨fun hz => ?_, fun t hz => ?_⟩⟩
                · by_cases e : z = -1 - x.h
                  · simp [upd, e] at hz
                  · simp only [e, if_false]
                    exact (HFV.out z).1 (by simpa [upd, e] using hz)
                · by_cases e : z = -1 - x.h
                  · simp only [e, if_true]
                    simp only [upd, e, if_true, Option.some.injEq] at hz
                    subst hz
                    refine ⟨_, rfl, (((ty.bar fun b _ h => .inl h).below hW3).below hal).keep hk9 (fun b _ hb h => by omega)⟩
                  · simp only [e, if_false]
                    obtain ⟨s9, h8, h9⟩ := (HFV.out z).2 t (by simpa [upd, e] using hz)
                    exact ⟨s9, h8, (h9.below hal).keep hk9 (fun b _ hb h => by omega)⟩
              good := by have := HGL.out; rw [goods_append, Bool.and_eq_true] at this; exact this.1
              size2 := by omega
              esz := fun v t hz => by
                by_cases e : v = -1 - x.h
                · simp [upd, e] at hz; rw [← hz]; omega
                · simp [upd, e] at hz; exact HESZ.out v t hz }
            go_roundg (Tm.sizes ls + 1)
            case measure => have := HX1.out; rw [Tm.sizes_append]; simp only [Tm.sizes]; omega
            case rel => exact ⟨ls, rs, upd f (-1 - x.h) y, rfl, hfin, HGV.out⟩
      · have hge : ¬ 0 ≤ -1 - x.h := by omega
        by_cases hh : x.h = y.h ∧ x.args.length = y.args.length
        · obtain ⟨h1, h2⟩ := hh
          have HXY := hide (show x.h = y.h ∧ x.args.length = y.args.length from ⟨h1, h2⟩)
          have HG2 := hide (gstate_fun hg.out HLEN.out hneg h1 h2)
          have hal : x.args.length ≤ Tm.sizes x.args := Tm.sizes_length _
          have hlls : ls.length ≤ Tm.sizes ls := Tm.sizes_length _
          have hbd : ls.length + x.args.length ≤ 1000000000 := by omega
          have HSY := hide (show Tm.sizes rs + Tm.sizes y.args ≤ 1000000000 by have := HY1.out; omega)
          clear hal hlls hg
          have l1 : x.h ≤ y.h := by omega
          have l2 : y.h ≤ x.h := by omega
          have l3 : x.args.length ≤ y.args.length := by omega
          have l4 : y.args.length ≤ x.args.length := by omega
          clear h1 h2
          go_wp2
          refine cut_endcap (fun a0 a' w' => ∃ v3 v4, a' = ((((((((((a0.put (some 74) (.slice (some ⟨g1, 0, none⟩) ls.length cap1)).put (some 75) (.pointer (some ⟨B1, 1, none⟩))).put (some 76) (.slice ax x.args.length cx)).put (some 77) (v3)).put (some 78) (.slice (some ⟨g2, 0, none⟩) ls.length cap2)).put (some 79) (.pointer (some ⟨B2, 1, none⟩))).put (some 80) (.slice ay y.args.length cy)).put (some 81) (v4)).put (some 7) (v3)).put (some 8) (v4)) ∧ Gst A mb w w' v3 v4 (ls ++ x.args) (rs ++ y.args) f) ?_ ?_
          · have hS : ∀ W' : World, W'.heap[B1]? = W3.heap[B1]? → W'.heap[B2]? = W3.heap[B2]? → W'.cell? ⟨B1, 1, none⟩ = some (.slice ax x.args.length cx) ∧ W'.cell? ⟨B2, 1, none⟩ = some (.slice ay y.args.length cy) := fun W' e1 e2 => by
              obtain ⟨-, -, z1, -, -⟩ := box2 (e1.trans k1')
              obtain ⟨-, -, y1, -, -⟩ := box2 (e2.trans k2')
              exact ⟨z1, y1⟩
            refine drawn_two (fun W' => W'.cell? ⟨B1, 1, none⟩ = some (.slice ax x.args.length cx) ∧ W'.cell? ⟨B2, 1, none⟩ = some (.slice ay y.args.length cy)) [.take 0, .take 1, .take 2, .take 4, .take 5, .take 6, .one 3, .one 7, .take 8, .take 9] (by kernel_rfl) (by kernel_rfl) (by kernel_rfl) (by kernel_rfl) (fun _ _ _ _ _ h => h) (hS _ rfl rfl) ?_
            iterate 6 (refine p_take (v := ?_) rfl (by rfl) ?_ ?_; rotate_left; (intro w hS; obtain ⟨S1, S2⟩ := hS; go_simp; try with_reducible rfl); simp only [Act.put, List.setIfInBounds_toArray, List.set_cons_zero, List.set_cons_succ])
            have hWd := hW3.drew
            generalize hV : W3.drew = V at *
            have eB : ∀ b : Nat, V.heap[b]? = W3.heap[b]? := fun b => by rw [← hV]; rfl
            have P1 := HP1.out.below hWd
            have P2 := HP2.out.below hWd
            have EV := HENV.out.below hWd
            have hap : g1 ≠ g2 := fun h => HAP.out g1 rfl (by simp [Value.ownBlock, h])
            have tx' : RepD (fun b => (mb ≤ b ∨ A b) ∨ (Value.slice (some ⟨g1, 0, none⟩) ls.length cap1).ownBlock = some b) V (.row 2 (x.args.map Tm.d)) [.slice ax x.args.length cx] := by
              have := (tx.below hWd).bar (B := fun b => (mb ≤ b ∨ A b) ∨ (Value.slice (some ⟨g1, 0, none⟩) ls.length cap1).ownBlock = some b) fun b _ h => by
                rcases h with h | h
                · exact .inl h
                · exact .inl (.inl (by simp [Value.ownBlock] at h; omega))
              simpa only [Terms, Tm.ds_eq] using this
            have ty' : Terms (fun b => mb ≤ b ∨ A b) V (.slice ay y.args.length cy) y.args := (ty.below hWd).bar fun b _ h => .inl h
            have hVs := hWd.size
            refine p_one rfl (by rfl) ?_
            intro K hK
            refine wp_app_all (.tmp 74) (.tmp 76) 22 rfl w.heap.size 24 (.agg #[.int .i64 0, .slice none 0 0]) 2 32 Tryd.underlying22 (by kernel_rfl) rfl (by decide) (v := .slice (some ⟨g1, 0, none⟩) ls.length cap1) (xv := .slice ax x.args.length cx) rfl rfl P1 tx' (fun d hd => by obtain ⟨z, -, rfl⟩ := List.mem_map.1 hd; exact Tm.oneD z) (by simp [maxLen]; omega) (by simp; omega) (by omega) ?_
            intro v3 w4 o1 kp1 ob1 ⟨ad1, cp1, hv1⟩
            have nB1 : V.heap.size ≤ w4.heap.size := kp1.size
            have kB1 : ∀ b, b < V.heap.size → b ≠ g1 → w4.heap[b]? = V.heap[b]? := fun b hb hne => kp1.block b hb (by simp [Value.ownBlock]; omega)
            have lt1 := o1.lt
            subst hv1
            have lB1 : B1 < V.heap.size := by rw [← hV]; exact kk1
            have lB2 : B2 < V.heap.size := by rw [← hV]; exact kk2
            refine hK.out _ _ (hS _ ((kB1 _ lB1 (by omega)).trans (eB _)) ((kB1 _ lB2 (by omega)).trans (eB _))) ?_
            clear hK K
            simp only [Act.put, List.setIfInBounds_toArray, List.set_cons_zero, List.set_cons_succ]
            have P2' := P2.keep kp1 (fun b _ hb h => by simp [Value.ownBlock] at h; omega) (fun b hb h => by simp [Value.ownBlock] at h hb; omega)
            have E1 := EV.keep kp1 (fun h => by simp [Value.ownBlock] at h; omega) (fun c _ hc h => by simp [Value.ownBlock] at h; omega)
            have ty2 : RepD (fun b => (mb ≤ b ∨ A b) ∨ (Value.slice (some ⟨g2, 0, none⟩) ls.length cap2).ownBlock = some b) w4 (.row 2 (y.args.map Tm.d)) [.slice ay y.args.length cy] := by
              have := (ty'.keep kp1 (fun b _ hb h => by simp [Value.ownBlock] at h; omega)).bar (B := fun b => (mb ≤ b ∨ A b) ∨ (Value.slice (some ⟨g2, 0, none⟩) ls.length cap2).ownBlock = some b) fun b _ h => by
                rcases h with h | h
                · exact h
                · exact .inl (by simp [Value.ownBlock] at h; omega)
              simpa only [Terms, Tm.ds_eq] using this
            refine p_one rfl (by rfl) ?_
            intro K hK
            refine wp_app_all (.tmp 78) (.tmp 80) 22 rfl w.heap.size 24 (.agg #[.int .i64 0, .slice none 0 0]) 2 32 Tryd.underlying22 (by kernel_rfl) rfl (by decide) (v := .slice (some ⟨g2, 0, none⟩) ls.length cap2) (xv := .slice ay y.args.length cy) rfl rfl P2' ty2 (fun d hd => by obtain ⟨z, -, rfl⟩ := List.mem_map.1 hd; exact Tm.oneD z) (by have := HLEN.out; simp [maxLen]; omega) (by have := HLEN.out; simp; omega) (by omega) ?_
            intro v4 w5 o2 kp2 ob2 ⟨ad2, cp2, hv2⟩
            subst hv2
            have kB2 : ∀ b, b < w4.heap.size → b ≠ g2 → w5.heap[b]? = w4.heap[b]? := fun b hb hne => kp2.block b hb (by simp [Value.ownBlock]; omega)
            refine hK.out _ _ (hS _ ((kB2 _ (by omega) (by omega)).trans ((kB1 _ lB1 (by omega)).trans (eB _))) ((kB2 _ (by omega) (by omega)).trans ((kB1 _ lB2 (by omega)).trans (eB _)))) ?_
            clear hK K
            simp only [Act.put, List.setIfInBounds_toArray, List.set_cons_zero, List.set_cons_succ]
            have hfin : Gst A mb w w5 _ _ (ls ++ x.args) (rs ++ y.args) f := {
              below := ((hB.trans (hWd.mono (by omega))).trans (kp1.below (fun b hb h => by simp [Value.ownBlock] at h; omega) (by omega))).trans (kp2.below (fun b hb h => by simp [Value.ownBlock] at h; omega) (by omega))
              more := by have := kp2.size; omega
              left := by
                rw [List.map_append]
                exact o1.keep kp2 (fun b _ hb h => by simp [Value.ownBlock] at h; omega) (fun b hb h => by
                  have := ob1 b hb
                  have := lt1 b hb
                  simp [Value.ownBlock] at h this
                  rcases ob1 b hb with h9 | h9
                  · simp [Value.ownBlock] at h9; omega
                  · omega)
              right := by rw [List.map_append]; exact o2
              apart := fun b hb1 hb2 => by
                have l1 := lt1 b hb1
                rcases ob1 b hb1 with h9 | h9
                · simp [Value.ownBlock] at h9
                  rcases ob2 b hb2 with h8 | h8
                  · simp [Value.ownBlock] at h8; omega
                  · omega
                · rcases ob2 b hb2 with h8 | h8
                  · simp [Value.ownBlock] at h8; omega
                  · omega
              len := by rw [List.length_append, List.length_append, HLEN.out, HXY.out.2]
              size := by rw [Tm.sizes_append]; have := HX1.out; omega
              env := E1.keep kp2 (fun h => by simp [Value.ownBlock] at h; omega) (fun c _ hc h => by simp [Value.ownBlock] at h; omega)
              good := by
                have h1 := HGL.out
                rw [goods_append, Bool.and_eq_true] at h1 ⊢
                refine ⟨h1.1, ?_⟩
                cases x with
                | node xh xl =>
                  have := hgx
                  simp only [Tm.good, Bool.and_eq_true] at this
                  exact this.2
              size2 := by rw [Tm.sizes_append]; exact HSY.out
              esz := HESZ.out }
            simp only [List.length_map] at hfin
            iterate 2 (refine p_take (v := ?_) rfl (by rfl) ?_ ?_; rotate_left; (intro w hS; obtain ⟨S1, S2⟩ := hS; go_simp; try with_reducible rfl); simp only [Act.put, List.setIfInBounds_toArray, List.set_cons_zero, List.set_cons_succ])
            exact p_done ⟨.slice ad1 (ls.length + x.args.length) cp1, .slice ad2 (rs.length + y.args.length) cp2, by first | rfl | (simp [Act.put]), hfin⟩
          rintro _ W5 ⟨v3, v4, rfl, hst5⟩
          simp only [Act.put, List.setIfInBounds_toArray, List.set_cons_zero, List.set_cons_succ]
          go_wp2
          go_roundg (Tm.sizes (ls ++ x.args) + 1)
          case measure => rw [Tm.sizes_append, Tm.sizes_append]; have := HX1.out; simp only [Tm.sizes]; omega
          case rel => exact ⟨_, _, f, rfl, hst5, HG2.out⟩
        · have HR := hide (gather_of_none HL.out (gstate_other hg.out HLEN.out hneg hh))
          clear hg
          by_cases h1 : x.h = y.h
          · have h2 : ¬ x.args.length = y.args.length := fun h => hh ⟨h1, h⟩
            have l1 : x.h ≤ y.h := by omega
            have l2 : y.h ≤ x.h := by omega
            have hd : (x.h != y.h) = false := by simpa using h1
            clear hh h1
            go_wp2
            go_ret
            exact ⟨hB9, hmore9, .inr ⟨HR.out, rfl⟩⟩
          · have hd : (x.h != y.h) = true := by simpa using h1
            clear hh
            go_wp2
            go_ret
            exact ⟨hB9, hmore9, .inr ⟨HR.out, rfl⟩⟩
end
section
open Go.RowKit

def InR (v : Int) : Prop := 0 ≤ v ∧ v ≤ 255
mutual
theorem gatherT_dom : ∀ (p t : Tm) (f g : Env), p.good = true → gatherT p t f = some g → (∀ v u, f v = some u → InR v) → ∀ v u, g v = some u → InR v
  | .node h l, t, f, g, hg, hr, hf => by
    rw [gatherT] at hr
    have hh := good_heads _ hg h (by simp [Tm.heads])
    by_cases hn : h < 0
    · rw [if_pos hn] at hr
      cases hfv : f (-1 - h) with
      | none =>
        rw [hfv] at hr
        cases hr
        intro v u hv
        by_cases e : v = -1 - h
        · rw [e]; exact ⟨by omega, by omega⟩
        · simp [upd, e] at hv; exact hf v u hv
      | some w =>
        rw [hfv] at hr
        simp only at hr
        split at hr
        · cases hr; exact hf
        · cases hr
    · rw [if_neg hn] at hr
      have hg' : Tm.goods l = true := by simp only [Tm.good, Bool.and_eq_true] at hg; exact hg.2
      split at hr
      · exact gatherL_dom l t.args f g hg' hr hf
      · cases hr
theorem gatherL_dom : ∀ (ps ts : List Tm) (f g : Env), Tm.goods ps = true → gatherL ps ts f = some g → (∀ v u, f v = some u → InR v) → ∀ v u, g v = some u → InR v
  | [], ts, f, g, _, hr, hf => by rw [gatherL] at hr; cases hr; exact hf
  | _ :: _, [], f, g, _, hr, _ => by rw [gatherL] at hr; cases hr
  | p :: ps, t :: ts, f, g, hg, hr, hf => by
    simp only [Tm.goods, Bool.and_eq_true] at hg
    rw [gatherL] at hr
    cases h1 : gatherT p t f with
    | none => rw [h1] at hr; cases hr
    | some g1 =>
      rw [h1] at hr
      exact gatherL_dom ps ts g1 g hg.2 hr (gatherT_dom p t f g1 hg.1 h1 hf)
end
def bindOf (f : Env) (v : Int) : Option Bd := match f v with
  | some t => if t.h != -1 - v then some ⟨v, t⟩ else none
  | none => none
theorem tidyT_eq (f : Env) : tidyT f = (upto 256).filterMap (bindOf f) := rfl
theorem tidy_dom {f : Env} {vs : List Int} (hs : vs.Pairwise (· < ·)) (hv : ∀ v, v ∈ vs ↔ ∃ t, f v = some t) (hr : ∀ v t, f v = some t → InR v) : vs.filterMap (bindOf f) = tidyT f := by
  have he : vs = (upto 256).filter fun v => (f v).isSome := by
    refine sorted_ext _ _ hs ((upto_sorted 256).filter _) fun v => ?_
    simp only [List.mem_filter, mem_upto, hv v, Option.isSome_iff_exists]
    constructor
    · rintro ⟨t, ht⟩; have := hr v t ht; exact ⟨⟨this.1, by have := this.2; omega⟩, t, ht⟩
    · rintro ⟨_, h⟩; exact h
  rw [tidyT_eq, he, List.filterMap_filter]
  congr 1
  funext v
  cases h : f v <;> simp [bindOf, h]
theorem bindOf_snoc {f : Env} {vs : List Int} {k : Nat} (h : k < vs.length) {t : Tm} (ht : f vs[k] = some t) : (vs.take (k + 1)).filterMap (bindOf f) = (vs.take k).filterMap (bindOf f) ++ if t.h != -1 - vs[k] then [⟨vs[k], t⟩] else [] := by
  rw [List.take_succ_eq_append_getElem h, List.filterMap_append]
  congr 1
  simp only [List.filterMap_cons, List.filterMap_nil, bindOf, ht]
  split <;> rename_i hc
  · split at hc <;> simp_all
  · split at hc <;> simp_all
theorem goods_of_right : ∀ {l : List Tm}, l.all rightB = true → Tm.goods l = true
  | [], _ => rfl
  | t :: l, h => by
    simp only [List.all_cons, Bool.and_eq_true] at h
    simp only [Tm.goods, chk_good h.1, goods_of_right h.2, Bool.and_self]
end
section
open Go.RowKit

def hasB (n : Int) (l : List Int) : Bool := l.any fun x => x == n
theorem hasB_iff {n : Int} {l : List Int} : hasB n l = true ↔ n ∈ l := by simp [hasB]
theorem hasB_drop (n : Int) (l : List Int) (k : Nat) (h : k < l.length) : hasB n (l.drop k) = (l[k] == n || hasB n (l.drop (k + 1))) := by
  rw [hasB, hasB, List.drop_eq_getElem_cons h, List.any_cons]
set_option maxHeartbeats 1000000 in
theorem in_calls (n : Int) (l : List Int) (A : Nat → Prop) (s : Value) (w : World) (hs : Ints A w s l) :
    Calls Tryd.prog 20 #[.int .i64 n, s] w fun e w' => e = .returned (.bool (hasB n l)) ∧ Below w.heap.size w w' := by
  obtain ⟨a, c, rfl, hlc, hc⟩ := hs.shape
  have hl : l.length ≤ 9223372036854775807 := by omega
  have HG := hide (show hasB n (l.drop 0) = hasB n l by simp)
  go_enter Tryd.func20, Tryd.ntmps20
  go_wp2
  go_loopw [5] (fun i wr => ∃ (k : Nat), k ≤ l.length ∧ i = .int .i64 k ∧ Hid (hasB n (l.drop k) = hasB n l) ∧ Below w.heap.size w wr) (fun i _ => l.length - (intOf i).toNat)
  case atStart => exact ⟨0, by omega, rfl, HG, Below.refl _ _⟩
  case round =>
    obtain ⟨k, hk, rfl, hx, hB⟩ := hrel
    by_cases hlt : k < l.length
    · obtain ⟨b, off, rfl, hbs, hbA, g0⟩ := hs.get k hlt
      have hc1 := (hB.cell (p := ⟨b, off + k, none⟩) hbs).trans g0
      clear g0
      have hx2 := hx.out
      rw [hasB_drop _ _ _ hlt] at hx2
      cases hv : l[k] == n
      · have HX := hide (show hasB n (l.drop (k + 1)) = hasB n l by rw [← hx2, hv, Bool.false_or])
        clear hx hx2
        go_wp2
        go_roundw
        case rel => exact ⟨k + 1, by omega, by go_num, HX, hB⟩
        case measure => simp [intOf]; omega
      · have HX := hide (show true = hasB n l by rw [← hx2, hv, Bool.true_or])
        clear hx hx2
        go_wp2
        go_ret
        rw [← HX.out]
        exact ⟨rfl, hB⟩
    · have HX := hide (show false = hasB n l by have := hx.out; rw [List.drop_of_length_le (by omega)] at this; simpa [hasB] using this)
      clear hx
      go_wp2
      go_ret
      rw [← HX.out]
      exact ⟨rfl, hB⟩
end
section
open Go.RowKit Go.Shelf
attribute [local go_sem] Oper.semAt_some

theorem flat_ints : ∀ l : List Int, (l.map fun n => [Value.int .i64 n]).flatten = l.map (Value.int .i64)
  | [] => rfl
  | x :: l => by rw [List.map_cons, List.flatten_cons, flat_ints l, List.map_cons]; rfl
theorem Ints.of_own {A : Nat → Prop} {w : World} {base e : Nat} {v : Value} {l : List Int} (h : w.ownsRow base e 1 v l.length (l.map (Value.int .i64))) (hA : ∀ b, v.ownBlock = some b → ¬ A b) : Ints A w v l := by
  simp only [Ints, RepD]
  rcases h.2 with ⟨hv, h0⟩ | ⟨g, cap, cur, hv, hg, hh, hn, hm, hs, ht⟩
  · exact ⟨none, 0, 0, by rw [hv], by simp [h0], by omega, by omega, by omega⟩
  · refine ⟨_, _, _, by rw [hv], by simp, hn, Nat.le_trans hn (by simpa [maxLen] using hm), fun h0 => ⟨g, 0, rfl, (Array.getElem?_eq_some_iff.1 hh).1, hA g (by rw [hv]; rfl), ?_⟩⟩
    have hfl := flat_ints l
    refine RepR.of (l.map fun n => [Value.int .i64 n]) _ 0 (by simp) (fun j hj => ?_) ?_
    · rw [hfl] at hj ⊢
      have := h.cells (g := g) (by rw [hv]; rfl) j ((l.map (Value.int .i64))[j]) (by simp)
      rw [add_plain] at this
      rw [Nat.zero_add, this, List.getElem?_eq_getElem hj]
    · clear hfl h hv hh hn hm hs ht h0 hA
      induction l with
      | nil => exact .nil
      | cons x l ih => exact .cons (by simp [intD, RepD]) ih

structure VarsInv (n0 : Nat) (W : World) (O : Nat → Prop) (l : List Int) (v : Value) (Wx : World) : Prop where
  box : Wx.heap[n0 + 1]? = some (.cells #[v] 34 (0, 0))
  row : Wx.ownsRow W.heap.size 3 1 v l.length (l.map (Value.int .i64))
  ne : ∀ b, v.ownBlock = some b → ¬ O b
  kp : Keep (fun b => b < W.heap.size ∧ b ≠ n0 + 1) W Wx
end
section
open Go.RowKit Go.Maps Go.Sort Go.Shelf

theorem sortsA (m : Nat) : AnyZI.SortsIn Tryd.prog Tryd.sortedA_ren Fence.wide m :=
  ⟨fun blk off cap ss W hH hblk hsz => callsIn_wide.2 (Tryd.slices_Sort_int blk off cap ss W hH hblk hsz),
   fun p cap W => callsIn_wide.2 (Tryd.slices_Sort_int_none p cap W)⟩

theorem keys_calls (mb : Nat) (w : World) : Calls Tryd.prog 54 #[.map (some mb)] w fun e w' =>
    e = .returned (.func (.func 68) #[] #[.pointer (some ⟨w.heap.size, 0, none⟩)]) ∧ w' = w.alloc (.cells #[.map (some mb)] 91) :=
  callsIn_wide.1 (AnyZI.keys_in Tryd.keysA Fence.wide 5 trivial rfl (some mb) w)

theorem sorted_calls (mb : Nat) (f : Int → Option Value) (w : World) (h : MapAt w mb f) (hr : ∀ x v, f x = some v → 0 ≤ x ∧ x ≤ 255) :
    Calls Tryd.prog 53 #[.func (.func 68) #[] #[.pointer (some ⟨w.heap.size, 0, none⟩)]] (w.alloc (.cells #[.map (some mb)] 91)) fun e w' =>
      ∃ (v : Value) (vs : List Int), e = .returned v ∧ vs.Pairwise (· < ·) ∧ (∀ x, x ∈ vs ↔ ∃ u, f x = some u) ∧ Ints (fun _ => False) w' v vs ∧ Below w.heap.size w w' := by
  obtain ⟨D, hown, hk, hnd⟩ := h.owns (P := Tryd.prog) (k := 3) Tryd.underlying3 hr
  have hbl := hown.lt
  have hsz : Maps.size D ≤ 256 := hown.size_le
  refine (callsIn_wide (n := 5)).1 ?_
  have hseq : SeqGives Fence.wide 2 Tryd.prog 68 #[.pointer (some ⟨w.heap.size, 0, none⟩)] encZ (fun ss => ss.Perm (intKeys D)) (Maps.size D) (w.alloc (.cells #[.map (some mb)] 91)) :=
    AnyZI.keys_gives (ρ := Tryd.keysA_ren) { Tryd.keysA with } Fence.wide _ trivial rfl (by omega) w.heap.size mb 256 D _ (by simp) (by simp) (by
      obtain ⟨es, clock, hb, Ft, hs, hD⟩ := hown
      exact ⟨es, clock, (Below.heap_alloc _ _ mb hbl).trans hb, Ft, hs, hD⟩)
  have cS := AnyZI.sorted_in Tryd.sortedA Fence.wide 5 trivial trivial trivial trivial rfl (by omega) (sortsA _) (enters_of Tryd.func50 (by kernel_rfl) rfl) 68 #[.pointer (some ⟨w.heap.size, 0, none⟩)] trivial (enters_of Tryd.func68 (by kernel_rfl) rfl) _ _ (by unfold maxLen; omega) (by omega) _ hseq
  change CallsIn _ _ Tryd.prog 53 _ _ _ at cS
  refine cS.mono ?_
  rintro e w' ⟨v, ss, rfl, hS, hrow, hnil, hb⟩
  have hle := sortI_sorted ss
  have hn2 : (sortI ss).Nodup := ((List.mergeSort_perm ss _).trans hS).nodup_iff.2 hnd
  have hl : (sortI ss).length = ss.length := sortI_length ss
  refine ⟨v, sortI ss, rfl, ?_, fun x => ?_, ?_, ?_⟩
  · exact (hle.and (List.nodup_iff_pairwise_ne.1 hn2)).imp fun ⟨h1, h2⟩ => by omega
  · rw [sortI_mem, hS.mem_iff, hk]
  · refine Ints.of_own (base := (w.alloc (.cells #[.map (some mb)] 91)).heap.size) (e := 3) ?_ (fun b _ h => h)
    rw [hl]; exact hrow
  · exact ((Below.refl _ w).alloc (Nat.le_refl _) _).trans (hb.mono (by simp))
end
section
open Go.RowKit

theorem wrong1_calls (t : Tm) (A : Nat → Prop) (h : Int) (s : Value) (w : World) (hs : IsTm A w h s t) (hsz : t.size ≤ 1000000000) :
    Calls Tryd.prog 64 #[.agg #[.int .i64 h, s]] w fun e w' => e = .returned (.bool (chk t != 0)) ∧ Below w.heap.size w w' := by
  obtain ⟨rfl, a, c, rfl, hc1, hc2⟩ := hs.shape
  go_enter Tryd.func64, Tryd.ntmps64
  have B0 : Below w.heap.size w (w.alloc (.cells #[.int .i64 t.h, .slice a t.args.length c] 24)) := (Below.refl _ _).alloc (Nat.le_refl _) _
  go_wp2_with fail
  refine (check_calls t A _ _ _ (hs.below B0) hsz).mono ?_
  rintro e w1 ⟨rfl, h1⟩
  have B1 := more_below B0 h1
  generalize hx : chk t = x at *
  have HX := hide hx
  clear hx
  go_wp2
  go_ret
  rw [HX.out]
  exact ⟨rfl, B1⟩

def badI : List Tm → Int → Int
  | [], _ => -1
  | t :: ts, k => if chk t = 0 then badI ts (k + 1) else k
theorem badI_drop (l : List Tm) (k : Nat) (h : k < l.length) : badI (l.drop k) k = if chk l[k] = 0 then badI (l.drop (k + 1)) ((k + 1 : Nat) : Int) else (k : Int) := by
  rw [List.drop_eq_getElem_cons h, badI]; rfl
theorem badI_all : ∀ (l : List Tm) (k : Int), 0 ≤ k → (decide (0 ≤ badI l k) = !l.all rightB)
  | [], k, _ => by simp [badI]
  | t :: ts, k, h => by
    have ih := badI_all ts (k + 1) (by omega)
    simp only [badI, List.all_cons]
    split
    · rename_i hc
      rw [show rightB t = true by simp [rightB, hc], Bool.true_and]
      exact ih
    · rename_i hc
      rw [show rightB t = false by simp [rightB, hc]]
      simp [h]
set_option maxHeartbeats 2000000 in
set_option maxRecDepth 100000 in
theorem indexf_calls (ts : List Tm) (A : Nat → Prop) (s : Value) (w : World) (hs : Terms A w s ts) (hsz : ∀ t, t ∈ ts → t.size ≤ 1000000000) :
    Calls Tryd.prog 69 #[s, .func (.func 64) #[] #[]] w fun e w' => e = .returned (.int .i64 (badI ts 0)) ∧ Below w.heap.size w w' := by
  obtain ⟨a, c, rfl, hlc, hc⟩ := hs.shape
  have hl : ts.length ≤ 9223372036854775807 := by omega
  have HSZ := hide hsz
  clear hsz
  have HG := hide (show badI (ts.drop 0) ((0 : Nat) : Int) = badI ts 0 by simp)
  go_enter Tryd.func69, Tryd.ntmps69
  go_wp2
  go_loopw [8] (fun i wr => ∃ (k : Nat), k ≤ ts.length ∧ i = .int .i64 k ∧ Hid (badI (ts.drop k) k = badI ts 0) ∧ Below w.heap.size w wr) (fun i _ => ts.length - (intOf i).toNat)
  case atStart => exact ⟨0, by omega, rfl, HG, Below.refl _ _⟩
  case round =>
    obtain ⟨k, hk, rfl, hx, hB⟩ := hrel
    by_cases hlt : k < ts.length
    · obtain ⟨b, off, a', c', rfl, g0, g1, gt⟩ := hs.getW hB k hlt
      have hz := HSZ.out ts[k] (List.getElem_mem hlt)
      have HX2 := hide (hx.out.symm.trans (badI_drop _ _ hlt))
      clear hx
      go_wp2_with fail
      refine (wrong1_calls ts[k] A _ _ _ gt hz).mono ?_
      rintro e w4 ⟨rfl, h4⟩
      have hB4 := more_below hB h4
      generalize chk ts[k] = x at *
      clear h4 hB g0 g1 gt
      by_cases hx : x = 0
      · have HX := hide (show badI (ts.drop (k + 1)) ((k + 1 : Nat) : Int) = badI ts 0 by rw [HX2.out, if_pos hx])
        subst hx
        clear HX2
        go_wp2
        go_roundw
        case rel => exact ⟨k + 1, by omega, by go_num, HX, hB4⟩
        case measure => simp [intOf]; omega
      · have HX := hide (show (k : Int) = badI ts 0 by rw [HX2.out, if_neg hx])
        have hne : (x != 0) = true := by simpa using hx
        clear hx HX2
        go_wp2
        go_ret
        rw [← HX.out]
        exact ⟨rfl, hB4⟩
    · have HX := hide (show -1 = badI ts 0 by have := hx.out; rw [List.drop_of_length_le (by omega)] at this; simpa [badI] using this)
      clear hx
      go_wp2
      go_ret
      rw [← HX.out]
      exact ⟨rfl, hB⟩
theorem wrong_calls (ts : List Tm) (A : Nat → Prop) (s : Value) (w : World) (hs : Terms A w s ts) (hsz : ∀ t, t ∈ ts → t.size ≤ 1000000000) :
    Calls Tryd.prog 51 #[s] w fun e w' => e = .returned (.bool (!ts.all rightB)) ∧ Below w.heap.size w w' := by
  obtain ⟨a, c, rfl, hlc, hc⟩ := hs.shape
  have HSZ := hide hsz
  have H9 := hide (badI_all ts 0 (by omega))
  clear hsz
  go_enter Tryd.func51, Tryd.ntmps51
  go_wp2_with fail
  go_enter Tryd.func56, Tryd.ntmps56
  go_wp2_with fail
  refine (indexf_calls ts A _ _ hs HSZ.out).mono ?_
  rintro e w1 ⟨rfl, h1⟩
  generalize badI ts 0 = x at *
  by_cases h0 : 0 ≤ x
  · have HY := hide (show true = !ts.all rightB by rw [← H9.out]; simp [h0])
    clear H9
    go_wp2
    go_ret
    rw [← HY.out]
    exact ⟨rfl, h1⟩
  · have HY := hide (show false = !ts.all rightB by rw [← H9.out]; simp [h0])
    clear H9
    go_wp2
    go_ret
    rw [← HY.out]
    exact ⟨by simp [h0], h1⟩
end
section
open Go.RowKit Go.Shelf
attribute [local go_sem] Oper.semAt_some

theorem MapBinds.keep {A S : Nat → Prop} {W W' : World} {b : Nat} {bs : List Bd} (h : MapBinds A W b bs) (hk : Keep S W W') (hb : S b) (hA : ∀ c, c < W.heap.size → ¬ A c → S c) : MapBinds A W' b bs := by
  obtain ⟨f, h1, h2⟩ := h
  exact ⟨f, h1.keep hk hb, fun x => ⟨(h2 x).1, fun t ht => by obtain ⟨s, h3, h4⟩ := (h2 x).2 t ht; exact ⟨s, h3, h4.keep hk hA⟩⟩⟩
end
section
open Go.RowKit

/-- A function with one value captured, that gives for a variable's term the term g. -/
structure Serves (F : Nat) (x : Value) (g : Tm → Tm) (OK : (Nat → Prop) → World → Prop) : Prop where
  enters : ∀ args w, (callFunc F args).run Tryd.prog w = .ok (.enter F args) w
  below : ∀ A w w', OK A w → Below w.heap.size w w' → OK A w'
  bar : ∀ A B w, OK A w → (∀ b, b < w.heap.size → B b → A b) → OK B w
  gives : ∀ (v : Tm) (A : Nat → Prop) (h : Int) (s : Value) (w : World), (∀ b, A b → b < w.heap.size) → v.good = true → v.h < 0 → OK A w → IsTm A w h s v → Calls Tryd.prog F #[x, .agg #[.int .i64 h, s]] w fun e w' => Gives A w (g v) e w'

end
section
open Go.RowKit

theorem Binds.old {w W : World} {s : Value} {bs : List Bd} {n : Nat} (h : Binds (fun _ => False) w s bs) (hn : w.heap.size ≤ n) (hB : Below w.heap.size w W) : Binds (fun b => n ≤ b) W s bs :=
  RepD.frame (fun b _ hlt => hB.block b hlt) (fun b hb h => by omega) _ _ h
theorem binds1 {A : Nat → Prop} {W : World} {b : Nat} {T : TypeId} {s1 : Value} {b1 : Bd} (hb : W.heap[b]? = some (.cells #[.int .i64 b1.v, .int .i64 b1.t.h, s1] T (0, 0))) (hA : ¬ A b) (h1 : Terms A W s1 b1.t.args) : Binds A W (.slice (some ⟨b, 0, none⟩) 1 1) [b1] := by
  simp only [Binds, RepD]
  refine ⟨_, _, _, rfl, by simp, Nat.le_refl _, by omega, fun _ => ⟨b, 0, rfl, (Array.getElem?_eq_some_iff.1 hb).1, hA, ?_⟩⟩
  refine RepR.of [[.int .i64 b1.v, .int .i64 b1.t.h, s1]] _ 0 (by simp) (fun j hj => ?_) (.cons (repBd.2 ⟨s1, rfl, h1⟩) .nil)
  rw [Nat.zero_add]; simp only [World.cell?, hb]; simp
end
section
open Go.RowKit

section
variable {P : Program} {W : World} {ops : Array Oper} {rest : List Oper} {o : Oper} {a : Act} {Q : Exit → Act → World → Prop} {k e t : TypeId} {b : Nat} {f : Int → Option Value}
theorem MapAt.look1z (h : MapAt W b f) (hk : P.underlying k = some (.int .i64)) (ht : P.underlying t = some (.map k e)) {z : Value} (hz : (zeroValue e).run P W = .ok z W) {x : Int} (h0 : -9223372036854775808 ≤ x) (h1 : x ≤ 9223372036854775807) :
    (Instr.lookup t (.map (some b)) (.int .i64 x) false).run P W = .ok ((f x).getD z) W := by
  obtain ⟨es, clock, hb, hkeys, huniq, hval, hdom, hst⟩ := h
  have K := Maps.int_keyed (P := P) hk
  have hkey := Maps.keyOf_int_mk hk (wf_i64 h0 h1)
  rcases K.find W hkey es.toList (fun e he => by obtain ⟨y, hy, hy0, hy1⟩ := hkeys e he; rw [hy]; exact ⟨_, Maps.keyOf_int_mk hk (wf_i64 hy0 hy1)⟩) with ⟨g1, g2⟩ | ⟨j, e0, g1, g2, g3⟩
  · have hf : f x = none := by
      cases hfx : f x with
      | none => rfl
      | some v => obtain ⟨e, he, hek⟩ := hdom x v hfx; exact absurd hek (g2 e he)
    simp [Instr.lookup, run_underlying ht, MapKept.run_getObj_map hb, K.check W _ hkey, g1, hz, Result.andThen, hf]
  · have hf := hval e0 (List.mem_of_getElem? g2) x g3
    simp [Instr.lookup, run_underlying ht, MapKept.run_getObj_map hb, K.check W _ hkey, g1, Result.andThen, hf]
theorem look1_pl (hg : o.guard = none) (m x : Operand) (t : TypeId) (hop : o.op = .lookup t m x false) (hk : P.underlying k = some (.int .i64)) (ht : P.underlying t = some (.map k e)) {z : Value} (hz : (zeroValue e).run P W = .ok z W)
    (b : Nat) (f : Int → Option Value) (hm : a.eval m = .map (some b)) (h : MapAt W b f) (y : Int) (hx : a.eval x = .int .i64 y) (h0 : -9223372036854775808 ≤ y) (h1 : y ≤ 9223372036854775807)
    (hK : wpList P ops Q rest (a.put o.dst ((f y).getD z)) W) : wpList P ops Q (o :: rest) a W := by
  refine wpList_plain hg fun K' hK' => ?_
  have hrun := h.look1z hk ht hz h0 h1
  unfold Oper.wp
  simp [execOp, hop, hm, hx, hrun, Result.andThen]
  exact hK' _ _ hK
end
theorem field_pl {P : Program} {W : World} {ops : Array Oper} {rest : List Oper} {o : Oper} {a : Act} {Q : Exit → Act → World → Prop} (hg : o.guard = none) (t : TypeId) (x : Operand) (i : Nat) (hop : o.op = .field t x i) (x0 v : Value) (hx : a.eval x = x0)
    (hrun : (Instr.field t x0 i).run P W = .ok v W) (hK : wpList P ops Q rest (a.put o.dst v) W) : wpList P ops Q (o :: rest) a W := by
  refine wpList_plain hg fun K' hK' => ?_
  unfold Oper.wp
  simp [execOp, hop, hx, hrun, Result.andThen]
  exact hK' _ _ hK
theorem fieldHead (W : World) (h s : Value) : (Instr.field 24 (.agg #[h, s]) 0).run Tryd.prog W = .ok h W := by kernel_rfl
theorem Terms.old {A : Nat → Prop} {w W : World} {s : Value} {ts : List Tm} {n : Nat} (h : Terms A w s ts) (hn : w.heap.size ≤ n) (hB : Below w.heap.size w W) : Terms (fun b => n ≤ b ∨ A b) W s ts :=
  RepD.frame (fun b _ hlt => hB.block b hlt) (fun b hb h => h.elim (fun h => by omega) id) _ _ h

set_option maxHeartbeats 8000000 in
set_option maxRecDepth 100000 in
theorem matchall_calls (A : Nat → Prop) (ps ts : List Tm) (s1 s2 : Value) (w : World) (hp9 : Tm.sizes ps ≤ 1000000000) (ht9 : Tm.sizes ts ≤ 1000000000) (hA : ∀ b, A b → b < w.heap.size) (hs : Terms A w s1 ps) (ht : Terms A w s2 ts) :
    Calls Tryd.prog 38 #[s1, s2] w fun e w' => ∃ v, e = .returned (.tuple #[v, .bool (matchT ps ts).2.1, .int .i64 (matchT ps ts).2.2]) ∧ Binds (A) w' v (matchT ps ts).1 ∧ Below w.heap.size w w' := by
  obtain ⟨a1, d1, rfl, hd1, hd1'⟩ := hs.shape
  obtain ⟨a2, d2, rfl, hd2, hd2'⟩ := ht.shape
  have HAO := hide hA
  have NILB := hide (fun W => (by simp only [Binds, RepD, List.map_nil]; exact ⟨none, 0, 0, rfl, rfl, by omega, by omega, by simp⟩ : Binds (A) W (.slice none 0 0) []))
  have HPS := hide (fun t (h : t ∈ ps) => (by obtain ⟨i, hi, rfl⟩ := List.getElem_of_mem h; exact Nat.le_trans (Tm.size_get ps i hi) hp9 : t.size ≤ 1000000000))
  have HTS := hide (fun t (h : t ∈ ts) => (by obtain ⟨i, hi, rfl⟩ := List.getElem_of_mem h; exact Nat.le_trans (Tm.size_get ts i hi) ht9 : t.size ≤ 1000000000))
  go_enter Tryd.func38, Tryd.ntmps38
  by_cases hlen : ps.length = ts.length
  rotate_left
  · have HM := hide (show matchT ps ts = ([], false, 1) by rw [matchT, if_neg (fun h => hlen h.1)])
    have hd : ((ps.length : Int) != ts.length) = true := by simp; omega
    clear hlen
    go_wp2
    exact bodyPost_ret (v := .tuple #[.slice none 0 0, .bool false, .int .i64 1]) (by simp [results, Tryd.results38, go_sem]) rfl ⟨_, by rw [HM.out], by rw [HM.out]; exact NILB.out _, Below.refl _ _⟩
  have hd : ((ps.length : Int) != ts.length) = false := by simp; omega
  have HL := hide hlen
  clear hlen
  go_wp2_with fail
  refine (wrong_calls ps (A) _ _ hs HPS.out).mono ?_
  rintro e w1 ⟨rfl, B1⟩
  cases hpr : ps.all rightB
  · have HM := hide (show matchT ps ts = ([], false, 1) by rw [matchT, if_neg (fun h => by rw [hpr] at h; exact absurd h.2.1 (by simp))])
    have HPR := hide hpr
    clear hpr
    simp only [Bool.not_false]
    go_wp2
    exact bodyPost_ret (v := .tuple #[.slice none 0 0, .bool false, .int .i64 1]) (by simp [results, Tryd.results38, go_sem]) rfl ⟨_, by rw [HM.out], by rw [HM.out]; exact NILB.out _, B1⟩
  have HPR := hide hpr
  clear hpr
  simp only [Bool.not_true]
  go_wp2_with fail
  refine (wrong_calls ts (A) _ _ (ht.below B1) HTS.out).mono ?_
  rintro e w2 ⟨rfl, h2⟩
  have B2 := more_below B1 h2
  clear h2 B1
  cases htr : ts.all rightB
  · have HM := hide (show matchT ps ts = ([], false, 1) by rw [matchT, if_neg (fun h => by rw [htr] at h; exact absurd h.2.2 (by simp))])
    have HTR := hide htr
    clear htr
    simp only [Bool.not_false]
    go_wp2
    exact bodyPost_ret (v := .tuple #[.slice none 0 0, .bool false, .int .i64 1]) (by simp [results, Tryd.results38, go_sem]) rfl ⟨_, by rw [HM.out], by rw [HM.out]; exact NILB.out _, B2⟩
  have HM := hide (show matchT ps ts = (match gatherL ps ts noE with | some f => (tidyT f, true, 0) | none => ([], false, 0)) by rw [matchT, if_pos ⟨HL.out, HPR.out, htr⟩] <;> rfl)
  have HTR := hide htr
  clear htr
  simp only [Bool.not_true]
  have hmm := @run_makeMap Tryd.prog
  go_wp2_with fail
  have hal : Below w2.heap.size w2 (w2.alloc (.map #[] 0)) := (Below.refl _ _).alloc (Nat.le_refl _) _
  have B3 := more_below B2 hal
  have hm0 : MapEnv (fun b => w2.heap.size ≤ b ∨ A b) (w2.alloc (.map #[] 0)) w2.heap.size noE := MapEnv.made _ _
  have hgo := goods_of_right HPR.out
  have hw2 := B2.size
  refine (gather_calls A ps ts w2.heap.size (.slice a1 ps.length d1) (.slice a2 ts.length d2) (w2.alloc (.map #[] 0)) HL.out hp9 ht9 hgo (by simp) (hs.old hw2 B3) (ht.old hw2 B3) hm0).mono ?_
  rintro e w4 ⟨C4, hm4, ⟨f, hf, rfl, hme⟩ | ⟨hf, rfl⟩⟩
  rotate_left
  · have HM2 := hide (show matchT ps ts = ([], false, 0) by rw [HM.out, hf])
    have B4 : Below w.heap.size w w4 := B3.trans (C4.mono hw2)
    clear hf HM
    go_wp2
    exact bodyPost_ret (v := .tuple #[.slice none 0 0, .bool false, .int .i64 0]) (by simp [results, Tryd.results38, go_sem]) rfl ⟨_, by rw [HM2.out], by rw [HM2.out]; exact NILB.out _, B4⟩
  have B4 : Below w.heap.size w w4 := B3.trans (C4.mono hw2)
  have HMR := hide (show matchT ps ts = (tidyT f, true, 0) by rw [HM.out, hf])
  have HDOM := hide (gatherL_dom ps ts noE f hgo hf (fun v u h => by cases h))
  have hb4 : w2.heap.size < w4.heap.size := by rw [World.size_alloc] at hm4; omega
  generalize hmb : w2.heap.size = mb at *
  obtain ⟨F, hF, hFv⟩ := hme
  have HFV := hide hFv
  have HR := hide (show ∀ x v, F x = some v → 0 ≤ x ∧ x ≤ 255 from fun x v hx => by
    cases hfx : f x with
    | none => rw [(hFv x).1 hfx] at hx; cases hx
    | some t => exact HDOM.out x t hfx)
  have HFW := hide hF
  clear hf HM hFv C4 hm4 hm0 hal B3 B2 hgo hmb hw2 hF
  go_wp2_with fail
  refine (keys_calls mb w4).mono ?_
  rintro e w5 ⟨rfl, hw5⟩
  subst hw5
  go_wp2_with fail
  refine (sorted_calls mb F w4 HFW.out HR.out).mono ?_
  rintro e w6 ⟨vv, vs, rfl, hvs, hvm, iv, h6⟩
  have B6 := more_below B4 h6
  have HFA := hide (HFW.out.below h6)
  have HTER := hide (show ∀ x t, f x = some t → ∃ s, F x = some (.agg #[.int .i64 t.h, s]) ∧ Terms (fun b => mb ≤ b ∨ A b) w6 s t.args from fun x t h => by
    obtain ⟨s, h1, h2⟩ := (HFV.out x).2 t h
    exact ⟨s, h1, h2.below h6⟩)
  have HVM := hide (show ∀ x, x ∈ vs ↔ ∃ t, f x = some t from fun x => by
    rw [hvm x]
    constructor
    · rintro ⟨u, hu⟩
      cases hfx : f x with
      | none => rw [(HFV.out x).1 hfx] at hu; cases hu
      | some t => exact ⟨t, rfl⟩
    · rintro ⟨t, ht⟩
      obtain ⟨s, h1, _⟩ := (HFV.out x).2 t ht
      exact ⟨_, h1⟩)
  have HTD := hide (tidy_dom hvs HVM.out HDOM.out)
  have hvl : vs.length ≤ 256 := pigeon 256 vs (List.nodup_iff_pairwise_ne.2 (hvs.imp fun h => by omega)) fun x hx => by
    obtain ⟨t, ht⟩ := (HVM.out x).1 hx
    have := HDOM.out x t ht
    exact ⟨this.1, by have := this.2; omega⟩
  obtain ⟨av, cv, rfl, hcv, hcv'⟩ := iv.shape
  have hmb6 : mb < w6.heap.size := by have := h6.size; omega
  clear hvs hvm h6 B4 HFW HFV
  go_wp2
  go_loopw [8, 34] (fun v i wr => ∃ k : Nat, k ≤ vs.length ∧ i = .int .i64 k ∧ Below w6.heap.size w6 wr ∧ OwnD (A) wr w6.heap.size 98 3 v (((vs.take k).filterMap (bindOf f)).map Bd.d)) (fun _ i _ => vs.length - (intOf i).toNat)
  case atStart => exact ⟨0, by omega, rfl, Below.refl _ _, by simpa using OwnD.nil _ _ _ _ _⟩
  case round =>
    obtain ⟨k, hk, rfl, hB, hO⟩ := hrel
    by_cases hlt : k < vs.length
    · obtain ⟨b, off, rfl, hbs, -, g0⟩ := iv.get k hlt
      have q1 := (hB.cell (p := ⟨b, off + k, none⟩) hbs).trans g0
      obtain ⟨t, htk⟩ := (HVM.out vs[k]).1 (List.getElem_mem hlt)
      have hr := HDOM.out vs[k] t htk
      obtain ⟨hr0, hr1⟩ := hr
      obtain ⟨st, hFk, tt⟩ := HTER.out vs[k] t htk
      obtain ⟨at', ct, rfl, -, -⟩ := tt.shape
      have HFX := hide hFk
      have HSN := hide (bindOf_snoc (f := f) hlt htk)
      have HFA1 := hide (HFA.out.below hB)
      have hw1 : IntKind.i64.wrap (-1 - vs[k]) = -1 - vs[k] := IntWalk.i64_in _ (by omega)
      have ttr := tt.below hB
      clear g0 htk hFk
      by_cases hmv : t.h = -1 - vs[k]
      · have HNM := hide (show (vs.take (k + 1)).filterMap (bindOf f) = (vs.take k).filterMap (bindOf f) by rw [HSN.out, if_neg (by simpa using hmv), List.append_nil])
        have hd : (t.h != -1 - vs[k]) = false := by simpa using hmv
        clear hmv HSN
        go_wp2_with (first | (at_lookup; refine look1_pl rfl _ _ 91 rfl Tryd.underlying3 Tryd.underlying91 (zeroTerm _) mb F rfl HFA1.out vs[k] rfl (by omega) (by omega) ?_; rw [HFX.out]) | (refine field_pl rfl 24 (.tmp 40) 0 rfl (.agg #[.int .i64 t.h, .slice at' t.args.length ct]) (.int .i64 t.h) rfl (fieldHead _ _ _) ?_))
        go_roundw
        case rel => exact ⟨k + 1, by omega, by go_num, hB, by rw [HNM.out]; exact hO⟩
        case measure => simp [intOf]; omega
      · have HNM := hide (show (vs.take (k + 1)).filterMap (bindOf f) = (vs.take k).filterMap (bindOf f) ++ [⟨vs[k], t⟩] by rw [HSN.out, if_pos (by simpa using hmv)])
        have hd : (t.h != -1 - vs[k]) = true := by simpa using hmv
        have hal : Below wr.heap.size wr (wr.alloc (.cells #[.int .i64 vs[k], .int .i64 t.h, .slice at' t.args.length ct] 98)) := (Below.refl _ _).alloc (Nat.le_refl _) _
        have kb := World.alloc_heap_new wr (.cells #[.int .i64 vs[k], .int .i64 t.h, .slice at' t.args.length ct] 98)
        have hlt12 := hO.lt
        have HD := hide (show RepD (fun b => A b ∨ u8.ownBlock = some b) (wr.alloc (.cells #[.int .i64 vs[k], .int .i64 t.h, .slice at' t.args.length ct] 98)) (.row 3 (([⟨vs[k], t⟩] : List Bd).map Bd.d)) [.slice (some ⟨wr.heap.size, 0, none⟩) 1 1] from
          binds1 (b1 := ⟨vs[k], t⟩) kb (fun h => by
            rcases h with h | h
            · have := HAO.out _ h; have := B6.size; have := hB.size; omega
            · have := hlt12 _ h; omega) (RepD.frame (fun b _ hlt => hal.block b hlt) (fun b hb h => by
            rcases h with h | h
            · exact .inr h
            · exact .inl (by have := hlt12 b h; omega)) _ _ ttr))
        have HO12 := hide (hO.below hal)
        have hbl : ((vs.take k).filterMap (bindOf f)).length ≤ 256 := Nat.le_trans (List.length_filterMap_le _ _) (by rw [List.length_take]; omega)
        have HBASE := hide (show w6.heap.size ≤ (wr.alloc (.cells #[.int .i64 vs[k], .int .i64 t.h, .slice at' t.args.length ct] 98)).heap.size from Nat.le_trans hB.size hal.size)
        have HB12 := hide (hB.trans (hal.mono hB.size))
        clear hmv HSN hal hlt12 kb hO
        go_wp2_with (first | (at_lookup; refine look1_pl rfl _ _ 91 rfl Tryd.underlying3 Tryd.underlying91 (zeroTerm _) mb F rfl HFA1.out vs[k] rfl (by omega) (by omega) ?_; rw [HFX.out]) | (refine field_pl rfl 24 (.tmp 40) 0 rfl (.agg #[.int .i64 t.h, .slice at' t.args.length ct]) (.int .i64 t.h) rfl (fieldHead _ _ _) ?_) | (at_builtin; refine app_all_pl rfl (.tmp 45) (.tmp 51) 38 rfl w6.heap.size 98 (.agg #[.int .i64 0, .int .i64 0, .slice none 0 0]) 3 40 Tryd.underlying38 (by kernel_rfl) rfl (by decide) (v := u8) (xv := .slice (some ⟨wr.heap.size, 0, none⟩) 1 1) rfl rfl HO12.out HD.out (fun d hd => by obtain ⟨z, -, rfl⟩ := List.mem_map.1 hd; exact Bd.oneD z) (by simp [maxLen]; omega) (by simp; omega) HBASE.out ?_; intro v' w' o' kp ob hsh))
        go_roundw
        case rel =>
          refine ⟨k + 1, by omega, by go_num, HB12.out.trans (kp.below (fun b hb h => by have := (HO12.out.lt b h).1; omega) HBASE.out), ?_⟩
          rw [HNM.out, List.map_append]; exact o'
        case measure => simp [intOf]; omega
    · obtain rfl : k = vs.length := by omega
      rw [List.take_length, HTD.out] at hO
      have hR : Binds (A) wr u8 (tidyT f) := hO.rep (fun b h => by have := HAO.out b h; have := B6.size; omega)
      have hBw := more_below B6 hB
      obtain ⟨ar, cr, rfl, -, -⟩ := hR.shape
      clear hO hlt hk
      go_wp2
      exact bodyPost_ret (v := .tuple #[.slice ar (tidyT f).length cr, .bool true, .int .i64 0]) (by simp [results, Tryd.results38, go_sem]) rfl ⟨_, by rw [HMR.out], by rw [HMR.out]; exact hR, hBw⟩
end
section
open Go.RowKit

end
open Go.RowKit

def GivesM (A : Nat → Prop) (w : World) (r : List Bd × Bool × Int) (e : Ending) (w' : World) : Prop :=
  ∃ v, e = .returned (.tuple #[v, .bool r.2.1, .int .i64 r.2.2]) ∧ Binds A w' v r.1 ∧ Below w.heap.size w w'
theorem sizes_one (t : Tm) : Tm.sizes [t] = t.size := by simp [Tm.sizes]

set_option maxHeartbeats 4000000 in
set_option maxRecDepth 100000 in
theorem match_calls (A : Nat → Prop) (p t : Tm) (h1 h2 : Int) (s1 s2 : Value) (w : World) (hp9 : p.size ≤ 1000000000) (ht9 : t.size ≤ 1000000000) (hA : ∀ b, A b → b < w.heap.size) (hp : IsTm A w h1 s1 p) (ht : IsTm A w h2 s2 t) :
    Calls Tryd.prog 18 #[.agg #[.int .i64 h1, s1], .agg #[.int .i64 h2, s2]] w fun e w' => GivesM A w (matchT [p] [t]) e w' := by
  obtain ⟨rfl, a1, c1, rfl, -, -⟩ := hp.shape
  obtain ⟨rfl, a2, c2, rfl, -, -⟩ := ht.shape
  have HAO := hide hA
  go_enter Tryd.func18, Tryd.ntmps18
  go_wp2_with fail
  have b2 : Below w.heap.size w ((w.alloc (.cells #[.int .i64 p.h, .slice a1 p.args.length c1] 24)).alloc (.cells #[.int .i64 t.h, .slice a2 t.args.length c2] 24)) := ((Below.refl _ _).alloc (Nat.le_refl _) _).alloc (by rw [World.size_alloc]; omega) _
  have e2 : ((w.alloc (.cells #[.int .i64 p.h, .slice a1 p.args.length c1] 24)).alloc (.cells #[.int .i64 t.h, .slice a2 t.args.length c2] 24)).heap.size = w.heap.size + 1 + 1 := by rw [World.size_alloc, World.size_alloc]
  generalize (w.alloc (.cells #[.int .i64 p.h, .slice a1 p.args.length c1] 24)).alloc (.cells #[.int .i64 t.h, .slice a2 t.args.length c2] 24) = W2 at *
  have p2 := hp.below b2
  have t2 := ht.below b2
  have k3 : (W2.alloc (.cells #[.int .i64 p.h, .slice a1 p.args.length c1] 24)).heap[W2.heap.size]? = some (.cells #[.int .i64 p.h, .slice a1 p.args.length c1] 24 (0, 0)) := World.alloc_heap_new _ _
  have b3 : Below W2.heap.size W2 (W2.alloc (.cells #[.int .i64 p.h, .slice a1 p.args.length c1] 24)) := (Below.refl _ _).alloc (Nat.le_refl _) _
  have p3 := terms1 (A := A) (t := p) k3 (fun h => by have := HAO.out _ h; omega) (p2.below b3).2
  have t3 := t2.below b3
  have B3 := more_below b2 b3
  have e3 : (W2.alloc (.cells #[.int .i64 p.h, .slice a1 p.args.length c1] 24)).heap.size = w.heap.size + 1 + 1 + 1 := by rw [World.size_alloc, e2]
  rw [e2] at p3
  generalize W2.alloc (.cells #[.int .i64 p.h, .slice a1 p.args.length c1] 24) = W3 at *
  have k4 : (W3.alloc (.cells #[.int .i64 t.h, .slice a2 t.args.length c2] 24)).heap[W3.heap.size]? = some (.cells #[.int .i64 t.h, .slice a2 t.args.length c2] 24 (0, 0)) := World.alloc_heap_new _ _
  have b4 : Below W3.heap.size W3 (W3.alloc (.cells #[.int .i64 t.h, .slice a2 t.args.length c2] 24)) := (Below.refl _ _).alloc (Nat.le_refl _) _
  have t4 := terms1 (A := A) (t := t) k4 (fun h => by have := HAO.out _ h; omega) (t3.below b4).2
  have p4 := p3.below b4
  have B4 := more_below B3 b4
  rw [e3] at t4
  generalize W3.alloc (.cells #[.int .i64 t.h, .slice a2 t.args.length c2] 24) = W4 at *
  clear e2 e3 k3 k4 b2 b3 b4 p2 t2 p3 t3 B3
  refine (matchall_calls A [p] [t] _ _ W4 (by rw [sizes_one]; exact hp9) (by rw [sizes_one]; exact ht9) (fun b h => Nat.lt_of_lt_of_le (HAO.out b h) B4.size) p4 t4).mono ?_
  rintro e w5 ⟨v, rfl, hv, h5⟩
  have B5 := more_below B4 h5
  go_wp2
  exact bodyPost_ret (v := .tuple #[v, .bool (matchT [p] [t]).2.1, .int .i64 (matchT [p] [t]).2.2]) (by simp [results, Tryd.results18, go_sem]) rfl ⟨v, rfl, hv, B5⟩
end Go.Proofs.YtneecjikdghchaaDoor
