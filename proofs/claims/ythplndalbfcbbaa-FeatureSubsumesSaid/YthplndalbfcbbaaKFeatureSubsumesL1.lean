/- What the proof of the law rests on: contracts of the functions, plain laws, and words. -/
import Derived.Shelf.SlIterI.Nil
import Derived.Shelf.SlGeneric
import Derived.Ground.GgzProg
import Derived.Test.YthplndalbfcbbaaProg
import Derived.Lib.SlKeysI
import Derived.Maps.Range
import Derived.Lib.AppendZerosOnto
import Derived.Lib.SliceRun
import Derived.Laws.EntriesVeiled
import Derived.Test.YthplndalbfcbbaaKFeatureSubsumesL0
import Derived.Test.YthplndalbfcbbaaKFeatureSubsumesG1
import Derived.Test.YthplndalbfcbbaaKFeatureSubsumesG4
import Derived.Test.YthplndalbfcbbaaKFeatureSubsumesG6
import Derived.Test.YthplndalbfcbbaaKFeatureSubsumesG3
import Derived.Test.YthplndalbfcbbaaKFeatureSubsumesG5
import Derived.Test.YthplndalbfcbbaaKFeatureSubsumesG0
import Derived.Test.YthplndalbfcbbaaKFeatureSubsumesG2
import Derived.Test.YthplndalbfcbbaaKFeatureSubsumesG12
import Derived.Test.YthplndalbfcbbaaKFeatureSubsumesG9
import Derived.Test.YthplndalbfcbbaaKFeatureSubsumesG7
import Derived.Test.YthplndalbfcbbaaKFeatureSubsumesXWith
import Derived.Test.YthplndalbfcbbaaKFeatureSubsumesXSyms
namespace Go.Proofs.Ythplndalbfcbbaa.PA
open Go.RowKit Go.Proofs.YthplndalbfcbbaaW.PrintWords Go.Proofs.YthplndalbfcbbaaW.PrintLast Go.Proofs.YthplndalbfcbbaaW.PrintMore
attribute [local go_sem] max2_int min2_int max_two min_two max_three min_three max_four min_four   -- for this text's walks alone
set_option linter.unusedVariables false
set_option linter.unusedSimpArgs false
end Go.Proofs.Ythplndalbfcbbaa.PA
namespace Go.Proofs.Ythplndalbfcbbaa.PA
open Go.RowKit Go.Proofs.YthplndalbfcbbaaW.PrintWords Go.Proofs.YthplndalbfcbbaaW.PrintLast Go.Proofs.YthplndalbfcbbaaW.PrintMore
attribute [local go_sem] max2_int min2_int max_two min_two max_three min_three max_four min_four   -- for this text's walks alone
set_option linter.unusedVariables false
set_option linter.unusedSimpArgs false
end Go.Proofs.Ythplndalbfcbbaa.PA
namespace Go.Proofs.Ythplndalbfcbbaa.PA
open Go.RowKit Go.Proofs.YthplndalbfcbbaaW.PrintWords Go.Proofs.YthplndalbfcbbaaW.PrintLast Go.Proofs.YthplndalbfcbbaaW.PrintMore
attribute [local go_sem] max2_int min2_int max_two min_two max_three min_three max_four min_four   -- for this text's walks alone
set_option linter.unusedVariables false
set_option linter.unusedSimpArgs false
end Go.Proofs.Ythplndalbfcbbaa.PA
namespace Go.Proofs.Ythplndalbfcbbaa.PA
open Go.RowKit Go.Proofs.YthplndalbfcbbaaW.PrintWords Go.Proofs.YthplndalbfcbbaaW.PrintLast Go.Proofs.YthplndalbfcbbaaW.PrintMore
attribute [local go_sem] max2_int min2_int max_two min_two max_three min_three max_four min_four   -- for this text's walks alone
set_option linter.unusedVariables false
set_option linter.unusedSimpArgs false
end Go.Proofs.Ythplndalbfcbbaa.PA
namespace Go.Proofs.Ythplndalbfcbbaa.PA
open Go.RowKit Go.Proofs.YthplndalbfcbbaaW.PrintWords Go.Proofs.YthplndalbfcbbaaW.PrintLast Go.Proofs.YthplndalbfcbbaaW.PrintMore
attribute [local go_sem] max2_int min2_int max_two min_two max_three min_three max_four min_four   -- for this text's walks alone
set_option linter.unusedVariables false
set_option linter.unusedSimpArgs false
end Go.Proofs.Ythplndalbfcbbaa.PA
namespace Go.Proofs.Ythplndalbfcbbaa.PA
open Go.RowKit Go.Proofs.YthplndalbfcbbaaW.PrintWords Go.Proofs.YthplndalbfcbbaaW.PrintLast Go.Proofs.YthplndalbfcbbaaW.PrintMore
attribute [local go_sem] max2_int min2_int max_two min_two max_three min_three max_four min_four   -- for this text's walks alone
set_option linter.unusedVariables false
set_option linter.unusedSimpArgs false
end Go.Proofs.Ythplndalbfcbbaa.PA
namespace Go.Proofs.Ythplndalbfcbbaa.PA
open Go.RowKit Go.Proofs.YthplndalbfcbbaaW.PrintWords Go.Proofs.YthplndalbfcbbaaW.PrintLast Go.Proofs.YthplndalbfcbbaaW.PrintMore
attribute [local go_sem] max2_int min2_int max_two min_two max_three min_three max_four min_four   -- for this text's walks alone
set_option linter.unusedVariables false
set_option linter.unusedSimpArgs false
end Go.Proofs.Ythplndalbfcbbaa.PA
namespace Go.Proofs.Ythplndalbfcbbaa.PA
open Go.RowKit Go.Proofs.YthplndalbfcbbaaW.PrintWords Go.Proofs.YthplndalbfcbbaaW.PrintLast Go.Proofs.YthplndalbfcbbaaW.PrintMore
attribute [local go_sem] max2_int min2_int max_two min_two max_three min_three max_four min_four   -- for this text's walks alone
set_option linter.unusedVariables false
set_option linter.unusedSimpArgs false
end Go.Proofs.Ythplndalbfcbbaa.PA
namespace Go.Proofs.Ythplndalbfcbbaa.PA
open Go.RowKit Go.Proofs.YthplndalbfcbbaaW.PrintWords Go.Proofs.YthplndalbfcbbaaW.PrintLast Go.Proofs.YthplndalbfcbbaaW.PrintMore
attribute [local go_sem] max2_int min2_int max_two min_two max_three min_three max_four min_four   -- for this text's walks alone
set_option linter.unusedVariables false
set_option linter.unusedSimpArgs false
end Go.Proofs.Ythplndalbfcbbaa.PA
namespace Go.Proofs.Ythplndalbfcbbaa.PA
open Go.RowKit Go.Proofs.YthplndalbfcbbaaW.PrintWords Go.Proofs.YthplndalbfcbbaaW.PrintLast Go.Proofs.YthplndalbfcbbaaW.PrintMore
attribute [local go_sem] max2_int min2_int max_two min_two max_three min_three max_four min_four   -- for this text's walks alone
set_option linter.unusedVariables false
set_option linter.unusedSimpArgs false
end Go.Proofs.Ythplndalbfcbbaa.PA
set_option linter.unusedSimpArgs false
set_option linter.unusedVariables false
namespace Go.Proofs.Ythplndalbfcbbaa
open Go.RowKit Go.Proofs.YthplndalbfcbbaaW.PrintWords
theorem wrap_next {i : Int} (h0 : 0 ≤ i) (h1 : i ≤ 9223372036854775806) : wrap64 (i + 1) = i + 1 := by unfold wrap64; omega
end Go.Proofs.Ythplndalbfcbbaa
set_option linter.unusedSimpArgs false
set_option linter.unusedVariables false
namespace Go.Proofs.Ythplndalbfcbbaa
open Go.RowKit Go.Proofs.YthplndalbfcbbaaW.PrintWords
def Ev {α : Type} (f : Nat → Option α) (r : α) : Prop := ∃ k0, ∀ k, k0 ≤ k → f k = some r
theorem Ev.step {α : Type} {f g : Nat → Option α} {r : α} (h : Ev f r) (e : ∀ k, g (k + 1) = f k) : Ev g r := by
  obtain ⟨k0, h⟩ := h
  refine ⟨k0 + 1, fun k hk => ?_⟩
  obtain ⟨k, rfl⟩ : ∃ m, k = m + 1 := ⟨k - 1, by omega⟩
  rw [e, h k (by omega)]
theorem Ev.const {α : Type} {r : α} : Ev (fun _ => some r) r := ⟨0, fun _ _ => rfl⟩
theorem Ev.bind {α β : Type} {f : Nat → Option α} {g : Nat → α → Option β} {a : α} {r : β} (h : Ev f a) (k : Ev (fun n => g n a) r) : Ev (fun n => (f n).bind (g n)) r := by
  obtain ⟨k1, h⟩ := h
  obtain ⟨k2, k⟩ := k
  exact ⟨max k1 k2, fun n hn => by simp only [h n (by omega), Option.bind_some, k n (by omega)]⟩
theorem Ev.congr {α : Type} {f g : Nat → Option α} {r : α} (h : Ev f r) (e : ∀ k, g k = f k) : Ev g r := by
  obtain ⟨k0, h⟩ := h
  exact ⟨k0, fun k hk => by rw [e, h k hk]⟩
end Go.Proofs.Ythplndalbfcbbaa
set_option linter.unusedSimpArgs false
set_option linter.unusedVariables false
namespace Go.Proofs.Ythplndalbfcbbaa
mutual
/-- In how many parts a symbol stands. -/
def stT (h : Int) : Tm → Int
  | .node g ts => (if g = h then 1 else 0) + stL h ts
def stL (h : Int) : List Tm → Int
  | [] => 0
  | t :: ts => stT h t + stL h ts
end
theorem stT_eq (h : Int) (t : Tm) : stT h t = (if t.h = h then 1 else 0) + stL h t.args := by cases t; rw [stT, Tm.h, Tm.args]
mutual
theorem stT_bounds (h : Int) : ∀ t : Tm, 0 ≤ stT h t ∧ stT h t ≤ t.size
  | .node g ts => by
    have h1 := stL_bounds h ts
    have hs := (Tm.node g ts).size_eq
    simp only [Tm.args] at hs
    rw [stT]
    split <;> omega
theorem stL_bounds (h : Int) : ∀ ts : List Tm, 0 ≤ stL h ts ∧ stL h ts ≤ Tm.sizes ts
  | [] => by simp [stL, Tm.sizes]
  | t :: ts => by
    have h1 := stT_bounds h t
    have h2 := stL_bounds h ts
    simp only [stL, Tm.sizes]
    omega
end
theorem bump_getD (l : List Int) (j i : Nat) (hi : i < l.length) : (bump l j).getD i 0 = l.getD i 0 + if i = j then 1 else 0 := by
  simp only [bump, List.getD_eq_getElem?_getD, List.getElem?_set]
  by_cases h : j = i
  · subst h
    simp [hi]
  · have h' : ¬ i = j := fun e => h e.symm
    simp [h, h']
def atS (k i : Nat) : Bool := decide (2 + k ≤ i) && decide ((i - 2 - k) % 2 = 0)
mutual
theorem addT_getD (k i : Nat) : ∀ (t : Tm) (l : List Int), i < l.length → (addT k t l).getD i 0 = l.getD i 0 + if atS k i = true then stT (((i - 2 - k) / 2 : Nat) : Int) t else 0
  | .node h ts, l, hi => by
    rw [addT, addL_getD k i ts _ (by split <;> simp [bump_length, hi]), stT]
    by_cases hh : h < 0
    · rw [if_pos hh]
      split
      · rw [if_neg (by omega)]; omega
      · rfl
    · rw [if_neg hh, bump_getD l _ i hi]
      by_cases ha : atS k i = true
      · rw [if_pos ha, if_pos ha]
        simp only [atS, Bool.and_eq_true, decide_eq_true_eq] at ha
        by_cases he : i = 2 + 2 * h.toNat + k
        · rw [if_pos he, if_pos (by omega)]; omega
        · rw [if_neg he, if_neg (by omega)]; omega
      · rw [if_neg ha, if_neg ha, if_neg (by
          intro he
          refine ha ?_
          simp only [atS, Bool.and_eq_true, decide_eq_true_eq]
          omega)]
        omega
theorem addL_getD (k i : Nat) : ∀ (ts : List Tm) (l : List Int), i < l.length → (addL k ts l).getD i 0 = l.getD i 0 + if atS k i = true then stL (((i - 2 - k) / 2 : Nat) : Int) ts else 0
  | [], l, hi => by simp [addL, stL]
  | t :: ts, l, hi => by
    rw [addL, addL_getD k i ts _ (by rw [addT_length]; exact hi), addT_getD k i t l hi, stL]
    split <;> omega
end
def inner (k : Nat) (L R : Tm) : Nat → List Int → List Int
  | 0, l => l
  | j + 1, l => (inner k L R j l).set (2 + 2 * j + k) ((inner k L R j l).getD (2 + 2 * j + k) 0 + stT (j : Int) L + stT (j : Int) R)
end Go.Proofs.Ythplndalbfcbbaa
set_option linter.unusedSimpArgs false
set_option linter.unusedVariables false
namespace Go.Proofs.Ythplndalbfcbbaa
open Go.RowKit Go.Proofs.YthplndalbfcbbaaW.PrintWords
theorem rdG_nat (l : List Sy) (i : Nat) (h : i < l.length) : PA.rd_T148 (toGL l) (i : Int) = toG l[i] := by simp [PA.rd_T148, toGL, h]
theorem rdL_nat (l : List Lt) (i : Nat) (h : i < l.length) : PA.rd_T142 (toLL l) (i : Int) = toLt l[i] := by simp [PA.rd_T142, toLL, h]
theorem toLt_f1 (x : Lt) : (toLt x).f1 = toS x.l := rfl
theorem toLt_f2 (x : Lt) : (toLt x).f2 = toS x.r := rfl
def sidesOf (ls : List Lt) : List Tm := (ls.map fun x => [x.l, x.r]).flatten
theorem sidesOf_take (ls : List Lt) (i : Nat) (h : i < ls.length) : sidesOf (ls.take (i + 1)) = sidesOf (ls.take i) ++ [ls[i].l, ls[i].r] := by
  rw [List.take_succ_eq_append_getElem h]
  simp only [sidesOf, List.map_append, List.flatten_append, List.map_cons, List.map_nil, List.flatten_cons, List.flatten_nil, List.append_nil]
theorem sidesOf_length (ls : List Lt) : (sidesOf ls).length = 2 * ls.length := by
  induction ls with
  | nil => rfl
  | cons x ls ih => simp only [sidesOf, List.map_cons, List.flatten_cons, List.length_append, List.length_cons, List.length_nil] at ih ⊢; omega
theorem sidesOf_mem {ls : List Lt} {x : Lt} (h : x ∈ ls) : x.l ∈ sidesOf ls ∧ x.r ∈ sidesOf ls := by
  simp only [sidesOf, List.mem_flatten, List.mem_map]
  exact ⟨⟨_, ⟨x, h, rfl⟩, by simp⟩, ⟨_, ⟨x, h, rfl⟩, by simp⟩⟩
theorem toS_eta (t : Tm) : (⟨(toS t).f0, (toS t).f1⟩ : TS) = toS t := by cases toS t; rfl
theorem terms10_l0 (ls : List Lt) (hl : ls.length ≤ 1000000000) : ∀ (d i : Nat), i + d = ls.length → Ev (fun k => PA.elenchusref10_Terms.l0 k (toLL ls) (toSL (sidesOf (ls.take i))) (i : Int)) (toSL (sidesOf ls))
  | 0, i, hi => by
    rw [List.take_of_length_le (by omega)]
    refine Ev.const.step fun k => ?_
    rw [PA.elenchusref10_Terms.l0, if_neg (by rw [toLL_length]; omega)]
  | d + 1, i, hi => by
    have hlt : i < ls.length := by omega
    have hrec := terms10_l0 ls hl d (i + 1) (by omega)
    refine hrec.step fun k => ?_
    rw [PA.elenchusref10_Terms.l0, if_pos (by rw [toLL_length]; omega), if_pos (by omega), rdL_nat ls i hlt, toLt_f1, toLt_f2, toS_eta, toS_eta, Option.bind_some, if_pos (by rw [toSL_length, sidesOf_length, List.length_take]; simp; omega), wrap_next (by omega) (by omega), sidesOf_take ls i hlt]
    congr 1
    simp [toSL_map]
theorem terms10 (ls : List Lt) (hl : ls.length ≤ 1000000000) : Ev (fun k => PA.elenchusref10_Terms.f k (toLL ls)) (toSL (sidesOf ls)) := by
  have := terms10_l0 ls hl ls.length 0 (by omega)
  simpa [sidesOf, toSL, PA.elenchusref10_Terms.f] using this
def few7B (gs : List Sy) : Bool := decide (gs.length ≤ 300) && gs.all fun x => decide (x.name.size ≤ 100)
theorem few7_l0 (gs : List Sy) (hl : gs.length ≤ 300) : ∀ (d i : Nat), i + d = gs.length → Ev (fun k => PA.elenchusref07_Few.l0 k (toGL gs) (i : Int)) ((gs.drop i).all fun x => decide (x.name.size ≤ 100))
  | 0, i, hi => by
    rw [List.drop_eq_nil_of_le (by omega), List.all_nil]
    refine (Ev.const.step (g := fun k => PA.elenchusref07_Few.j1 k (toGL gs) (i : Int) false) fun k => ?_).step fun k => ?_
    · rw [PA.elenchusref07_Few.j1, if_neg (by simp), toGL_length]; simp; omega
    · rw [PA.elenchusref07_Few.l0, if_neg (by rw [toGL_length]; omega)]
  | d + 1, i, hi => by
    have hlt : i < gs.length := by omega
    have hrec := few7_l0 gs hl d (i + 1) (by omega)
    rw [List.drop_eq_getElem_cons hlt, List.all_cons]
    refine Ev.step (f := fun k => PA.elenchusref07_Few.j1 k (toGL gs) (i : Int) true) ?_ fun k => by rw [PA.elenchusref07_Few.l0, if_pos (by rw [toGL_length]; omega), toGL_length, decide_eq_true (by omega)]
    have e : ((toG gs[i]).f0).size = gs[i].name.size := rfl
    by_cases hc : gs[i].name.size ≤ 100
    · rw [decide_eq_true hc, Bool.true_and]
      refine hrec.step fun k => ?_
      rw [PA.elenchusref07_Few.j1, if_pos rfl, if_pos (by omega), if_pos (by rw [toGL_length]; omega), rdG_nat gs i hlt, e, if_neg (by omega), wrap_next (by omega) (by omega)]; rfl
    · rw [decide_eq_false hc, Bool.false_and]
      refine Ev.const.step fun k => ?_
      rw [PA.elenchusref07_Few.j1, if_pos rfl, if_pos (by omega), if_pos (by rw [toGL_length]; omega), rdG_nat gs i hlt, e, if_pos (by omega)]
theorem few7 (gs : List Sy) (h9 : gs.length ≤ 9223372036854775807) : Ev (fun k => PA.elenchusref07_Few.f k (toGL gs)) (few7B gs) := by
  by_cases hl : gs.length ≤ 300
  · have := few7_l0 gs hl gs.length 0 (by omega)
    rw [List.drop_zero] at this
    simpa [few7B, hl, PA.elenchusref07_Few.f] using this
  · have hb : few7B gs = false := by simp [few7B, hl]
    rw [hb]
    refine (Ev.const.step (g := fun k => PA.elenchusref07_Few.j1 k (toGL gs) 0 false) fun k => ?_).step fun k => ?_
    · rw [PA.elenchusref07_Few.j1, if_neg (by simp), toGL_length]; simp; omega
    · rw [PA.elenchusref07_Few.f.eq_1, PA.elenchusref07_Few.l0, if_pos (by rw [toGL_length]; omega), toGL_length, decide_eq_false (by omega)]
def few10B (ls : List Lt) : Bool := decide (ls.length ≤ 40) && fewS (sidesOf ls)
theorem few10 (ls : List Lt) : Ev (fun k => PA.elenchusref10_Few.f k (toLL ls)) (few10B ls) := by
  unfold PA.elenchusref10_Few.f
  by_cases hl : ls.length ≤ 40
  · refine Ev.congr (f := fun k => (PA.elenchusref10_Terms.f k (toLL ls)).bind fun t => (PA.elenchusref05_Few.f t).bind fun u => some u) ?_ fun k => by rw [if_pos (by rw [toLL_length]; omega)]
    refine (terms10 ls (by omega)).bind (g := fun k t => (PA.elenchusref05_Few.f t).bind fun u => some u) (Ev.const.congr fun k => ?_)
    simp [PA.elenchusref05_Few.f, ofSL_toSL, few10B, hl]
  · refine Ev.const.congr fun k => ?_
    rw [if_neg (by rw [toLL_length]; omega)]
    simp [few10B, hl]
def few16B (gs : List Sy) (ls : List Lt) : Bool := few7B gs && few10B ls
theorem few16 (gs : List Sy) (ls : List Lt) (h9 : gs.length ≤ 9223372036854775807) : Ev (fun k => PA.elenchusref16_Few.f k (toGL gs) (toLL ls)) (few16B gs ls) := by
  unfold PA.elenchusref16_Few.f
  refine (few7 gs h9).bind (g := fun k t => if t = true then (PA.elenchusref10_Few.f k (toLL ls)).bind fun t629 => (if t629 = true then ((PA.elenchusref10_Terms.f k (toLL ls)).bind fun t630 => ((PA.elenchusref05_Few.f t630).bind fun t633 => (some t633))) else (some false)) else some false) ?_
  cases hf : few7B gs
  · exact Ev.const.congr fun k => by simp [few16B, hf]
  simp only [if_true]
  refine (few10 ls).bind (g := fun k t => if t = true then ((PA.elenchusref10_Terms.f k (toLL ls)).bind fun t630 => ((PA.elenchusref05_Few.f t630).bind fun t633 => (some t633))) else (some false)) ?_
  cases hg : few10B ls
  · exact Ev.const.congr fun k => by simp [few16B, hf, hg]
  simp only [if_true]
  have hg' := hg
  simp only [few10B, Bool.and_eq_true, decide_eq_true_eq] at hg'
  refine (terms10 ls (by omega)).bind (g := fun k t => (PA.elenchusref05_Few.f t).bind fun u => some u) (Ev.const.congr fun k => ?_)
  simp [PA.elenchusref05_Few.f, ofSL_toSL, hg'.2, few16B, hf, hg]
theorem Tm.size_mem {t : Tm} {l : List Tm} (h : t ∈ l) : t.size ≤ Tm.sizes l := by
  obtain ⟨i, hi, rfl⟩ := List.getElem_of_mem h
  exact Tm.size_get l i hi
theorem few10_sizes {ls : List Lt} (h : few10B ls = true) : ls.length ≤ 40 ∧ ∀ x ∈ ls, x.l.size ≤ 500 ∧ x.r.size ≤ 500 := by
  simp only [few10B, Bool.and_eq_true, decide_eq_true_eq] at h
  have hs := fewS_sizes h.2
  refine ⟨h.1, fun x hx => ?_⟩
  have hm := sidesOf_mem hx
  have h1 := Tm.size_mem hm.1
  have h2 := Tm.size_mem hm.2
  omega
theorem chk_goodG {t : Tm} (h : chk t = 0) : t.good = true := by
  unfold chk at h
  split at h
  · contradiction
  split at h
  · contradiction
  split at h
  · assumption
  · contradiction
end Go.Proofs.Ythplndalbfcbbaa
set_option linter.unusedSimpArgs false
set_option linter.unusedVariables false
namespace Go.Proofs.Ythplndalbfcbbaa
open Go.RowKit Go.Proofs.YthplndalbfcbbaaW.PrintWords
theorem few16_calls (gs : List Sy) (ls : List Lt) (A B : Nat → Prop) (sg sl : Value) (w : World) (hg : Syms A w sg gs) (hl : Lits B w sl ls) :
    Calls Try.prog 60 #[sg, sl] w fun e w' => e = .returned (.bool (few16B gs ls)) ∧ Below w.heap.size w w' := by
  obtain ⟨a0, c0, rfl, -, g9⟩ := hg.shape
  obtain ⟨a1, c1, rfl, -, -⟩ := hl.shape
  obtain ⟨e0, l0, k0⟩ := cg_of hg
  obtain ⟨e1, l1, k1⟩ := cl_of hl
  rw [e0, e1]
  obtain ⟨f0, hk⟩ := few16 gs ls g9
  exact PA.elenchusref16_Few.calls f0 a0 c0 (toGL gs) a1 c1 (toLL ls) _ w k0 l0 k1 l1 (hk f0 (Nat.le_refl _))
end Go.Proofs.Ythplndalbfcbbaa
set_option linter.unusedSimpArgs false
set_option linter.unusedVariables false
namespace Go.Proofs.Ythplndalbfcbbaa
open Go.RowKit
def SidesM (σ : Env) (a l : Lt) : Prop := (Makes σ a.l l.l ∧ Makes σ a.r l.r) ∨ (Makes σ a.l l.r ∧ Makes σ a.r l.l)
mutual
theorem makes_mono {f σ : Env} (h : Within f σ) : ∀ {p t : Tm}, Makes f p t → Makes σ p t
  | .node x l, t, hm => by
    simp only [Makes] at hm ⊢
    split at hm
    · next hx => rw [if_pos hx]; exact h _ _ hm
    · next hx => rw [if_neg hx]; exact ⟨hm.1, makesL_mono h hm.2⟩
theorem makesL_mono {f σ : Env} (h : Within f σ) : ∀ {ps ts : List Tm}, MakesL f ps ts → MakesL σ ps ts
  | [], ts, hm => hm
  | _ :: _, [], hm => hm
  | p :: ps, t :: ts, hm => by
    simp only [MakesL] at hm ⊢
    exact ⟨makes_mono h hm.1, makesL_mono h hm.2⟩
end
theorem SidesM.mono {f σ : Env} {a l : Lt} (h : SidesM f a l) (hw : Within f σ) : SidesM σ a l := by
  rcases h with h | h
  · exact .inl ⟨makes_mono hw h.1, makes_mono hw h.2⟩
  · exact .inr ⟨makes_mono hw h.1, makes_mono hw h.2⟩
theorem run_neq_map_nil {P : Program} (w : World) (t k e : TypeId) (p : Option Nat) (h : P.underlying t = some (.map k e)) :
    (binOp .neq t (.map p) (.map none)).run P w = .ok (.bool (!p.isNone)) w := by
  simp only [binOp]
  simp [show Op.equal t (.map p) (.map none) = Op.equalIn (9999 + 1) t (.map p) (.map none) from rfl, run_equalIn_map_nil_sl w 9999 t k e p h]
theorem box8 {w : World} {b : Nat} {x y z u v p q r : Value} {t : TypeId} (h : w.heap[b]? = some (.cells #[x, y, z, u, v, p, q, r] t (0, 0))) :
    w.cell? ⟨b, 0, none⟩ = some x ∧ w.cell? ⟨b, 1, none⟩ = some y ∧ w.cell? ⟨b, 2, none⟩ = some z ∧ w.cell? ⟨b, 3, none⟩ = some u ∧ w.cell? ⟨b, 4, none⟩ = some v ∧ w.cell? ⟨b, 5, none⟩ = some p ∧ w.cell? ⟨b, 6, none⟩ = some q ∧ w.cell? ⟨b, 7, none⟩ = some r :=
  ⟨by simp [World.cell?, h], by simp [World.cell?, h], by simp [World.cell?, h], by simp [World.cell?, h], by simp [World.cell?, h], by simp [World.cell?, h], by simp [World.cell?, h], by simp [World.cell?, h]⟩
def DoPost (p : Prop) (w : World) (e : Ending) (w' : World) : Prop := ∃ r : Bool, e = .returned (.bool r) ∧ Below w.heap.size w w' ∧ (r = true → p)
def kindP (x : Lt) : Bool := decide (x.l.h = 0) || decide (x.r.h = 0)
set_option maxHeartbeats 1000000 in
set_option maxRecDepth 100000 in
theorem kind_calls (x : Lt) (s1 s2 : Value) (w : World) :
    Calls Try.prog 193 #[ltV x s1 s2] w fun e w' => e = .returned (.bool (kindP x)) ∧ Below w.heap.size w w' := by
  have HB := hide (show Below w.heap.size w (w.alloc (.cells #[.bool x.neg, .int .i64 x.l.h, s1, .int .i64 x.r.h, s2] 142)) from (Below.refl _ _).alloc (Nat.le_refl _) _)
  obtain ⟨z0, z1, z2, z3, z4⟩ := box5 (World.alloc_heap_new w (.cells #[.bool x.neg, .int .i64 x.l.h, s1, .int .i64 x.r.h, s2] 142))
  have HK := hide (show kindP x = (decide (x.l.h = 0) || decide (x.r.h = 0)) from rfl)
  rw [show ltV x s1 s2 = .agg #[.bool x.neg, .int .i64 x.l.h, s1, .int .i64 x.r.h, s2] from rfl]
  generalize x.l.h = a at *
  generalize x.r.h = b at *
  by_cases ha : a = 0
  · subst ha
    go_enter Try.func193, Try.ntmps193
    go_wp2
    go_ret
    exact ⟨ret_bool (by rw [HK.out]; rfl), HB.out⟩
  · have hd : (a == 0) = false := by simpa using ha
    have hk : kindP x = (b == 0) := by rw [HK.out]; simp [ha]; rfl
    have HK := hide hk
    clear ha hk
    go_enter Try.func193, Try.ntmps193
    go_wp2
    go_ret
    exact ⟨ret_bool HK.out.symm, HB.out⟩
set_option maxHeartbeats 8000000 in
set_option maxRecDepth 100000 in
theorem ways_calls (A : Nat → Prop) (a l : Lt) (f0 : Env) (m0 b3 b4 : Nat) (s1 s2 s3 s4 : Value) (w : World) (P : Env → Prop) (ha : (a.l.size ≤ 1000000 ∧ a.r.size ≤ 1000000) ∧ a.l.good = true ∧ a.r.good = true) (hl : l.l.size ≤ 1000000 ∧ l.r.size ≤ 1000000) (hesz : ∀ v t, f0 v = some t → t.size ≤ 1000000000)
    (h1 : Terms A w s1 a.l.args) (h2 : Terms A w s2 a.r.args) (h3 : Terms A w s3 l.l.args) (h4 : Terms A w s4 l.r.args) (hm : MapEnv A w m0 f0)
    (hdo : ∀ (nb : Nat) (f : Env) (W : World), w.heap.size ≤ nb → Below w.heap.size w W → w.heap.size ≤ W.heap.size → MapEnv (fun b => w.heap.size ≤ b ∨ A b) W nb f → (∀ v t, f v = some t → t.size ≤ 1000000000) →
      Calls Try.prog 167 #[.map (some nb), .pointer (some ⟨b3, 0, none⟩), .pointer (some ⟨b4, 0, none⟩)] W fun e W' => DoPost (P f) W e W') :
    Calls Try.prog 166 #[.map (some m0), ltV a s1 s2, ltV l s3 s4, .func (.func 167) #[] #[.pointer (some ⟨b3, 0, none⟩), .pointer (some ⟨b4, 0, none⟩)]] w fun e w' =>
      DoPost (∃ f, Within f0 f ∧ SidesM f a l ∧ P f) w e w' := by
  obtain ⟨a1, c1, rfl, -, -⟩ := h1.shape
  obtain ⟨a2, c2, rfl, -, -⟩ := h2.shape
  obtain ⟨a3, c3, rfl, -, -⟩ := h3.shape
  obtain ⟨a4, c4, rfl, -, -⟩ := h4.shape
  have hW1 : Below w.heap.size w ((w.alloc (.cells #[.bool a.neg, .int .i64 a.l.h, .slice a1 a.l.args.length c1, .int .i64 a.r.h, .slice a2 a.r.args.length c2] 142)).alloc (.cells #[.bool l.neg, .int .i64 l.l.h, .slice a3 l.l.args.length c3, .int .i64 l.r.h, .slice a4 l.r.args.length c4] 142)) := ((Below.refl _ _).alloc (Nat.le_refl _) _).alloc (by simp) _
  have kP : ((w.alloc (.cells #[.bool a.neg, .int .i64 a.l.h, .slice a1 a.l.args.length c1, .int .i64 a.r.h, .slice a2 a.r.args.length c2] 142)).alloc (.cells #[.bool l.neg, .int .i64 l.l.h, .slice a3 l.l.args.length c3, .int .i64 l.r.h, .slice a4 l.r.args.length c4] 142)).heap[w.heap.size]? = some (.cells #[.bool a.neg, .int .i64 a.l.h, .slice a1 a.l.args.length c1, .int .i64 a.r.h, .slice a2 a.r.args.length c2] 142 (0, 0)) := (Below.heap_alloc _ _ _ (by simp)).trans (World.alloc_heap_new _ _)
  have kT : ((w.alloc (.cells #[.bool a.neg, .int .i64 a.l.h, .slice a1 a.l.args.length c1, .int .i64 a.r.h, .slice a2 a.r.args.length c2] 142)).alloc (.cells #[.bool l.neg, .int .i64 l.l.h, .slice a3 l.l.args.length c3, .int .i64 l.r.h, .slice a4 l.r.args.length c4] 142)).heap[w.heap.size + 1]? = some (.cells #[.bool l.neg, .int .i64 l.l.h, .slice a3 l.l.args.length c3, .int .i64 l.r.h, .slice a4 l.r.args.length c4] 142 (0, 0)) := by
    have h := World.alloc_heap_new (w.alloc (.cells #[.bool a.neg, .int .i64 a.l.h, .slice a1 a.l.args.length c1, .int .i64 a.r.h, .slice a2 a.r.args.length c2] 142)) (.cells #[.bool l.neg, .int .i64 l.l.h, .slice a3 l.l.args.length c3, .int .i64 l.r.h, .slice a4 l.r.args.length c4] 142)
    rw [World.size_alloc] at h
    exact h
  have HW1 := hide hW1
  have HKP := hide kP
  have HKT := hide kT
  have H1 := hide h1
  have H2 := hide h2
  have H3 := hide h3
  have H4 := hide h4
  have HM := hide hm
  have HDO := hide hdo
  obtain ⟨z0, z1, z2, z3, z4⟩ := box5 kP
  obtain ⟨y0, y1, y2, y3, y4⟩ := box5 kT
  clear hW1 kP kT h1 h2 h3 h4 hm hdo
  rw [show ltV a (.slice a1 a.l.args.length c1) (.slice a2 a.r.args.length c2) = .agg #[.bool a.neg, .int .i64 a.l.h, .slice a1 a.l.args.length c1, .int .i64 a.r.h, .slice a2 a.r.args.length c2] from rfl, show ltV l (.slice a3 l.l.args.length c3) (.slice a4 l.r.args.length c4) = .agg #[.bool l.neg, .int .i64 l.l.h, .slice a3 l.l.args.length c3, .int .i64 l.r.h, .slice a4 l.r.args.length c4] from rfl]
  go_enter Try.func166, Try.ntmps166
  go_wp2
  generalize hV : (w.alloc (.cells #[.bool a.neg, .int .i64 a.l.h, .slice a1 a.l.args.length c1, .int .i64 a.r.h, .slice a2 a.r.args.length c2] 142)).alloc (.cells #[.bool l.neg, .int .i64 l.l.h, .slice a3 l.l.args.length c3, .int .i64 l.r.h, .slice a4 l.r.args.length c4] 142) = V at *
  have hVs : V.heap.size = w.heap.size + 2 := by rw [← hV]; simp [World.size_alloc]
  have HV := hide hV
  clear hV z0 z1 z2 z3 z4 y0 y1 y2 y3 y4
  have hS : ∀ W' : World, W'.heap[w.heap.size]? = some (.cells #[.bool a.neg, .int .i64 a.l.h, .slice a1 a.l.args.length c1, .int .i64 a.r.h, .slice a2 a.r.args.length c2] 142 (0, 0)) → W'.heap[w.heap.size + 1]? = some (.cells #[.bool l.neg, .int .i64 l.l.h, .slice a3 l.l.args.length c3, .int .i64 l.r.h, .slice a4 l.r.args.length c4] 142 (0, 0)) →
      (W'.cell? ⟨w.heap.size, 0, none⟩ = some (.bool a.neg) ∧ W'.cell? ⟨w.heap.size, 1, none⟩ = some (.int .i64 a.l.h) ∧ W'.cell? ⟨w.heap.size, 2, none⟩ = some (.slice a1 a.l.args.length c1) ∧ W'.cell? ⟨w.heap.size, 3, none⟩ = some (.int .i64 a.r.h) ∧ W'.cell? ⟨w.heap.size, 4, none⟩ = some (.slice a2 a.r.args.length c2)) ∧
      (W'.cell? ⟨w.heap.size + 1, 0, none⟩ = some (.bool l.neg) ∧ W'.cell? ⟨w.heap.size + 1, 1, none⟩ = some (.int .i64 l.l.h) ∧ W'.cell? ⟨w.heap.size + 1, 2, none⟩ = some (.slice a3 l.l.args.length c3) ∧ W'.cell? ⟨w.heap.size + 1, 3, none⟩ = some (.int .i64 l.r.h) ∧ W'.cell? ⟨w.heap.size + 1, 4, none⟩ = some (.slice a4 l.r.args.length c4)) := fun W' e1 e2 => ⟨box5 e1, box5 e2⟩
  have HS := hide hS
  clear hS
  refine drawn_tree (fun W' : World => (W'.cell? ⟨w.heap.size, 0, none⟩ = some (.bool a.neg) ∧ W'.cell? ⟨w.heap.size, 1, none⟩ = some (.int .i64 a.l.h) ∧ W'.cell? ⟨w.heap.size, 2, none⟩ = some (.slice a1 a.l.args.length c1) ∧ W'.cell? ⟨w.heap.size, 3, none⟩ = some (.int .i64 a.r.h) ∧ W'.cell? ⟨w.heap.size, 4, none⟩ = some (.slice a2 a.r.args.length c2)) ∧
      (W'.cell? ⟨w.heap.size + 1, 0, none⟩ = some (.bool l.neg) ∧ W'.cell? ⟨w.heap.size + 1, 1, none⟩ = some (.int .i64 l.l.h) ∧ W'.cell? ⟨w.heap.size + 1, 2, none⟩ = some (.slice a3 l.l.args.length c3) ∧ W'.cell? ⟨w.heap.size + 1, 3, none⟩ = some (.int .i64 l.r.h) ∧ W'.cell? ⟨w.heap.size + 1, 4, none⟩ = some (.slice a4 l.r.args.length c4)))
    (.take 0 (.take 2 (.one 1 (.one 3 (.take 4 .done))))) (by kernel_rfl) (by kernel_rfl) (by kernel_rfl) (by kernel_rfl) (fun _ _ _ _ _ h => h) (HS.out _ HKP.out HKT.out) ?_
  have g0 := (Below.refl V.heap.size V).drew
  have KP0 := (g0.block w.heap.size (by omega)).trans HKP.out
  have KT0 := (g0.block (w.heap.size + 1) (by omega)).trans HKT.out
  have G0 := hide g0
  clear g0
  generalize V.drew = V0 at *
  iterate 2 (refine t_take (v := ?_) rfl (by rfl) ?_ ?_; rotate_left; (intro w hS; obtain ⟨⟨S1, S2, S3, S4, S5⟩, S6, S7, S8, S9, S10⟩ := hS; go_simp; try with_reducible rfl); simp only [Act.put, List.setIfInBounds_toArray, List.set_cons_zero, List.set_cons_succ])
  refine t_one rfl (by rfl) ?_
  intro K hK
  go_simp
  refine (kind_calls a _ _ V0).mono ?_
  rintro e V1 ⟨rfl, bb1⟩
  have l0 := G0.out.size
  have KP1 := (bb1.block w.heap.size (by omega)).trans KP0
  have KT1 := (bb1.block (w.heap.size + 1) (by omega)).trans KT0
  have G1 := hide (more_below G0.out bb1)
  refine hK.out _ _ (HS.out _ KP1 KT1) ?_
  clear hK K bb1 KP0 KT0 l0
  refine t_one rfl (by rfl) ?_
  intro K hK
  go_simp
  refine (kind_calls l _ _ V1).mono ?_
  rintro e V2 ⟨rfl, bb2⟩
  have l1 := G1.out.size
  have KP2 := (bb2.block w.heap.size (by omega)).trans KP1
  have KT2 := (bb2.block (w.heap.size + 1) (by omega)).trans KT1
  have G2 := hide (more_below G1.out bb2)
  refine hK.out _ _ (HS.out _ KP2 KT2) ?_
  clear hK K bb2 KP1 KT1 l1 G0 G1
  generalize kindP a = ka
  generalize kindP l = kl
  iterate 1 (refine t_take (v := ?_) rfl (by rfl) ?_ ?_; rotate_left; (intro w hS; obtain ⟨⟨S1, S2, S3, S4, S5⟩, S6, S7, S8, S9, S10⟩ := hS; go_simp; try with_reducible rfl); simp only [Act.put, List.setIfInBounds_toArray, List.set_cons_zero, List.set_cons_succ])
  refine t_done ?_
  have HB2 := hide (HW1.out.trans ((HV.out ▸ G2.out : Below V.heap.size V V2).mono (by omega)))
  obtain ⟨⟨z0, z1, z2, z3, z4⟩, y0, y1, y2, y3, y4⟩ := HS.out _ KP2 KT2
  have HKP2 := hide KP2
  have HKT2 := hide KT2
  clear KP2 KT2 HKP HKT
  generalize (!(ka == kl)) = kk
  cases kk
  rotate_left
  · go_wp2
    go_ret
    exact ⟨false, rfl, HB2.out, fun h => by cases h⟩
  go_wp2
  have hal4 : Below V2.heap.size V2 (V2.alloc (.cells #[.int .i64 l.l.h, .slice a3 l.l.args.length c3, .int .i64 l.r.h, .slice a4 l.r.args.length c4, .int .i64 l.r.h, .slice a4 l.r.args.length c4, .int .i64 l.l.h, .slice a3 l.l.args.length c3] 225)) := (Below.refl _ _).alloc (Nat.le_refl _) _
  have k4 := World.alloc_heap_new V2 (.cells #[.int .i64 l.l.h, .slice a3 l.l.args.length c3, .int .i64 l.r.h, .slice a4 l.r.args.length c4, .int .i64 l.r.h, .slice a4 l.r.args.length c4, .int .i64 l.l.h, .slice a3 l.l.args.length c3] 225)
  have HB4 := hide (more_below HB2.out hal4)
  have HV4 := hide ((Below.refl V2.heap.size V2).trans (hal4.mono (Nat.le_refl _)))
  have HK4 := hide k4
  have hs4 : (V2.alloc (.cells #[.int .i64 l.l.h, .slice a3 l.l.args.length c3, .int .i64 l.r.h, .slice a4 l.r.args.length c4, .int .i64 l.r.h, .slice a4 l.r.args.length c4, .int .i64 l.l.h, .slice a3 l.l.args.length c3] 225)).heap.size = V2.heap.size + 1 := by rw [World.size_alloc]
  have hv2 := HB2.out.size
  have hv3 : w.heap.size + 1 < V2.heap.size := (Array.getElem?_eq_some_iff.1 HKT2.out).1
  clear hal4 k4 z0 z1 z2 z3 z4 y0 y1 y2 y3 y4
  generalize V2.alloc (.cells #[.int .i64 l.l.h, .slice a3 l.l.args.length c3, .int .i64 l.r.h, .slice a4 l.r.args.length c4, .int .i64 l.r.h, .slice a4 l.r.args.length c4, .int .i64 l.l.h, .slice a3 l.l.args.length c3] 225) = V4 at *
  have HS4 := hide hs4
  have HT1 := hide (H1.out.bar (B := fun b => w.heap.size ≤ b ∨ A b) fun b hlt hb => by rcases hb with hb | hb; omega; exact hb)
  have HT2 := hide (H2.out.bar (B := fun b => w.heap.size ≤ b ∨ A b) fun b hlt hb => by rcases hb with hb | hb; omega; exact hb)
  have HT3 := hide (H3.out.bar (B := fun b => w.heap.size ≤ b ∨ A b) fun b hlt hb => by rcases hb with hb | hb; omega; exact hb)
  have HT4 := hide (H4.out.bar (B := fun b => w.heap.size ≤ b ∨ A b) fun b hlt hb => by rcases hb with hb | hb; omega; exact hb)
  have HM2 := hide (HM.out.bar (B := fun b => w.heap.size ≤ b ∨ A b) fun b hlt hb => by rcases hb with hb | hb; omega; exact hb)
  clear H1 H2 H3 H4 HM
  clear hs4
  go_loopw [30] (fun i wr => ∃ j : Nat, j ≤ 2 ∧ i = .int .i64 j ∧ Hid (Below w.heap.size w wr) ∧ Hid (Below V2.heap.size V2 wr) ∧ Hid (Below V4.heap.size V4 wr)) (fun i _ => 2 - (intOf i).toNat)
  case atStart => exact ⟨0, by omega, rfl, HB4, HV4, hide (Below.refl _ _)⟩
  case round =>
    obtain ⟨j, hj, rfl, HBW, HVW, H4W⟩ := hrel
    have h4w := H4W.out.size
    have k9 := (H4W.out.block V2.heap.size (by have := HS4.out; omega)).trans HK4.out
    obtain ⟨y0, y1, y2, y3, y4, y5, y6, y7⟩ := box8 k9
    clear k9
    by_cases hj2 : j = 2
    · subst hj2
      have hdd : decide ((2 : Int) < 2) = false := rfl
      go_wp2
      go_ret
      exact ⟨false, rfl, HBW.out, fun h => by cases h⟩
    · rcases (show j = 0 ∨ j = 1 by omega) with hj0 | hj1
      · subst hj0
        have hal : Below wr.heap.size wr (wr.alloc (.cells #[.int .i64 l.l.h, .slice a3 l.l.args.length c3, .int .i64 l.r.h, .slice a4 l.r.args.length c4] 225)) := (Below.refl _ _).alloc (Nat.le_refl _) _
        have kb := World.alloc_heap_new wr (.cells #[.int .i64 l.l.h, .slice a3 l.l.args.length c3, .int .i64 l.r.h, .slice a4 l.r.args.length c4] 225)
        have HKB := hide kb
        have HW5 := hide (more_below HBW.out hal)
        have HV5 := hide (more_below HVW.out hal)
        have H45 := hide (more_below H4W.out hal)
        obtain ⟨z0, z1, z2, z3⟩ := box4 kb
        obtain ⟨⟨z4, z5, z6, z7, z8⟩, z9⟩ := HS.out _ ((HV5.out.block w.heap.size (by omega)).trans HKP2.out) ((HV5.out.block (w.heap.size + 1) (by omega)).trans HKT2.out)
        clear kb hal HBW HVW H4W
        have hrs := HW5.out.size
        go_wp2_with fail
        generalize hW5 : wr.alloc (.cells #[.int .i64 l.l.h, .slice a3 l.l.args.length c3, .int .i64 l.r.h, .slice a4 l.r.args.length c4] 225) = W5 at *
        have HWE := hide hW5
        clear hW5 z0 z1 z2 z3 z4 z5 z6 z7 z8 z9
        refine (with_calls (fun b => w.heap.size ≤ b ∨ A b) a.l l.l f0 m0 _ _ _ _ W5 ha.1.1 hl.1 ha.2.1 hesz ⟨rfl, HT1.out.below HW5.out⟩ ⟨rfl, HT3.out.below HW5.out⟩ (HM2.out.below HW5.out)).mono ?_
        rintro e W6 ⟨b6, rfl | ⟨nb, f, hnb, rfl, hme, hwi, hmk, hes⟩⟩
        · have HW6 := hide (more_below HW5.out b6)
          have HV6 := hide (more_below HV5.out b6)
          have H46 := hide (more_below H45.out b6)
          clear b6
          have hq2 := run_neq_map_nil (P := Try.prog) W6 162 _ _ none Try.underlying162
          go_wp2
          go_roundw
          case rel => exact ⟨0 + 1, by omega, by go_num, HW6, HV6, H46⟩
          case measure => simp [intOf]
        have HW6 := hide (more_below HW5.out b6)
        have HV6 := hide (more_below HV5.out b6)
        have H46 := hide (more_below H45.out b6)
        have HKB6 := hide ((b6.block _ (Array.getElem?_eq_some_iff.1 HKB.out).1).trans HKB.out)
        have hq2 := run_neq_map_nil (P := Try.prog) W6 162 _ _ (some nb) Try.underlying162
        obtain ⟨z0, z1, z2, z3⟩ := box4 HKB6.out
        obtain ⟨⟨z4, z5, z6, z7, z8⟩, z9⟩ := HS.out _ ((HV6.out.block w.heap.size (by omega)).trans HKP2.out) ((HV6.out.block (w.heap.size + 1) (by omega)).trans HKT2.out)
        have HME := hide (MapEnv.bar (B := fun b => w.heap.size ≤ b ∨ A b) hme fun b hlt hb => .inr hb)
        have HF := hide (And.intro hwi hmk)
        clear b6 hme hwi hmk hnb
        go_wp2_with fail
        clear z0 z1 z2 z3 z4 z5 z6 z7 z8 z9
        refine (with_calls (fun b => w.heap.size ≤ b ∨ A b) a.r l.r f nb _ _ _ _ W6 ha.1.2 hl.2 ha.2.2 hes ⟨rfl, HT2.out.below HW6.out⟩ ⟨rfl, HT4.out.below HW6.out⟩ HME.out).mono ?_
        rintro e W7 ⟨b7, rfl | ⟨nb2, f2, hnb2, rfl, hme2, hwi2, hmk2, hes2⟩⟩
        · have HW7 := hide (more_below HW6.out b7)
          have HV7 := hide (more_below HV6.out b7)
          have H47 := hide (more_below H46.out b7)
          clear b7
          have hq3 := run_neq_map_nil (P := Try.prog) W7 162 _ _ none Try.underlying162
          go_wp2
          go_roundw
          case rel => exact ⟨0 + 1, by omega, by go_num, HW7, HV7, H47⟩
          case measure => simp [intOf]
        have HW7 := hide (more_below HW6.out b7)
        have HV7 := hide (more_below HV6.out b7)
        have H47 := hide (more_below H46.out b7)
        have hq3 := run_neq_map_nil (P := Try.prog) W7 162 _ _ (some nb2) Try.underlying162
        have HF2 := hide (show Within f0 f2 ∧ SidesM f2 a l from ⟨fun v t h => hwi2 v t (HF.out.1 v t h), .inl ⟨makes_mono hwi2 HF.out.2, hmk2⟩⟩)
        have HDC := hide (HDO.out nb2 f2 W7 (Nat.le_trans HW6.out.size hnb2) HW7.out HW7.out.size (hme2.bar fun b hlt hb => .inr hb) hes2)
        clear b7 hme2 hwi2 hmk2 hnb2 hes2 HF HME
        go_wp2_with fail
        refine HDC.out.mono ?_
        rintro e W8 ⟨r, rfl, b8, hr⟩
        have HW8 := hide (more_below HW7.out b8)
        have HV8 := hide (more_below HV7.out b8)
        have H48 := hide (more_below H47.out b8)
        have HR := hide hr
        clear b8 hr HDC
        cases r
        · go_wp2
          go_roundw
          case rel => exact ⟨0 + 1, by omega, by go_num, HW8, HV8, H48⟩
          case measure => simp [intOf]
        · go_wp2
          go_ret
          exact ⟨true, rfl, HW8.out, fun _ => ⟨f2, HF2.out.1, HF2.out.2, HR.out (by first | exact trivial | rfl)⟩⟩
      · subst hj1
        have hal : Below wr.heap.size wr (wr.alloc (.cells #[.int .i64 l.r.h, .slice a4 l.r.args.length c4, .int .i64 l.l.h, .slice a3 l.l.args.length c3] 225)) := (Below.refl _ _).alloc (Nat.le_refl _) _
        have kb := World.alloc_heap_new wr (.cells #[.int .i64 l.r.h, .slice a4 l.r.args.length c4, .int .i64 l.l.h, .slice a3 l.l.args.length c3] 225)
        have HKB := hide kb
        have HW5 := hide (more_below HBW.out hal)
        have HV5 := hide (more_below HVW.out hal)
        have H45 := hide (more_below H4W.out hal)
        obtain ⟨z0, z1, z2, z3⟩ := box4 kb
        obtain ⟨⟨z4, z5, z6, z7, z8⟩, z9⟩ := HS.out _ ((HV5.out.block w.heap.size (by omega)).trans HKP2.out) ((HV5.out.block (w.heap.size + 1) (by omega)).trans HKT2.out)
        clear kb hal HBW HVW H4W
        have hrs := HW5.out.size
        go_wp2_with fail
        generalize hW5 : wr.alloc (.cells #[.int .i64 l.r.h, .slice a4 l.r.args.length c4, .int .i64 l.l.h, .slice a3 l.l.args.length c3] 225) = W5 at *
        have HWE := hide hW5
        clear hW5 z0 z1 z2 z3 z4 z5 z6 z7 z8 z9
        refine (with_calls (fun b => w.heap.size ≤ b ∨ A b) a.l l.r f0 m0 _ _ _ _ W5 ha.1.1 hl.2 ha.2.1 hesz ⟨rfl, HT1.out.below HW5.out⟩ ⟨rfl, HT4.out.below HW5.out⟩ (HM2.out.below HW5.out)).mono ?_
        rintro e W6 ⟨b6, rfl | ⟨nb, f, hnb, rfl, hme, hwi, hmk, hes⟩⟩
        · have HW6 := hide (more_below HW5.out b6)
          have HV6 := hide (more_below HV5.out b6)
          have H46 := hide (more_below H45.out b6)
          clear b6
          have hq2 := run_neq_map_nil (P := Try.prog) W6 162 _ _ none Try.underlying162
          go_wp2
          go_roundw
          case rel => exact ⟨1 + 1, by omega, by go_num, HW6, HV6, H46⟩
          case measure => simp [intOf]
        have HW6 := hide (more_below HW5.out b6)
        have HV6 := hide (more_below HV5.out b6)
        have H46 := hide (more_below H45.out b6)
        have HKB6 := hide ((b6.block _ (Array.getElem?_eq_some_iff.1 HKB.out).1).trans HKB.out)
        have hq2 := run_neq_map_nil (P := Try.prog) W6 162 _ _ (some nb) Try.underlying162
        obtain ⟨z0, z1, z2, z3⟩ := box4 HKB6.out
        obtain ⟨⟨z4, z5, z6, z7, z8⟩, z9⟩ := HS.out _ ((HV6.out.block w.heap.size (by omega)).trans HKP2.out) ((HV6.out.block (w.heap.size + 1) (by omega)).trans HKT2.out)
        have HME := hide (MapEnv.bar (B := fun b => w.heap.size ≤ b ∨ A b) hme fun b hlt hb => .inr hb)
        have HF := hide (And.intro hwi hmk)
        clear b6 hme hwi hmk hnb
        go_wp2_with fail
        clear z0 z1 z2 z3 z4 z5 z6 z7 z8 z9
        refine (with_calls (fun b => w.heap.size ≤ b ∨ A b) a.r l.l f nb _ _ _ _ W6 ha.1.2 hl.1 ha.2.2 hes ⟨rfl, HT2.out.below HW6.out⟩ ⟨rfl, HT3.out.below HW6.out⟩ HME.out).mono ?_
        rintro e W7 ⟨b7, rfl | ⟨nb2, f2, hnb2, rfl, hme2, hwi2, hmk2, hes2⟩⟩
        · have HW7 := hide (more_below HW6.out b7)
          have HV7 := hide (more_below HV6.out b7)
          have H47 := hide (more_below H46.out b7)
          clear b7
          have hq3 := run_neq_map_nil (P := Try.prog) W7 162 _ _ none Try.underlying162
          go_wp2
          go_roundw
          case rel => exact ⟨1 + 1, by omega, by go_num, HW7, HV7, H47⟩
          case measure => simp [intOf]
        have HW7 := hide (more_below HW6.out b7)
        have HV7 := hide (more_below HV6.out b7)
        have H47 := hide (more_below H46.out b7)
        have hq3 := run_neq_map_nil (P := Try.prog) W7 162 _ _ (some nb2) Try.underlying162
        have HF2 := hide (show Within f0 f2 ∧ SidesM f2 a l from ⟨fun v t h => hwi2 v t (HF.out.1 v t h), .inr ⟨makes_mono hwi2 HF.out.2, hmk2⟩⟩)
        have HDC := hide (HDO.out nb2 f2 W7 (Nat.le_trans HW6.out.size hnb2) HW7.out HW7.out.size (hme2.bar fun b hlt hb => .inr hb) hes2)
        clear b7 hme2 hwi2 hmk2 hnb2 hes2 HF HME
        go_wp2_with fail
        refine HDC.out.mono ?_
        rintro e W8 ⟨r, rfl, b8, hr⟩
        have HW8 := hide (more_below HW7.out b8)
        have HV8 := hide (more_below HV7.out b8)
        have H48 := hide (more_below H47.out b8)
        have HR := hide hr
        clear b8 hr HDC
        cases r
        · go_wp2
          go_roundw
          case rel => exact ⟨1 + 1, by omega, by go_num, HW8, HV8, H48⟩
          case measure => simp [intOf]
        · go_wp2
          go_ret
          exact ⟨true, rfl, HW8.out, fun _ => ⟨f2, HF2.out.1, HF2.out.2, HR.out (by first | exact trivial | rfl)⟩⟩
end Go.Proofs.Ythplndalbfcbbaa
set_option linter.unusedSimpArgs false
set_option linter.unusedVariables false
namespace Go.Proofs.Ythplndalbfcbbaa
open Go.RowKit
def RowB (w : World) (b : Nat) (l : List Bool) : Prop := w.heap[b]? = some (.cells (l.map Value.bool).toArray 4 (0, 0))
theorem RowB.get {w : World} {b : Nat} {l : List Bool} (h : RowB w b l) (i : Nat) (hi : i < l.length) : w.cell? ⟨b, i, none⟩ = some (.bool l[i]) ∧ w.frozen? ⟨b, i, none⟩ = false := by
  simp only [RowB] at h
  exact ⟨by simp [World.cell?, h, hi], by simp [World.frozen?, h]⟩
theorem RowB.set {w : World} {b : Nat} {l : List Bool} (h : RowB w b l) (i : Nat) (v : Bool) : RowB (w.setCell ⟨b, i, none⟩ (.bool v)) b (l.set i v) := by
  simp only [RowB] at h ⊢
  simp [World.setCell, Array.getElem?_modify, h, List.map_set]
def SubP (d : List Lt) (σ : Env) : List Lt → List Bool → Prop
  | [], _ => True
  | a :: c, u => ∃ k, ∃ h : k < d.length, u.getD k true = false ∧ a.neg = d[k].neg ∧ SidesM σ a d[k] ∧ SubP d σ c (u.set k true)
def LtOk (x : Lt) : Prop := (x.l.size ≤ 1000000 ∧ x.r.size ≤ 1000000) ∧ x.l.good = true ∧ x.r.good = true
theorem below_restore {B ub : Nat} {w w' : World} (hk : Keep (fun b => b ≠ ub) w w') (h : w'.heap[ub]? = w.heap[ub]?) (hB : B ≤ w.heap.size) : Below B w w' :=
  ⟨hk.os, hk.tape, hk.output, hk.size, fun b hb => by
    by_cases e : b = ub
    · subst e; exact h
    · exact hk.block b (by omega) e⟩
theorem Lits.tail {A : Nat → Prop} {w : World} {b off n cap : Nat} {x : Lt} {c : List Lt} (h : Lits A w (.slice (some ⟨b, off, none⟩) n cap) (x :: c)) (a : Option Addr) (cap' : Nat) (ha : 0 < c.length → a = some ⟨b, off + 5, none⟩) (hc : c.length ≤ cap') : Lits A w (.slice a c.length cap') c := by
  have h0 := h
  simp only [Lits, RepD] at h0 ⊢
  obtain ⟨a', n', c', h1, h2, h3, h4, h5⟩ := h0
  simp only [List.cons.injEq, and_true, Value.slice.injEq] at h1
  obtain ⟨rfl, rfl, rfl⟩ := h1
  simp only [List.length_map, List.length_cons] at h2
  refine ⟨a, c.length, cap', rfl, by simp, hc, by omega, fun hp => ?_⟩
  obtain ⟨b', off', e1, e2, e3, e4⟩ := h5 (by omega)
  simp only [Option.some.injEq, Addr.mk.injEq, and_true] at e1
  obtain ⟨rfl, rfl⟩ := e1
  simp only [List.map_cons, RepR] at e4
  exact ⟨b, off + 5, ha hp, e2, e3, e4.2⟩
theorem Lits.bar {A B : Nat → Prop} {w : World} {s : Value} {ls : List Lt} (h : Lits A w s ls) (hB : ∀ b, b < w.heap.size → B b → A b) : Lits B w s ls := RepD.bar h hB
theorem Lits.keepS {A S : Nat → Prop} {w w' : World} {s : Value} {ls : List Lt} (h : Lits A w s ls) (hk : Keep S w w') (hS : ∀ b, b < w.heap.size → ¬ A b → S b) : Lits A w' s ls := RepD.keep h hk hS
set_option maxHeartbeats 8000000 in
set_option maxRecDepth 100000 in
theorem all_calls (d : List Lt) (hd : ∀ x ∈ d, x.l.size ≤ 1000000 ∧ x.r.size ≤ 1000000) (hdl : d.length ≤ 1000) : ∀ (c : List Lt), (∀ x ∈ c, LtOk x) → c.length ≤ 1000 → ∀ (used : List Bool) (f0 : Env) (m0 pm ub nu cu : Nat) (sd sc : Value) (w : World), used.length = d.length → nu = d.length → cu = d.length → (∀ v t, f0 v = some t → t.size ≤ 1000000000) →
    w.heap[pm]? = some (.cells #[sd, .slice (some ⟨ub, 0, none⟩) nu cu] 160 (0, 0)) → RowB w ub used → Lits (fun b => b = ub) w sd d → Lits (fun b => b = ub) w sc c → MapEnv (fun b => b = ub) w m0 f0 → pm ≠ ub → m0 ≠ ub →
    Calls Try.prog 135 #[.pointer (some ⟨pm, 0, none⟩), sc, .map (some m0)] w fun e w' => DoPost (∃ σ, Within f0 σ ∧ SubP d σ c used) w e w' := by
  intro c
  induction c with
  | nil =>
    intro hok h1000 used f0 m0 pm ub nu cu sd sc w hul hnu hcu hes hpm hrow hld hlc hme hne1 hne2
    obtain ⟨ac, cc, rfl, -, -⟩ := hlc.shape
    have HB := hide (show Below w.heap.size w ((w.alloc (.cells #[.pointer (some ⟨pm, 0, none⟩)] 157)).alloc (.cells #[.slice ac 0 cc] 63)) from ((Below.refl _ _).alloc (Nat.le_refl _) _).alloc (by simp) _)
    have k1 : ((w.alloc (.cells #[.pointer (some ⟨pm, 0, none⟩)] 157)).alloc (.cells #[.slice ac 0 cc] 63)).heap[w.heap.size + 1]? = some (.cells #[.slice ac 0 cc] 63 (0, 0)) := by
      have h := World.alloc_heap_new (w.alloc (.cells #[.pointer (some ⟨pm, 0, none⟩)] 157)) (.cells #[.slice ac 0 cc] 63)
      rw [World.size_alloc] at h
      exact h
    obtain ⟨-, z0, -⟩ := box1 k1
    clear hpm hrow hld hlc hme k1
    go_enter Try.func135, Try.ntmps135
    go_wp2
    go_ret
    exact ⟨true, rfl, HB.out, fun _ => ⟨f0, fun _ _ h => h, trivial⟩⟩
  | cons a c ih =>
    intro hok h1000 used f0 m0 pm ub nu cu sd sc w hul hnu hcu hes hpm hrow hld hlc hme hne1 hne2
    subst hnu hcu
    obtain ⟨ac, cc, rfl, -, -⟩ := hlc.shape
    rw [List.length_cons] at hlc ⊢
    obtain ⟨ad, cd, rfl, -, -⟩ := hld.shape
    obtain ⟨bc, oc, a1, c1, a2, c2, rfl, hbc, hbcA, q0, q1, q2, q3, q4, t1, t2⟩ := hlc.get 0 (by simp)
    rw [show oc + 0 * 5 = oc by omega] at q0 q1 q2 q3 q4
    simp only [List.getElem_cons_zero] at q0 q1 q2 q3 q4 t1 t2
    have hpmb := (Array.getElem?_eq_some_iff.1 hpm).1
    have hubb := (Array.getElem?_eq_some_iff.1 hrow).1
    have hW1 : Below w.heap.size w ((w.alloc (.cells #[.pointer (some ⟨pm, 0, none⟩)] 157)).alloc (.cells #[.slice (some ⟨bc, oc, none⟩) (c.length + 1) cc] 63)) := ((Below.refl _ _).alloc (Nat.le_refl _) _).alloc (by simp) _
    have k0 : ((w.alloc (.cells #[.pointer (some ⟨pm, 0, none⟩)] 157)).alloc (.cells #[.slice (some ⟨bc, oc, none⟩) (c.length + 1) cc] 63)).heap[w.heap.size]? = some (.cells #[.pointer (some ⟨pm, 0, none⟩)] 157 (0, 0)) := (Below.heap_alloc _ _ _ (by simp)).trans (World.alloc_heap_new _ _)
    have k1 : ((w.alloc (.cells #[.pointer (some ⟨pm, 0, none⟩)] 157)).alloc (.cells #[.slice (some ⟨bc, oc, none⟩) (c.length + 1) cc] 63)).heap[w.heap.size + 1]? = some (.cells #[.slice (some ⟨bc, oc, none⟩) (c.length + 1) cc] 63 (0, 0)) := by
      have h := World.alloc_heap_new (w.alloc (.cells #[.pointer (some ⟨pm, 0, none⟩)] 157)) (.cells #[.slice (some ⟨bc, oc, none⟩) (c.length + 1) cc] 63)
      rw [World.size_alloc] at h
      exact h
    have hs1 : ((w.alloc (.cells #[.pointer (some ⟨pm, 0, none⟩)] 157)).alloc (.cells #[.slice (some ⟨bc, oc, none⟩) (c.length + 1) cc] 63)).heap.size = w.heap.size + 2 := by simp [World.size_alloc]
    obtain ⟨-, z0, -⟩ := box1 k0
    obtain ⟨-, z1, -⟩ := box1 k1
    obtain ⟨-, y0, y1, -, -⟩ := box2 ((hW1.block pm hpmb).trans hpm)
    have HW1 := hide hW1
    have HK0 := hide k0
    have HK1 := hide k1
    have HPM := hide hpm
    have HROW := hide hrow
    have HLD := hide hld
    have HLC := hide hlc
    have HME := hide hme
    have HT1 := hide t1
    have HT2 := hide t2
    have HS1 := hide hs1
    have HIH := hide ih
    clear hW1 k0 k1 hpm hrow hld hlc hme t1 t2 hs1 ih
    have hce : ((c.length : Int) + 1 == 0) = false := by simp; omega
    go_enter Try.func135, Try.ntmps135
    go_wp2
    generalize hV : (w.alloc (.cells #[.pointer (some ⟨pm, 0, none⟩)] 157)).alloc (.cells #[.slice (some ⟨bc, oc, none⟩) (c.length + 1) cc] 63) = V at *
    have hvs := HS1.out
    have HVE := hide hV
    clear hV z0 z1 y0 y1
    go_loopw [18] (fun i wr => ∃ j : Nat, j ≤ d.length ∧ i = .int .i64 j ∧ Hid (Below V.heap.size V wr)) (fun i _ => d.length - (intOf i).toNat)
    case atStart => exact ⟨0, by omega, rfl, hide (Below.refl _ _)⟩
    case round =>
      obtain ⟨j, hj, rfl, HBW⟩ := hrel
      have hbw := HW1.out.trans (HBW.out.mono (show w.heap.size ≤ V.heap.size by omega))
      by_cases hlt : j < d.length
      · obtain ⟨bd, od, a3, c3, a4, c4, rfl, hbd, hbdA, p0, p1, p2, p3, p4, t3, t4⟩ := HLD.out.get j hlt
        have P0 := (hbw.cell (p := ⟨bd, od + j * 5, none⟩) hbd).trans p0
        have P1 := (hbw.cell (p := ⟨bd, od + j * 5 + 1, none⟩) hbd).trans p1
        have P2 := (hbw.cell (p := ⟨bd, od + j * 5 + 2, none⟩) hbd).trans p2
        have P3 := (hbw.cell (p := ⟨bd, od + j * 5 + 3, none⟩) hbd).trans p3
        have P4 := (hbw.cell (p := ⟨bd, od + j * 5 + 4, none⟩) hbd).trans p4
        have HDX := hide (hd d[j] (List.getElem_mem hlt))
        have HXE := hide (show d[j] = d[j] from rfl)
        have HT3 := hide t3
        have HT4 := hide t4
        have hju : j < used.length := by omega
        clear p0 p1 p2 p3 p4 t3 t4
        generalize hx : d[j] = x at HXE HDX HT3 HT4 P0 P1 P2 P3 P4
        have HX := hide hx
        have HUE := hide (show used[j] = used[j] from rfl)
        generalize huj : used[j] = uj at HUE
        have HUJ := hide huj
        have hal : Below wr.heap.size wr (wr.alloc (.cells #[.bool x.neg, .int .i64 x.l.h, .slice a3 x.l.args.length c3, .int .i64 x.r.h, .slice a4 x.r.args.length c4] 142)) := (Below.refl _ _).alloc (Nat.le_refl _) _
        have kb := World.alloc_heap_new wr (.cells #[.bool x.neg, .int .i64 x.l.h, .slice a3 x.l.args.length c3, .int .i64 x.r.h, .slice a4 x.r.args.length c4] 142)
        have hwr := HBW.out.size
        have HB2 := hide (hbw.trans (hal.mono hbw.size))
        have HV2 := hide (HBW.out.trans (hal.mono hwr))
        have HKB := hide kb
        have hs2 : (wr.alloc (.cells #[.bool x.neg, .int .i64 x.l.h, .slice a3 x.l.args.length c3, .int .i64 x.r.h, .slice a4 x.r.args.length c4] 142)).heap.size = wr.heap.size + 1 := by rw [World.size_alloc]
        have HS2 := hide hs2
        clear hal kb hs2 hx huj
        go_wp2
        generalize hW2 : wr.alloc (.cells #[.bool x.neg, .int .i64 x.l.h, .slice a3 x.l.args.length c3, .int .i64 x.r.h, .slice a4 x.r.args.length c4] 142) = W2 at *
        have HW2 := hide hW2
        clear hW2
        have hS : ∀ W : World, Below W2.heap.size W2 W → W.cell? ⟨w.heap.size, 0, none⟩ = some (.pointer (some ⟨pm, 0, none⟩)) ∧ W.cell? ⟨w.heap.size + 1, 0, none⟩ = some (.slice (some ⟨bc, oc, none⟩) (c.length + 1) cc) ∧ W.cell? ⟨pm, 1, none⟩ = some (.slice (some ⟨ub, 0, none⟩) d.length d.length) ∧ W.cell? ⟨ub, j, none⟩ = some (.bool uj) ∧ W.cell? ⟨bc, oc, none⟩ = some (.bool a.neg) ∧ W.cell? ⟨wr.heap.size, 0, none⟩ = some (.bool x.neg) := fun W hW => by
          obtain ⟨-, e1, -⟩ := box1 ((hW.block w.heap.size (by have := HS2.out; omega)).trans ((HV2.out.block w.heap.size (by omega)).trans HK0.out))
          obtain ⟨-, e2, -⟩ := box1 ((hW.block (w.heap.size + 1) (by have := HS2.out; omega)).trans ((HV2.out.block (w.heap.size + 1) (by omega)).trans HK1.out))
          obtain ⟨-, -, e3, -, -⟩ := box2 ((hW.block pm (by have := HS2.out; omega)).trans ((HB2.out.block pm hpmb).trans HPM.out))
          have e4 := (RowB.get (show RowB W ub used from (hW.block ub (by have := HS2.out; omega)).trans ((HB2.out.block ub hubb).trans HROW.out)) j hju).1
          rw [HUJ.out] at e4
          have e5 := (hW.cell (p := ⟨bc, oc, none⟩) (by have := HS2.out; simp only; omega)).trans ((HB2.out.cell (p := ⟨bc, oc, none⟩) hbc).trans q0)
          obtain ⟨e6, -⟩ := box5 ((hW.block wr.heap.size (by have := HS2.out; omega)).trans HKB.out)
          exact ⟨e1, e2, e3, e4, e5, e6⟩
        have HSS := hide hS
        clear hS P0 P1 P2 P3 P4
        refine drawn_text (fun W : World => W.cell? ⟨w.heap.size, 0, none⟩ = some (.pointer (some ⟨pm, 0, none⟩)) ∧ W.cell? ⟨w.heap.size + 1, 0, none⟩ = some (.slice (some ⟨bc, oc, none⟩) (c.length + 1) cc) ∧ W.cell? ⟨pm, 1, none⟩ = some (.slice (some ⟨ub, 0, none⟩) d.length d.length) ∧ W.cell? ⟨ub, j, none⟩ = some (.bool uj) ∧ W.cell? ⟨bc, oc, none⟩ = some (.bool a.neg) ∧ W.cell? ⟨wr.heap.size, 0, none⟩ = some (.bool x.neg)) [false, false, false, false, false, false, false, false, false, false, false, false, false, false, false, false] [some 23, some 24, some 25, some 26, some 27, some 28, some 29, some 30, some 31, some 32, some 33, some 34, some 35, some 36, some 37, some 38] (by kernel_rfl) (by kernel_rfl) (by kernel_rfl) (by kernel_rfl) (by kernel_rfl) (fun _ _ _ _ _ h => h) (HSS.out _ (Below.refl _ _).drew) ?_
        have hjl : (j : Int) < (d.length : Int) := by omega
        have hcl : (0 : Int) < (c.length : Int) + 1 := by omega
        have gd := (Below.refl W2.heap.size W2).drew
        have HGD := hide gd
        have HS3 := hide (show W2.drew.heap.size = W2.heap.size from rfl)
        clear gd
        generalize W2.drew = W3 at *
        cases uj
        rotate_left
        · repeat (first
            | (refine txt_skip rfl ?_; simp only [Act.put, List.setIfInBounds_toArray, List.set_cons_zero, List.set_cons_succ])
            | (refine txt_take (v := ?_) rfl ?_ ?_; rotate_left; (intro w hS; obtain ⟨S1, S2, S3, S4, S5, S6⟩ := hS; go_simp; try with_reducible rfl); simp only [Act.put, List.setIfInBounds_toArray, List.set_cons_zero, List.set_cons_succ]))
          refine txt_done ?_
          have HBN := hide (HV2.out.trans (HGD.out.mono (show V.heap.size ≤ W2.heap.size by have := HS2.out; omega)))
          go_wp2
          go_roundw
          case rel => exact ⟨j + 1, by omega, by go_num, HBN⟩
          case measure => simp [intOf]; omega
        · repeat (first
            | (refine txt_skip rfl ?_; simp only [Act.put, List.setIfInBounds_toArray, List.set_cons_zero, List.set_cons_succ])
            | (refine txt_take (v := ?_) rfl ?_ ?_; rotate_left; (intro w hS; obtain ⟨S1, S2, S3, S4, S5, S6⟩ := hS; go_simp; try with_reducible rfl); simp only [Act.put, List.setIfInBounds_toArray, List.set_cons_zero, List.set_cons_succ]))
          refine txt_done ?_
          generalize hnn : (!(x.neg == a.neg)) = nn
          have HNN := hide hnn
          clear hnn
          cases nn
          rotate_left
          · have HBN := hide (HV2.out.trans (HGD.out.mono (show V.heap.size ≤ W2.heap.size by have := HS2.out; omega)))
            go_wp2
            go_roundw
            case rel => exact ⟨j + 1, by omega, by go_num, HBN⟩
            case measure => simp [intOf]; omega
          have HNE := hide (show a.neg = x.neg by
            have h := HNN.out
            simp at h
            exact h.symm)
          obtain ⟨S1, S2, S3, S4, S5, S6⟩ := HSS.out _ HGD.out
          have hs2 := HS2.out
          have hs3 := HGD.out.size
          have HB3 := hide (HB2.out.trans (HGD.out.mono HB2.out.size))
          have HV3 := hide (HV2.out.trans (HGD.out.mono (show V.heap.size ≤ W2.heap.size by omega)))
          have R3 : RowB W3 ub used := (HB3.out.block ub hubb).trans HROW.out
          have hfz := (R3.get j hju).2
          have R4 := R3.set j true
          have KM : Keep (fun b => b ≠ ub) W3 (W3.setCell ⟨ub, j, none⟩ (.bool true)) := (Keep.refl _ _).setCell (p := ⟨ub, j, none⟩) (by simp) (.bool true)
          have HR4 := hide R4
          have HKM := hide KM
          clear R3 R4 KM
          go_wp2
          generalize hW4 : W3.setCell ⟨ub, j, none⟩ (.bool true) = W4 at *
          have HW4 := hide hW4
          clear hW4 S1 S2 S3 S4 S5 S6 hfz
          have hs4 := HKM.out.size
          have hS8 : ∀ W : World, Below W4.heap.size W4 W → W.cell? ⟨w.heap.size + 1, 0, none⟩ = some (.slice (some ⟨bc, oc, none⟩) (c.length + 1) cc) ∧ W.cell? ⟨bc, oc, none⟩ = some (.bool a.neg) ∧ W.cell? ⟨bc, oc + 1, none⟩ = some (.int .i64 a.l.h) ∧ W.cell? ⟨bc, oc + 2, none⟩ = some (.slice a1 a.l.args.length c1) ∧ W.cell? ⟨bc, oc + 3, none⟩ = some (.int .i64 a.r.h) ∧ W.cell? ⟨bc, oc + 4, none⟩ = some (.slice a2 a.r.args.length c2) ∧ W.cell? ⟨wr.heap.size, 0, none⟩ = some (.bool x.neg) ∧ W.cell? ⟨wr.heap.size, 1, none⟩ = some (.int .i64 x.l.h) ∧ W.cell? ⟨wr.heap.size, 2, none⟩ = some (.slice a3 x.l.args.length c3) ∧ W.cell? ⟨wr.heap.size, 3, none⟩ = some (.int .i64 x.r.h) ∧ W.cell? ⟨wr.heap.size, 4, none⟩ = some (.slice a4 x.r.args.length c4) := fun W hW => by
            obtain ⟨-, e2, -⟩ := box1 ((hW.block (w.heap.size + 1) (by omega)).trans (HKM.out.obj (by omega) ((HV3.out.block (w.heap.size + 1) (by omega)).trans HK1.out)))
            have hc : ∀ (o : Nat) (v : Value), w.cell? ⟨bc, o, none⟩ = some v → W.cell? ⟨bc, o, none⟩ = some v := fun o v h => (hW.cell (p := ⟨bc, o, none⟩) (by simp only; omega)).trans (HKM.out.cell (p := ⟨bc, o, none⟩) hbcA ((HB3.out.cell (p := ⟨bc, o, none⟩) hbc).trans h))
            obtain ⟨e6, e7, e8, e9, e10⟩ := box5 ((hW.block wr.heap.size (by omega)).trans (HKM.out.obj (by omega) ((HGD.out.block wr.heap.size (by omega)).trans HKB.out)))
            exact ⟨e2, hc _ _ q0, hc _ _ q1, hc _ _ q2, hc _ _ q3, hc _ _ q4, e6, e7, e8, e9, e10⟩
          have HS8 := hide hS8
          clear hS8
          refine drawn_tree (fun W : World => W.cell? ⟨w.heap.size + 1, 0, none⟩ = some (.slice (some ⟨bc, oc, none⟩) (c.length + 1) cc) ∧ W.cell? ⟨bc, oc, none⟩ = some (.bool a.neg) ∧ W.cell? ⟨bc, oc + 1, none⟩ = some (.int .i64 a.l.h) ∧ W.cell? ⟨bc, oc + 2, none⟩ = some (.slice a1 a.l.args.length c1) ∧ W.cell? ⟨bc, oc + 3, none⟩ = some (.int .i64 a.r.h) ∧ W.cell? ⟨bc, oc + 4, none⟩ = some (.slice a2 a.r.args.length c2) ∧ W.cell? ⟨wr.heap.size, 0, none⟩ = some (.bool x.neg) ∧ W.cell? ⟨wr.heap.size, 1, none⟩ = some (.int .i64 x.l.h) ∧ W.cell? ⟨wr.heap.size, 2, none⟩ = some (.slice a3 x.l.args.length c3) ∧ W.cell? ⟨wr.heap.size, 3, none⟩ = some (.int .i64 x.r.h) ∧ W.cell? ⟨wr.heap.size, 4, none⟩ = some (.slice a4 x.r.args.length c4)) (.take 0 (.take 1 (.take 2 (.take 3 (.take 4 (.take 5 (.one 6 (.take 7 .done)))))))) (by kernel_rfl) (by kernel_rfl) (by kernel_rfl) (by kernel_rfl) (fun _ _ _ _ _ h => h) (HS8.out _ (Below.refl _ _).drew) ?_
          have g5 := (Below.refl W4.heap.size W4).drew
          have HG5 := hide g5
          have hs5 : W4.drew.heap.size = W4.heap.size := rfl
          have K5 : Keep (fun b => b ≠ ub) w W4.drew := (Keep.of_below HB3.out).trans (HKM.out.trans (Keep.of_below g5))
          have HK5 := hide K5
          clear g5 K5
          generalize W4.drew = W5 at *
          iterate 6 (refine t_take (v := ?_) rfl (by rfl) ?_ ?_; rotate_left; (intro w hS; obtain ⟨S1, S2, S3, S4, S5, S6, S7, S8, S9, S10, S11⟩ := hS; go_simp; try with_reducible rfl); simp only [Act.put, List.setIfInBounds_toArray, List.set_cons_zero, List.set_cons_succ])
          refine t_one rfl (by rfl) ?_
          intro K hK
          go_simp
          have ha := hok a (by simp)
          refine (ways_calls (fun b => b = ub) a x f0 m0 w.heap.size (w.heap.size + 1) (.slice a1 a.l.args.length c1) (.slice a2 a.r.args.length c2) (.slice a3 x.l.args.length c3) (.slice a4 x.r.args.length c4) W5 (fun f => ∃ σ, Within f σ ∧ SubP d σ c (used.set j true)) ha HDX.out hes (HT1.out.keepS HK5.out fun _ _ h => h) (HT2.out.keepS HK5.out fun _ _ h => h) (HT3.out.keepS HK5.out fun _ _ h => h) (HT4.out.keepS HK5.out fun _ _ h => h) (HME.out.keep HK5.out hne2 fun _ _ h => h) ?_).mono ?_
          · intro nb f W hnb hB hle hme hes'
            have B1 : W.heap[w.heap.size]? = some (.cells #[.pointer (some ⟨pm, 0, none⟩)] 157 (0, 0)) := (hB.block _ (by omega)).trans ((HG5.out.block _ (by omega)).trans (HKM.out.obj (by omega) ((HV3.out.block _ (by omega)).trans HK0.out)))
            have B2 : W.heap[w.heap.size + 1]? = some (.cells #[.slice (some ⟨bc, oc, none⟩) (c.length + 1) cc] 63 (0, 0)) := (hB.block _ (by omega)).trans ((HG5.out.block _ (by omega)).trans (HKM.out.obj (by omega) ((HV3.out.block _ (by omega)).trans HK1.out)))
            have KW : Keep (fun b => b ≠ ub) w W := HK5.out.trans (Keep.of_below hB)
            have RW : RowB W ub (used.set j true) := (hB.block ub (by omega)).trans ((HG5.out.block ub (by omega)).trans HR4.out)
            have HB1' := hide B1
            have HB2' := hide B2
            have HKW := hide KW
            have HRW := hide RW
            have HMW := hide (MapEnv.bar (B := fun b => b = ub) hme fun b hlt hb => .inr hb)
            have HES := hide hes'
            have hbs := hB.size
            have gw := (Below.refl W.heap.size W).drew
            have HGW := hide gw
            have hcc : c.length + 1 ≤ cc := by
              obtain ⟨aq, cq, he, hq, -⟩ := HLC.out.shape
              simp only [Value.slice.injEq, List.length_cons] at he hq
              omega
            clear B1 B2 KW RW hme hes' gw
            go_enter Try.func167, Try.ntmps167
            go_wp2
            refine drawn_tree (fun W' : World => W'.cell? ⟨w.heap.size, 0, none⟩ = some (.pointer (some ⟨pm, 0, none⟩)) ∧ W'.cell? ⟨w.heap.size + 1, 0, none⟩ = some (.slice (some ⟨bc, oc, none⟩) (c.length + 1) cc)) (.take 0 (.take 1 (.take 2 (.take 3 (.one 4 (.take 5 .done)))))) (by kernel_rfl) (by kernel_rfl) (by kernel_rfl) (by kernel_rfl) (fun _ _ _ _ _ h => h) ⟨(box1 HB1'.out).2.1, (box1 HB2'.out).2.1⟩ ?_
            have h1c : (1 : Int) ≤ (c.length : Int) + 1 := by omega
            have HK9W := hide (HKW.out.trans (Keep.of_below (S := fun b => b ≠ ub) HGW.out))
            have HGWS := hide HGW.out.size
            generalize W.drew = W8 at *
            iterate 4 (refine t_take (v := ?_) rfl (by rfl) ?_ ?_; rotate_left; (intro w hS; obtain ⟨S1, S2⟩ := hS; go_simp; try with_reducible rfl); try simp only [Act.put, List.setIfInBounds_toArray, List.set_cons_zero, List.set_cons_succ])
            generalize hsa : (if cc = 1 then some (⟨bc, oc, none⟩ : Addr) else some ⟨bc, oc + 5, none⟩) = sa
            have HSA := hide hsa
            clear hsa
            refine t_one rfl (by rfl) ?_
            intro K9 hK9
            go_simp
            refine (HIH.out (fun y hy => hok y (by simp [hy])) (by simp only [List.length_cons] at h1000; omega) (used.set j true) f nb pm ub _ _ (.slice (some ⟨bd, od, none⟩) d.length cd) _ W8 (by simp [hul]) rfl rfl HES.out (HK9W.out.obj hne1 HPM.out) ((HGW.out.block ub (by omega)).trans HRW.out) (HLD.out.keepS HK9W.out fun _ _ h => h) ((Lits.tail HLC.out sa (cc - 1) (fun hp => by rw [← HSA.out]; exact if_neg (by omega)) (by omega)).keepS HK9W.out fun _ _ h => h) (HMW.out.below HGW.out) hne1 (by omega)).mono ?_
            rintro e W9 ⟨r, rfl, b9, hr⟩
            have HB9 := hide (more_below HGW.out b9)
            have HR9 := hide hr
            have g1 := HGWS.out
            refine hK9.out _ _ ⟨(box1 ((HB9.out.block _ (by omega)).trans HB1'.out)).2.1, (box1 ((HB9.out.block _ (by omega)).trans HB2'.out)).2.1⟩ ?_
            clear hK9 K9 b9 hr
            iterate 1 (refine t_take (v := ?_) rfl (by rfl) ?_ ?_; rotate_left; (intro w hS; obtain ⟨S1, S2⟩ := hS; go_simp; try with_reducible rfl); try simp only [Act.put, List.setIfInBounds_toArray, List.set_cons_zero, List.set_cons_succ])
            refine t_done ?_
            go_wp2
            go_ret
            exact ⟨r, rfl, HB9.out, HR9.out⟩
          rintro e W6 ⟨r, rfl, b6, hr⟩
          have HB6 := hide (more_below HG5.out b6)
          have HR6 := hide hr
          refine hK.out _ _ (HS8.out _ HB6.out) ?_
          clear hK K b6 hr
          iterate 1 (refine t_take (v := ?_) rfl (by rfl) ?_ ?_; rotate_left; (intro w hS; obtain ⟨S1, S2, S3, S4, S5, S6, S7, S8, S9, S10, S11⟩ := hS; go_simp; try with_reducible rfl); try simp only [Act.put, List.setIfInBounds_toArray, List.set_cons_zero, List.set_cons_succ])
          refine t_done ?_
          have hs6 := HB6.out.size
          have K6 : Keep (fun b => b ≠ ub) w W6 := (Keep.of_below HB3.out).trans (HKM.out.trans (Keep.of_below HB6.out))
          have B1 : W6.heap[w.heap.size]? = some (.cells #[.pointer (some ⟨pm, 0, none⟩)] 157 (0, 0)) := (HB6.out.block _ (by omega)).trans (HKM.out.obj (by omega) ((HV3.out.block _ (by omega)).trans HK0.out))
          have R6 : RowB W6 ub (used.set j true) := (HB6.out.block ub (by omega)).trans HR4.out
          have hset : (used.set j true).set j false = used := by
            rw [List.set_set]
            have h9 := HUJ.out
            conv => lhs; rw [← h9]
            exact List.set_getElem_self hju
          have R7 := R6.set j false
          rw [hset] at R7
          obtain ⟨-, z0, -⟩ := box1 B1
          obtain ⟨-, -, y1, -, -⟩ := box2 (K6.obj hne1 HPM.out)
          obtain ⟨hcl6, hfz⟩ := R6.get j (by simp; omega)
          have K7 : Keep (fun b => b ≠ ub) V (W6.setCell ⟨ub, j, none⟩ (.bool false)) := (Keep.of_below HV3.out).trans (HKM.out.trans ((Keep.of_below HB6.out).trans ((Keep.refl _ _).setCell (p := ⟨ub, j, none⟩) (by simp) (.bool false))))
          have HBV := hide (below_restore (B := V.heap.size) K7 (show (W6.setCell ⟨ub, j, none⟩ (.bool false)).heap[ub]? = V.heap[ub]? from (show (W6.setCell ⟨ub, j, none⟩ (.bool false)).heap[ub]? = _ from R7).trans ((show V.heap[ub]? = _ from (HW1.out.block ub hubb).trans HROW.out)).symm) (Nat.le_refl _))
          have HUJ2 := hide (show used.getD j true = false by rw [List.getD_eq_getElem?_getD, List.getElem?_eq_getElem hju, Option.getD_some, HUJ.out])
          clear K6 B1 R6 R7 hset K7
          cases r
          · go_wp2
            go_roundw
            case rel => exact ⟨j + 1, by omega, by go_num, HBV⟩
            case measure => simp [intOf]; omega
          · go_wp2
            go_ret
            refine ⟨true, rfl, HW1.out.trans (HBV.out.mono (by omega)), fun _ => ?_⟩
            obtain ⟨f, hwi, hsd, σ, h1, h2⟩ := HR6.out (by first | exact trivial | rfl)
            refine ⟨σ, fun v t h => h1 v t (hwi v t h), j, hlt, HUJ2.out, ?_, ?_, h2⟩
            · rw [HX.out]; exact HNE.out
            · rw [HX.out]; exact hsd.mono h1
      · obtain rfl : j = d.length := by omega
        go_wp2
        go_ret
        exact ⟨false, rfl, hbw, fun h => by cases h⟩
end Go.Proofs.Ythplndalbfcbbaa
set_option linter.unusedSimpArgs false
set_option linter.unusedVariables false
namespace Go.Proofs.Ythplndalbfcbbaa
open Go.RowKit
def oddP (x : Lt) : Bool := decide (chk x.l ≠ 0) || decide (chk x.r ≠ 0)
set_option maxHeartbeats 2000000 in
set_option maxRecDepth 100000 in
theorem odd_calls (x : Lt) (A : Nat → Prop) (s1 s2 : Value) (w : World) (hz : x.l.size ≤ 1000000000 ∧ x.r.size ≤ 1000000000) (h1 : Terms A w s1 x.l.args) (h2 : Terms A w s2 x.r.args) :
    Calls Try.prog 164 #[ltV x s1 s2] w fun e w' => e = .returned (.bool (oddP x)) ∧ Below w.heap.size w w' := by
  obtain ⟨a1, c1, rfl, -, -⟩ := h1.shape
  obtain ⟨a2, c2, rfl, -, -⟩ := h2.shape
  have hB : Below w.heap.size w (w.alloc (.cells #[.bool x.neg, .int .i64 x.l.h, .slice a1 x.l.args.length c1, .int .i64 x.r.h, .slice a2 x.r.args.length c2] 142)) := (Below.refl _ _).alloc (Nat.le_refl _) _
  have kb := World.alloc_heap_new w (.cells #[.bool x.neg, .int .i64 x.l.h, .slice a1 x.l.args.length c1, .int .i64 x.r.h, .slice a2 x.r.args.length c2] 142)
  have HB := hide hB
  have HKB := hide kb
  have H1 := hide h1
  have H2 := hide h2
  have HZ := hide hz
  have HO := hide (show oddP x = (decide (chk x.l ≠ 0) || decide (chk x.r ≠ 0)) from rfl)
  obtain ⟨z0, z1, z2, z3, z4⟩ := box5 kb
  rw [show ltV x (.slice a1 x.l.args.length c1) (.slice a2 x.r.args.length c2) = .agg #[.bool x.neg, .int .i64 x.l.h, .slice a1 x.l.args.length c1, .int .i64 x.r.h, .slice a2 x.r.args.length c2] from rfl]
  clear hB kb h1 h2 hz
  go_enter Try.func164, Try.ntmps164
  go_wp2_with fail
  clear z0 z1 z2 z3 z4
  refine (check_calls x.l A _ _ _ ⟨rfl, H1.out.below HB.out⟩ HZ.out.1).mono ?_
  rintro e w1 ⟨rfl, b1⟩
  have HB1 := hide (more_below HB.out b1)
  obtain ⟨z0, z1, z2, z3, z4⟩ := box5 ((b1.block _ (Array.getElem?_eq_some_iff.1 HKB.out).1).trans HKB.out)
  clear b1
  generalize hx1 : chk x.l = k1 at *
  by_cases h0 : k1 = 0
  rotate_left
  · have hne : (k1 != 0) = true := by simpa using h0
    have HR := hide (show true = oddP x by rw [HO.out]; simp [h0])
    clear h0 HO
    go_wp2
    go_ret
    exact ⟨ret_bool HR.out, HB1.out⟩
  subst h0
  go_wp2_with fail
  refine (check_calls x.r A _ _ _ ⟨rfl, H2.out.below HB1.out⟩ HZ.out.2).mono ?_
  rintro e w2 ⟨rfl, b2⟩
  have HB2 := hide (more_below HB1.out b2)
  clear b2 z0 z1 z2 z3 z4
  generalize hx2 : chk x.r = k2 at *
  have HR := hide (show (k2 != 0) = oddP x by rw [HO.out]; by_cases h : k2 = 0 <;> simp [h])
  clear HO hx1 hx2
  go_wp2
  go_ret
  exact ⟨ret_bool HR.out, HB2.out⟩
set_option maxHeartbeats 2000000 in
set_option maxRecDepth 100000 in
theorem lindex_calls (ls : List Lt) (A : Nat → Prop) (s : Value) (w : World) (ho : LtsOk ls) (hs : Lits A w s ls) :
    Calls Try.prog 192 #[s, .func (.func 164) #[] #[]] w fun e w' => ∃ i : Int, e = .returned (.int .i64 i) ∧ Below w.heap.size w w' ∧ (¬ 0 ≤ i → ∀ x ∈ ls, oddP x = false) := by
  obtain ⟨a, c, rfl, hlc, hc⟩ := hs.shape
  have HO := hide ho
  have HS := hide hs
  clear ho hs
  go_enter Try.func192, Try.ntmps192
  go_wp2
  go_loopw [8] (fun i wr => ∃ (k : Nat), k ≤ ls.length ∧ i = .int .i64 k ∧ Hid (∀ m (hm : m < k) (h : m < ls.length), oddP ls[m] = false) ∧ Hid (Below w.heap.size w wr)) (fun i _ => ls.length - (intOf i).toNat)
  case atStart => exact ⟨0, by omega, rfl, hide (fun m hm => by omega), hide (Below.refl _ _)⟩
  case round =>
    obtain ⟨k, hk, rfl, hx, hB⟩ := hrel
    by_cases hlt : k < ls.length
    · obtain ⟨b, off, a1, c1, a2, c2, rfl, g0, g1, g2, g3, g4, t1, t2⟩ := HS.out.getW hB.out k hlt
      have hz := HO.out ls[k] (List.getElem_mem hlt)
      have HT := hide (And.intro t1.2 t2.2)
      clear t1 t2
      go_wp2_with fail
      refine (odd_calls ls[k] A _ _ wr hz HT.out.1 HT.out.2).mono ?_
      rintro e w4 ⟨rfl, h4⟩
      have HB4 := hide (more_below hB.out h4)
      generalize hq : oddP ls[k] = q
      have HQ := hide hq
      clear h4 hB g0 g1 g2 g3 g4 hq HT
      cases q
      · have HX := hide (show ∀ m (hm : m < k + 1) (h : m < ls.length), oddP ls[m] = false from fun m hm h => by
          by_cases hm2 : m < k
          · exact hx.out m hm2 h
          · obtain rfl : m = k := by omega
            exact HQ.out)
        clear HQ hx
        go_wp2
        go_roundw
        case rel => exact ⟨k + 1, by omega, by go_num, HX, HB4⟩
        case measure => simp [intOf]; omega
      · clear HQ hx
        go_wp2
        go_ret
        exact ⟨k, rfl, HB4.out, fun h => (by omega : False).elim⟩
    · obtain rfl : k = ls.length := by omega
      have HX := hide (show ∀ x ∈ ls, oddP x = false from fun x hxm => by
        obtain ⟨m, hm, rfl⟩ := List.getElem_of_mem hxm
        exact hx.out m hm hm)
      clear hx
      go_wp2
      go_ret
      exact ⟨-1, rfl, hB.out, fun _ => HX.out⟩
theorem lcontains_calls (ls : List Lt) (A : Nat → Prop) (s : Value) (w : World) (ho : LtsOk ls) (hs : Lits A w s ls) :
    Calls Try.prog 165 #[s, .func (.func 164) #[] #[]] w fun e w' => ∃ b : Bool, e = .returned (.bool b) ∧ Below w.heap.size w w' ∧ (b = false → ∀ x ∈ ls, oddP x = false) := by
  have HC := hide (lindex_calls ls A s w ho hs)
  obtain ⟨a, c, rfl, hlc, hc⟩ := hs.shape
  clear ho hs
  go_enter Try.func165, Try.ntmps165
  go_wp2_with fail
  refine HC.out.mono ?_
  rintro e w1 ⟨i, rfl, b1, hi⟩
  have HI := hide hi
  have HB1 := hide b1
  clear hi b1 HC
  by_cases h0 : 0 ≤ i
  · have hd : decide (i ≥ 0) = true := by simpa using h0
    clear h0
    go_wp2
    go_ret
    exact ⟨true, rfl, HB1.out, fun h => by cases h⟩
  · have hd : decide (i ≥ 0) = false := by simpa using h0
    have HN := hide (HI.out (by omega))
    clear h0
    go_wp2
    go_ret
    exact ⟨false, rfl, HB1.out, fun _ => HN.out⟩
def WrongPost (c d : List Lt) (w : World) (e : Ending) (w' : World) : Prop := ∃ n : Int, e = .returned (.int .i64 n) ∧ Below w.heap.size w w' ∧ (n = 0 → ∀ x, x ∈ c ∨ x ∈ d → oddP x = false)
theorem oddP_good {x : Lt} (h : oddP x = false) : x.l.good = true ∧ x.r.good = true := by
  simp only [oddP, Bool.or_eq_false_iff, decide_eq_false_iff_not, ne_eq, Classical.not_not] at h
  have g : ∀ t : Tm, chk t = 0 → t.good = true := fun t h => by
    unfold chk at h
    split at h
    · contradiction
    split at h
    · contradiction
    split at h
    · assumption
    · contradiction
  exact ⟨g _ h.1, g _ h.2⟩
set_option maxHeartbeats 4000000 in
set_option maxRecDepth 100000 in
theorem wrongL_calls (c d : List Lt) (A : Nat → Prop) (sc sd : Value) (g : Nat) (w : World) (hc : LtsOk c) (hd : LtsOk d) (hsc : Lits A w sc c) (hsd : Lits A w sd d) (hg : w.heap[g]? = some (.cells #[sc, sd] 63 (0, 0))) :
    Calls Try.prog 134 #[.slice (some ⟨g, 0, none⟩) 2 2] w fun e w' => WrongPost c d w e w' := by
  obtain ⟨ac, cc, rfl, -, -⟩ := hsc.shape
  obtain ⟨ad, cd, rfl, -, -⟩ := hsd.shape
  have HSC := hide hsc
  have HSD := hide hsd
  have HG := hide hg
  have HC := hide hc
  have HD := hide hd
  obtain ⟨z0, z1, z2, -, -⟩ := box2 hg
  clear hsc hsd hg hc hd
  have hgl := (Array.getElem?_eq_some_iff.1 HG.out).1
  go_enter Try.func134, Try.ntmps134
  go_wp2
  go_loopw [10] (fun i wr => ∃ k : Nat, k ≤ 2 ∧ i = .int .i64 k ∧ Hid (wr = w)) (fun i _ => 2 - (intOf i).toNat)
  case atStart => exact ⟨0, by omega, rfl, hide rfl⟩
  case round =>
    obtain ⟨k, hk, rfl, hw⟩ := hrel
    obtain rfl := hw.out
    rcases (show k = 0 ∨ k = 1 ∨ k = 2 by omega) with hk0 | hk1 | hk2
    · subst hk0
      by_cases h1 : 32 < c.length
      · have e1 : decide ((c.length : Int) > 32) = true := by simp; omega
        go_wp2
        go_ret
        exact ⟨2, rfl, Below.refl _ _, fun h => by cases h⟩
      · have e1 : decide ((c.length : Int) > 32) = false := by simp; omega
        go_wp2
        go_roundw
        case rel => exact ⟨0 + 1, by omega, by go_num, by first | exact hide rfl | exact hide trivial⟩
        case measure => simp [intOf]
    · subst hk1
      by_cases h1 : 32 < d.length
      · have e1 : decide ((d.length : Int) > 32) = true := by simp; omega
        go_wp2
        go_ret
        exact ⟨2, rfl, Below.refl _ _, fun h => by cases h⟩
      · have e1 : decide ((d.length : Int) > 32) = false := by simp; omega
        go_wp2
        go_roundw
        case rel => exact ⟨1 + 1, by omega, by go_num, by first | exact hide rfl | exact hide trivial⟩
        case measure => simp [intOf]
    · subst hk2
      go_wp2
      go_loopw [20] (fun i wq => ∃ k : Nat, k ≤ 2 ∧ i = .int .i64 k ∧ Hid (1 ≤ k → ∀ x ∈ c, oddP x = false) ∧ Hid (2 ≤ k → ∀ x ∈ d, oddP x = false) ∧ Hid (Below wr.heap.size wr wq)) (fun i _ => 2 - (intOf i).toNat)
      case atStart => exact ⟨0, by omega, rfl, hide (fun h => by omega), hide (fun h => by omega), hide (Below.refl _ _)⟩
      case round =>
      obtain ⟨k, hk, rfl, hc1, hc2, hB⟩ := hrel
      rcases (show k = 0 ∨ k = 1 ∨ k = 2 by omega) with hk0 | hk1 | hk2
      · subst hk0
        have hlc := lcontains_calls c A _ wr HC.out (HSC.out.below hB.out)
        have HLC := hide hlc
        obtain ⟨-, y1, y2, -, -⟩ := box2 ((hB.out.block g hgl).trans HG.out)
        clear hlc
        go_wp2_with fail
        refine HLC.out.mono ?_
        rintro e w3 ⟨b, rfl, b3, hb⟩
        have HB3 := hide (more_below hB.out b3)
        have HBB := hide hb
        clear b3 hb HLC
        cases b
        · have HCB := hide (HBB.out (by first | exact trivial | rfl))
          go_wp2
          go_roundw
          case rel => exact ⟨0 + 1, by omega, by go_num, hide (fun _ => HCB.out), hide (fun h => by omega), HB3⟩
          case measure => simp [intOf]
        · go_wp2
          go_ret
          exact ⟨1, rfl, HB3.out, fun h => by cases h⟩
      · subst hk1
        have hlc := lcontains_calls d A _ wr HD.out (HSD.out.below hB.out)
        have HLC := hide hlc
        obtain ⟨-, y1, y2, -, -⟩ := box2 ((hB.out.block g hgl).trans HG.out)
        clear hlc
        go_wp2_with fail
        refine HLC.out.mono ?_
        rintro e w3 ⟨b, rfl, b3, hb⟩
        have HB3 := hide (more_below hB.out b3)
        have HBB := hide hb
        clear b3 hb HLC
        cases b
        · have HCB := hide (HBB.out (by first | exact trivial | rfl))
          go_wp2
          go_roundw
          case rel => exact ⟨1 + 1, by omega, by go_num, hide (fun _ => hc1.out (by omega)), hide (fun _ => HCB.out), HB3⟩
          case measure => simp [intOf]
        · go_wp2
          go_ret
          exact ⟨1, rfl, HB3.out, fun h => by cases h⟩
      · subst hk2
        have HF := hide (show ∀ x, x ∈ c ∨ x ∈ d → oddP x = false from fun x hx => by
          rcases hx with hx | hx
          · exact hc1.out (by omega) x hx
          · exact hc2.out (by omega) x hx)
        go_wp2
        go_ret
        exact ⟨0, rfl, hB.out, fun _ => HF.out⟩
set_option maxRecDepth 100000 in
theorem mk_rowB (w : World) (n : Nat) (h1 : n ≤ 1000) : (Instr.makeSlice 158 (.int .i64 n) (.int .i64 n)).run Try.prog w = .ok (.slice (some ⟨w.heap.size, 0, none⟩) n n) (w.alloc (.cells (Array.replicate n (Value.bool false)) 4)) := by
  have hinfo : (Try.prog.info? 4).map (fun i => (i.zero, i.size, i.bytes)) = some (some (.bool false), 1, 1) := by kernel_rfl
  simp only [Option.map_eq_some_iff, Prod.mk.injEq] at hinfo
  obtain ⟨i, hi, hz, hs, hb⟩ := hinfo
  rw [run_make w 158 4 i _ (by kernel_rfl) hi hz .i64 .i64 n n (by omega) (Int.le_refl _) (by rw [hb]; omega) (by omega)]
  rw [hs, Int.toNat_natCast]
  congr 3
  apply Array.ext
  · simp [size_madeCells]
  · intro j h1 h2
    simp [madeCells, Value.cells, Nat.mod_one]
def SubsPost (c d : List Lt) (w : World) (e : Ending) (w' : World) : Prop := ∃ (r : Bool) (n : Int), e = .returned (.tuple #[.bool r, .int .i64 n]) ∧ Below w.heap.size w w' ∧ (r = true → n = 0 → ∃ σ, SubP d σ c (List.replicate d.length false))
set_option maxHeartbeats 4000000 in
set_option maxRecDepth 100000 in
theorem subsumes_calls (c d : List Lt) (A : Nat → Prop) (sc sd : Value) (w : World) (hc : ∀ x ∈ c, x.l.size ≤ 1000000 ∧ x.r.size ≤ 1000000) (hd : ∀ x ∈ d, x.l.size ≤ 1000000 ∧ x.r.size ≤ 1000000) (hcl : c.length ≤ 1000) (hdl : d.length ≤ 1000) (hsc : Lits A w sc c) (hsd : Lits A w sd d) :
    Calls Try.prog 79 #[sc, sd] w fun e w' => SubsPost c d w e w' := by
  obtain ⟨ac, cc, rfl, -, -⟩ := hsc.shape
  obtain ⟨ad, cd, rfl, -, -⟩ := hsd.shape
  have hal : Below w.heap.size w (w.alloc (.cells #[.slice ac c.length cc, .slice ad d.length cd] 63)) := (Below.refl _ _).alloc (Nat.le_refl _) _
  have HWC := hide (wrongL_calls c d A _ _ w.heap.size _ (fun x hx => by have := hc x hx; omega) (fun x hx => by have := hd x hx; omega) (hsc.below hal) (hsd.below hal) (World.alloc_heap_new _ _))
  have HAL := hide hal
  have HSC := hide hsc
  have HSD := hide hsd
  clear hsc hsd hal
  go_enter Try.func79, Try.ntmps79
  go_wp2_with fail
  refine HWC.out.mono ?_
  rintro e w1 ⟨n, rfl, b1, hn⟩
  have HB1 := hide (more_below HAL.out b1)
  have HN := hide hn
  clear b1 hn HWC HAL
  by_cases h0 : n = 0
  rotate_left
  · have hne : (n != 0) = true := by simpa using h0
    have H0 := hide h0
    clear h0
    go_wp2
    exact bodyPost_ret (v := .tuple #[.bool false, .int .i64 n]) (by simp [results, Try.results79, go_sem]) rfl ⟨false, n, rfl, HB1.out, fun h => by cases h⟩
  subst h0
  have HOD := hide (HN.out rfl)
  clear HN
  by_cases hlt : d.length < c.length
  · have hdc : decide ((c.length : Int) > (d.length : Int)) = true := by simp; omega
    go_wp2
    exact bodyPost_ret (v := .tuple #[.bool false, .int .i64 0]) (by simp [results, Try.results79, go_sem]) rfl ⟨false, 0, rfl, HB1.out, fun h => by cases h⟩
  have hdc : decide ((c.length : Int) > (d.length : Int)) = false := by simp; omega
  have hmk := mk_rowB w1 d.length hdl
  have hmm := @run_makeMap Try.prog
  have s1 : (w1.alloc (.cells (Array.replicate d.length (Value.bool false)) 4)).heap.size = w1.heap.size + 1 := by rw [World.size_alloc]
  have s2 : ((w1.alloc (.cells (Array.replicate d.length (Value.bool false)) 4)).alloc (.cells #[.slice ad d.length cd, .slice (some ⟨w1.heap.size, 0, none⟩) d.length d.length] 160)).heap.size = w1.heap.size + 1 + 1 := by rw [World.size_alloc, World.size_alloc]
  have b3 : Below w1.heap.size w1 (((w1.alloc (.cells (Array.replicate d.length (Value.bool false)) 4)).alloc (.cells #[.slice ad d.length cd, .slice (some ⟨w1.heap.size, 0, none⟩) d.length d.length] 160)).alloc (.map #[] 0)) := (((Below.refl _ _).alloc (Nat.le_refl _) _).alloc (by rw [s1]; omega) _).alloc (by rw [s2]; omega) _
  have k1 : RowB (((w1.alloc (.cells (Array.replicate d.length (Value.bool false)) 4)).alloc (.cells #[.slice ad d.length cd, .slice (some ⟨w1.heap.size, 0, none⟩) d.length d.length] 160)).alloc (.map #[] 0)) w1.heap.size (List.replicate d.length false) := (by
    rw [RowB, show ((List.replicate d.length false).map Value.bool).toArray = Array.replicate d.length (Value.bool false) from by simp]
    exact (Below.heap_alloc _ _ _ (by rw [s2]; omega)).trans ((Below.heap_alloc _ _ _ (by rw [s1]; omega)).trans (World.alloc_heap_new _ _)))
  have k2 : (((w1.alloc (.cells (Array.replicate d.length (Value.bool false)) 4)).alloc (.cells #[.slice ad d.length cd, .slice (some ⟨w1.heap.size, 0, none⟩) d.length d.length] 160)).alloc (.map #[] 0)).heap[w1.heap.size + 1]? = some (.cells #[.slice ad d.length cd, .slice (some ⟨w1.heap.size, 0, none⟩) d.length d.length] 160 (0, 0)) := (Below.heap_alloc _ _ _ (by rw [s2]; omega)).trans (by
    have h := World.alloc_heap_new (w1.alloc (.cells (Array.replicate d.length (Value.bool false)) 4)) (.cells #[.slice ad d.length cd, .slice (some ⟨w1.heap.size, 0, none⟩) d.length d.length] 160)
    rw [s1] at h
    exact h)
  have k3 : MapEnv (fun b => b = w1.heap.size) (((w1.alloc (.cells (Array.replicate d.length (Value.bool false)) 4)).alloc (.cells #[.slice ad d.length cd, .slice (some ⟨w1.heap.size, 0, none⟩) d.length d.length] 160)).alloc (.map #[] 0)) (w1.heap.size + 1 + 1) noE := by
    have h := MapEnv.made (fun b => b = w1.heap.size) ((w1.alloc (.cells (Array.replicate d.length (Value.bool false)) 4)).alloc (.cells #[.slice ad d.length cd, .slice (some ⟨w1.heap.size, 0, none⟩) d.length d.length] 160))
    rw [s2] at h
    exact h
  have HB3 := hide b3
  have HK1 := hide k1
  have HK2 := hide k2
  have HK3 := hide k3
  have hws := HB1.out.size
  clear s1 s2 b3 k1 k2 k3
  go_wp2_with fail
  refine (all_calls d hd hdl c (fun x hx => ⟨hc x hx, oddP_good (HOD.out x (.inl hx))⟩) hcl (List.replicate d.length false) noE (w1.heap.size + 1 + 1) (w1.heap.size + 1) w1.heap.size d.length d.length (.slice ad d.length cd) (.slice ac c.length cc) _ (by simp) rfl rfl (fun v t h => by cases h) HK2.out HK1.out ((HSD.out.bar fun b hlt hb => by omega).below (HB1.out.trans (HB3.out.mono hws))) ((HSC.out.bar fun b hlt hb => by omega).below (HB1.out.trans (HB3.out.mono hws))) HK3.out (by omega) (by omega)).mono ?_
  rintro e w9 ⟨r, rfl, b9, hr⟩
  have HB9 := hide ((HB1.out.trans (HB3.out.mono hws)).trans (b9.mono (HB1.out.trans (HB3.out.mono hws)).size))
  have HR := hide hr
  clear b9 hr HK1 HK2 HK3 HB3 hmk
  go_wp2
  exact bodyPost_ret (v := .tuple #[.bool r, .int .i64 0]) (by simp [results, Try.results79, go_sem]) rfl ⟨r, 0, rfl, HB9.out, fun h _ => by
    obtain ⟨σ, -, h2⟩ := HR.out h
    exact ⟨σ, h2⟩⟩
end Go.Proofs.Ythplndalbfcbbaa
set_option linter.unusedSimpArgs false
set_option linter.unusedVariables false
namespace Go.Proofs.Ythplndalbfcbbaa
open Go.RowKit
def litN (i : Nat) (x : Lt) : Int := (if i = kOf x then 1 else 0) + if atS (kOf x) i = true then stT (((i - 2 - kOf x) / 2 : Nat) : Int) x.l + stT (((i - 2 - kOf x) / 2 : Nat) : Int) x.r else 0
def litsN (i : Nat) : List Lt → Int
  | [] => 0
  | x :: r => litN i x + litsN i r
theorem featL_getD (i : Nat) : ∀ (ls : List Lt) (l : List Int), i < l.length → (featL ls l).getD i 0 = l.getD i 0 + litsN i ls
  | [], l, hi => by simp [featL, litsN]
  | x :: r, l, hi => by
    rw [featL, featL_getD i r _ (by rw [addT_length, addT_length, bump_length]; exact hi), addT_getD _ i _ _ (by rw [addT_length, bump_length]; exact hi), addT_getD _ i _ _ (by rw [bump_length]; exact hi), bump_getD l _ i hi, litsN, litN]
    split <;> split <;> omega
theorem litN_nonneg (i : Nat) (x : Lt) : 0 ≤ litN i x := by
  have h1 := stT_bounds (((i - 2 - kOf x) / 2 : Nat) : Int) x.l
  have h2 := stT_bounds (((i - 2 - kOf x) / 2 : Nat) : Int) x.r
  unfold litN
  split <;> split <;> omega
mutual
theorem stT_makes {σ : Env} (h : Nat) : ∀ {p t : Tm}, p.good = true → Makes σ p t → stT (h : Int) p ≤ stT (h : Int) t
  | .node x l, t, hg, hm => by
    simp only [Makes] at hm
    split at hm
    · next hx =>
      have hl : l = [] := good_var hg hx
      subst hl
      have := stT_bounds (h : Int) t
      rw [stT, stL, if_neg (by omega)]
      omega
    · next hx =>
      have hgl : Tm.goods l = true := by
        simp only [Tm.good, Bool.and_eq_true] at hg
        exact hg.2
      have := stL_makes h hgl hm.2
      rw [stT, stT_eq (h : Int) t, hm.1]
      omega
theorem stL_makes {σ : Env} (h : Nat) : ∀ {ps ts : List Tm}, Tm.goods ps = true → MakesL σ ps ts → stL (h : Int) ps ≤ stL (h : Int) ts
  | [], ts, _, hm => by
    simp only [MakesL] at hm
    subst hm; exact Int.le_refl _
  | _ :: _, [], _, hm => by simp only [MakesL] at hm
  | p :: ps, t :: ts, hg, hm => by
    simp only [Tm.goods, Bool.and_eq_true] at hg
    simp only [MakesL] at hm
    have h1 := stT_makes h hg.1 hm.1
    have h2 := stL_makes h hg.2 hm.2
    simp only [stL]
    omega
end
theorem litN_le {σ : Env} (i : Nat) {a x : Lt} (hg : a.l.good = true ∧ a.r.good = true) (hn : a.neg = x.neg) (hs : SidesM σ a x) : litN i a ≤ litN i x := by
  have hk : kOf a = kOf x := by simp only [kOf, hn]
  have hle : ∀ h : Nat, stT (h : Int) a.l + stT (h : Int) a.r ≤ stT (h : Int) x.l + stT (h : Int) x.r := fun h => by
    rcases hs with ⟨h1, h2⟩ | ⟨h1, h2⟩
    · have := stT_makes h hg.1 h1
      have := stT_makes h hg.2 h2
      omega
    · have := stT_makes h hg.1 h1
      have := stT_makes h hg.2 h2
      omega
  unfold litN
  rw [hk]
  have := hle ((i - 2 - kOf x) / 2)
  split <;> split <;> omega
def freeN (i : Nat) : List Lt → List Bool → Int
  | x :: d, b :: u => (if b = true then 0 else litN i x) + freeN i d u
  | _, _ => 0
theorem freeN_nonneg (i : Nat) : ∀ (d : List Lt) (u : List Bool), 0 ≤ freeN i d u
  | [], _ => by simp [freeN]
  | _ :: _, [] => by simp [freeN]
  | x :: d, b :: u => by
    have h1 := litN_nonneg i x
    have h2 := freeN_nonneg i d u
    simp only [freeN]
    split <;> omega
theorem freeN_set (i : Nat) : ∀ (d : List Lt) (u : List Bool) (k : Nat) (h : k < d.length), u.length = d.length → u.getD k true = false → freeN i d u = litN i d[k] + freeN i d (u.set k true)
  | [], _, _, h, _, _ => by simp at h
  | _ :: _, [], _, _, h, _ => by simp at h
  | x :: d, b :: u, 0, _, _, hb => by
    simp at hb
    subst hb
    simp [freeN]
  | x :: d, b :: u, k + 1, h, hl, hb => by
    have ih := freeN_set i d u k (by simpa using h) (by simpa using hl) (by simpa using hb)
    simp only [freeN, List.set_cons_succ, List.getElem_cons_succ]
    rw [ih]; omega
theorem freeN_all (i : Nat) : ∀ d : List Lt, freeN i d (List.replicate d.length false) = litsN i d
  | [] => rfl
  | x :: d => by
    have ih := freeN_all i d
    simp only [List.length_cons, List.replicate_succ, freeN, litsN, ih]
    simp
theorem subP_le {σ : Env} {d : List Lt} (i : Nat) : ∀ (c : List Lt) (u : List Bool), (∀ x ∈ c, x.l.good = true ∧ x.r.good = true) → u.length = d.length → SubP d σ c u → litsN i c ≤ freeN i d u
  | [], u, _, _, _ => freeN_nonneg i d u
  | a :: c, u, hg, hu, hs => by
    simp only [SubP] at hs
    obtain ⟨k, h, h1, h2, h3, h4⟩ := hs
    have ih := subP_le i c (u.set k true) (fun x hx => hg x (by simp [hx])) (by simpa using hu) h4
    have := litN_le i (hg a (by simp)) h2 h3
    rw [freeN_set i d u k h hu h1, litsN]
    omega
theorem underL_of : ∀ {a b : List Int}, a.length = b.length → (∀ i, i < a.length → a.getD i 0 ≤ b.getD i 0) → underL a b = true
  | [], _, _, _ => rfl
  | _ :: _, [], h, _ => by simp at h
  | x :: a, y :: b, hl, h => by
    have h0 := h 0 (by simp)
    simp at h0
    simp only [underL, Bool.and_eq_true, decide_eq_true_eq]
    exact ⟨h0, underL_of (by simpa using hl) fun i hi => by simpa using h (i + 1) (by simpa using hi)⟩
theorem subsumes_under {gs : List Sy} {c d : List Lt} {σ : Env} (hg : ∀ x ∈ c, x.l.good = true ∧ x.r.good = true) (hs : SubP d σ c (List.replicate d.length false)) : underB (feat gs c) (feat gs d) = true := by
  have hl : (feat gs c).length = (feat gs d).length := by rw [feat_length, feat_length]
  simp only [underB, hl, decide_true, Bool.true_and]
  refine underL_of hl fun i hi => ?_
  rw [feat_length] at hi
  have h1 := featL_getD i c (List.replicate (2 + 2 * gs.length) 0) (by simpa using hi)
  have h2 := featL_getD i d (List.replicate (2 + 2 * gs.length) 0) (by simpa using hi)
  have h3 := subP_le i c _ hg (by simp) hs
  rw [freeN_all] at h3
  simp only [feat, h1, h2]
  omega
end Go.Proofs.Ythplndalbfcbbaa
set_option linter.unusedSimpArgs false
set_option linter.unusedVariables false
namespace Go.Proofs.Ythplndalbfcbbaa
open Go.RowKit
def few15B (ls : List Lt) : Bool := few10B ls && (decide (ls.length ≤ 6) || decide (32 < ls.length))
theorem few15 (ls : List Lt) : Ev (fun k => PA.elenchusref15_Few.f k (toLL ls)) (few15B ls) := by
  unfold PA.elenchusref15_Few.f
  have hL : ((toLL ls).length : Int) = (ls.length : Int) := by rw [toLL_length]
  rw [hL]
  refine (few10 ls).bind (g := fun k t702 => (if t702 = true then (if (ls.length : Int) ≤ 6 then (some true) else (some (decide ((ls.length : Int) > 32)))) else (some false))) (Ev.const.congr fun k => ?_)
  cases hf : few10B ls
  · simp [few15B, hf]
  · by_cases h6 : ls.length ≤ 6
    · rw [if_pos rfl, if_pos (by omega)]; simp [few15B, hf, h6]
    · rw [if_pos rfl, if_neg (by omega)]
      simp only [few15B, hf, Bool.true_and, decide_eq_false h6, Bool.false_or]
      by_cases h7 : 32 < ls.length
      · rw [decide_eq_true h7, decide_eq_true (p := (ls.length : Int) > 32) (by omega)]
      · rw [decide_eq_false h7, decide_eq_false (p := (ls.length : Int) > 32) (by omega)]
theorem few15_calls (ls : List Lt) (B : Nat → Prop) (sl : Value) (w : World) (hl : Lits B w sl ls) :
    Calls Try.prog 78 #[sl] w fun e w' => e = .returned (.bool (few15B ls)) ∧ Below w.heap.size w w' := by
  obtain ⟨a1, c1, rfl, -, -⟩ := hl.shape
  obtain ⟨e1, l1, k1⟩ := cl_of hl
  rw [e1]
  obtain ⟨f0, hk⟩ := few15 ls
  exact PA.elenchusref15_Few.calls f0 a1 c1 (toLL ls) _ w k1 l1 (hk f0 (Nat.le_refl _))
theorem few16_szs {gs : List Sy} {ls : List Lt} (h : few16B gs ls = true) : LtsOk ls ∧ ls.length ≤ 40 ∧ ∀ x ∈ ls, x.l.size ≤ 1000000 ∧ x.r.size ≤ 1000000 := by
  simp only [few16B, Bool.and_eq_true] at h
  have h1 := few10_sizes h.2
  refine ⟨fun x hx => ?_, h1.1, fun x hx => ?_⟩
  · have := h1.2 x hx; omega
  · have := h1.2 x hx; omega
theorem clause_good {gs : List Sy} {c : List Lt} (h : clauseC gs c = 0) : ∀ x ∈ c, x.l.good = true ∧ x.r.good = true := fun x hx => by
  have h1 := litC_terms (clauseC_lits h x hx)
  exact ⟨chk_goodG (termC_unk h1.1).2, chk_goodG (termC_unk h1.2).2⟩
set_option maxHeartbeats 8000000 in
set_option maxRecDepth 100000 in
theorem fsubs_calls (gs : List Sy) (c d : List Lt) (s0 s1 s2 : Value) (w : World) (hg : Syms (fun _ => False) w s0 gs) (h1 : Lits (fun _ => False) w s1 c) (h2 : Lits (fun _ => False) w s2 d) :
    Calls Try.prog 23 #[s0, s1, s2] w fun e w' => e = .returned (.bool true) ∧ Below w.heap.size w w' := by
  have HG := hide hg
  have H1 := hide h1
  have H2 := hide h2
  obtain ⟨a0, c0, rfl, -, -⟩ := hg.shape
  obtain ⟨a1, c1, rfl, -, -⟩ := h1.shape
  obtain ⟨a2, c2, rfl, -, -⟩ := h2.shape
  clear hg h1 h2
  go_enter Try.func23, Try.ntmps23
  go_wp2_with fail
  refine (few16_calls gs c _ _ _ _ w HG.out H1.out).mono ?_
  rintro e w1 ⟨rfl, b1⟩
  have HB1 := hide b1
  clear b1
  generalize hf1 : few16B gs c = f1
  have HF1 := hide hf1
  clear hf1
  cases f1
  · go_wp2
    go_ret
    exact ⟨rfl, HB1.out⟩
  go_wp2_with fail
  refine (few16_calls gs d _ _ _ _ w1 (HG.out.below HB1.out) (H2.out.below HB1.out)).mono ?_
  rintro e w2 ⟨rfl, b2⟩
  have HB2 := hide (more_below HB1.out b2)
  clear b2 HB1
  generalize hf2 : few16B gs d = f2
  have HF2 := hide hf2
  clear hf2
  cases f2
  · go_wp2
    go_ret
    exact ⟨rfl, HB2.out⟩
  go_wp2_with fail
  refine (few15_calls c _ _ w2 (H1.out.below HB2.out)).mono ?_
  rintro e w3 ⟨rfl, b3⟩
  have HB3 := hide (more_below HB2.out b3)
  clear b3 HB2
  generalize few15B c = f3
  cases f3
  · go_wp2
    go_ret
    exact ⟨rfl, HB3.out⟩
  go_wp2_with fail
  refine (few15_calls d _ _ w3 (H2.out.below HB3.out)).mono ?_
  rintro e w4 ⟨rfl, b4⟩
  have HB4 := hide (more_below HB3.out b4)
  clear b4 HB3
  generalize few15B d = f4
  cases f4
  · go_wp2
    go_ret
    exact ⟨rfl, HB4.out⟩
  have HZ1 := hide (few16_szs HF1.out)
  have HZ2 := hide (few16_szs HF2.out)
  clear HF1 HF2
  have HO1 := hide (fof_calls gs c _ _ _ _ w4 _ rfl HZ1.out.1 (HG.out.below HB4.out) (H1.out.below HB4.out))
  go_wp2_with fail
  refine HO1.out.mono ?_
  rintro e w5 ⟨b5, h5⟩
  have HB5 := hide (more_below HB4.out b5)
  have HW5 := hide b5
  clear b5 HO1
  have HO2 := hide (fof_calls gs d _ _ _ _ w5 _ rfl HZ2.out.1 (HG.out.below HB5.out) (H2.out.below HB5.out))
  have HSB := hide (fun (W : World) (hW : Below w.heap.size w W) => subsumes_calls c d _ _ _ W HZ1.out.2.2 HZ2.out.2.2 (by have := HZ1.out.2.1; omega) (by have := HZ2.out.2.1; omega) (H1.out.below hW) (H2.out.below hW))
  have HAW := hide (fun (W : World) => awake16_calls W)
  rcases h5 with ⟨hc, rfl⟩ | ⟨hc, nb, hnb, rfl, hrow⟩
  · have hne : (clauseC gs c != 0) = true := by simpa using hc
    clear hc
    generalize clauseC gs c = cc at *
    go_wp2_with fail
    refine HO2.out.mono ?_
    rintro e w6 ⟨b6, h6⟩
    have HB6 := hide (more_below HB5.out b6)
    clear b6 HO2
    obtain ⟨v6, n6, rfl⟩ : ∃ (v6 : Value) (n6 : Int), e = .returned (.tuple #[v6, .int .i64 n6]) := by
      rcases h6 with ⟨-, rfl⟩ | ⟨-, nb, -, rfl, -⟩
      · exact ⟨_, _, rfl⟩
      · exact ⟨_, _, rfl⟩
    clear h6
    go_wp2_with fail
    refine (HSB.out w6 HB6.out).mono ?_
    rintro e w7 ⟨r, n, rfl, b7, -⟩
    have HB7 := hide (more_below HB6.out b7)
    clear b7
    go_wp2_with fail
    refine (HAW.out w7).mono ?_
    rintro e w8 ⟨rfl, b8⟩
    have HB8 := hide (more_below HB7.out b8)
    clear b8
    go_wp2
    go_ret
    exact ⟨rfl, HB8.out⟩
  have HC1 := hide hc
  have HROW := hide hrow
  have hnl : nb < w5.heap.size := (Array.getElem?_eq_some_iff.1 hrow).1
  clear hc hrow hnb
  go_wp2_with fail
  refine HO2.out.mono ?_
  rintro e w6 ⟨b6, h6⟩
  have HB6 := hide (more_below HB5.out b6)
  have HR6 := hide ((b6.block nb hnl).trans HROW.out)
  have hw56 := b6.size
  clear b6 HO2
  rcases h6 with ⟨hc, rfl⟩ | ⟨hc, nb2, hnb2, rfl, hrow⟩
  · have hne : (clauseC gs d != 0) = true := by simpa using hc
    clear hc
    generalize clauseC gs d = cc at *
    go_wp2_with fail
    refine (HSB.out w6 HB6.out).mono ?_
    rintro e w7 ⟨r, n, rfl, b7, -⟩
    have HB7 := hide (more_below HB6.out b7)
    clear b7
    go_wp2_with fail
    refine (HAW.out w7).mono ?_
    rintro e w8 ⟨rfl, b8⟩
    have HB8 := hide (more_below HB7.out b8)
    clear b8
    go_wp2
    go_ret
    exact ⟨rfl, HB8.out⟩
  have HC2 := hide hc
  have HROW2 := hide hrow
  have hnl2 : nb2 < w6.heap.size := (Array.getElem?_eq_some_iff.1 hrow).1
  clear hc hrow hnb2
  go_wp2_with fail
  refine (HSB.out w6 HB6.out).mono ?_
  rintro e w7 ⟨r, n, rfl, b7, hr⟩
  have HB7 := hide (more_below HB6.out b7)
  have HR7 := hide ((b7.block nb (by omega)).trans HR6.out)
  have HR8 := hide ((b7.block nb2 hnl2).trans HROW2.out)
  have HRS := hide hr
  have hw67 := b7.size
  clear b7 hr
  by_cases hn : n = 0
  rotate_left
  · have hne : (n != 0) = true := by simpa using hn
    clear hn
    go_wp2_with fail
    refine (HAW.out w7).mono ?_
    rintro e w8 ⟨rfl, b8⟩
    have HB8 := hide (more_below HB7.out b8)
    clear b8
    go_wp2
    go_ret
    exact ⟨rfl, HB8.out⟩
  subst hn
  have HRT := hide (fun h : r = true => HRS.out h rfl)
  clear HRS
  go_wp2_with fail
  refine (HAW.out w7).mono ?_
  rintro e w8 ⟨rfl, b8⟩
  have HB8 := hide (more_below HB7.out b8)
  have HR9 := hide (show RowAt w8 nb (feat gs c) 3 from (b8.block nb (by omega)).trans HR7.out)
  have HR10 := hide (show RowAt w8 nb2 (feat gs d) 3 from (b8.block nb2 (by omega)).trans HR8.out)
  clear b8
  cases r
  · go_wp2
    go_ret
    exact ⟨rfl, HB8.out⟩
  obtain ⟨σ, hσ⟩ := HRT.out rfl
  have HU := hide (subsumes_under (gs := gs) (clause_good HC1.out) hσ)
  have hlen := (weighC_len (clauseC_weigh HC1.out)).2
  have hf1 := feat_length gs c
  have hf2 := feat_length gs d
  have HUC := hide (under_calls (feat gs c) (feat gs d) _ _ (feat gs c).length (feat gs d).length w8 (RowAt.ins HR9.out (by omega)) (RowAt.ins HR10.out (by omega)))
  rw [hf1, hf2, HU.out] at HUC
  clear hσ HRT HU hf1 hf2
  go_wp2_with fail
  refine HUC.out.mono ?_
  rintro e w9 ⟨rfl, rfl⟩
  go_wp2
  go_ret
  exact ⟨rfl, HB8.out⟩
end Go.Proofs.Ythplndalbfcbbaa
