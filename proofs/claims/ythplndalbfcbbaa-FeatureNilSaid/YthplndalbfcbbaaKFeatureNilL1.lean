/- What the proof of the law rests on: contracts of the functions, plain laws, and words. -/
import Derived.Test.YthplndalbfcbbaaKFeatureNilL0
import Derived.Test.YthplndalbfcbbaaKFeatureNilG12
import Derived.Test.YthplndalbfcbbaaKFeatureNilG9
set_option linter.unusedSimpArgs false
set_option linter.unusedVariables false
namespace Go.Proofs.Ythplndalbfcbbaa
open Go.RowKit Go.Proofs.YthplndalbfcbbaaW.PrintWords
def Ev {α : Type} (f : Nat → Option α) (r : α) : Prop := ∃ k0, ∀ k, k0 ≤ k → f k = some r
theorem Ev.step {α : Type} {f g : Nat → Option α} {r : α} (h : Ev f r) (e : ∀ k, g (k + 1) = f k) : Ev g r := by
  obtain ⟨k0, h⟩ := h
  refine ⟨k0 + 1, fun k hk => ?_⟩
  obtain ⟨k, rfl⟩ : ∃ m, k = m + 1 := ⟨k - 1, by omega⟩
  rw [e, h k (by omega)]
theorem Ev.const {α : Type} {r : α} : Ev (fun _ => some r) r := ⟨0, fun _ _ => rfl⟩
theorem Ev.bind {α β : Type} {f : Nat → Option α} {g : Nat → α → Option β} {a : α} {r : β} (h : Ev f a) (k : Ev (fun n => g n a) r) : Ev (fun n => (f n).bind (g n)) r := by
  obtain ⟨k1, h⟩ := h
  obtain ⟨k2, k⟩ := k
  exact ⟨max k1 k2, fun n hn => by simp only [h n (by omega), Option.bind_some, k n (by omega)]⟩
theorem Ev.congr {α : Type} {f g : Nat → Option α} {r : α} (h : Ev f r) (e : ∀ k, g k = f k) : Ev g r := by
  obtain ⟨k0, h⟩ := h
  exact ⟨k0, fun k hk => by rw [e, h k hk]⟩
end Go.Proofs.Ythplndalbfcbbaa
set_option linter.unusedSimpArgs false
set_option linter.unusedVariables false
namespace Go.Proofs.Ythplndalbfcbbaa
mutual
/-- In how many parts a symbol stands. -/
def stT (h : Int) : Tm → Int
  | .node g ts => (if g = h then 1 else 0) + stL h ts
def stL (h : Int) : List Tm → Int
  | [] => 0
  | t :: ts => stT h t + stL h ts
end
def inner (k : Nat) (L R : Tm) : Nat → List Int → List Int
  | 0, l => l
  | j + 1, l => (inner k L R j l).set (2 + 2 * j + k) ((inner k L R j l).getD (2 + 2 * j + k) 0 + stT (j : Int) L + stT (j : Int) R)
end Go.Proofs.Ythplndalbfcbbaa
set_option linter.unusedSimpArgs false
set_option linter.unusedVariables false
namespace Go.Proofs.Ythplndalbfcbbaa
open Go.RowKit Go.Proofs.YthplndalbfcbbaaW.PrintWords
theorem rdG_nat (l : List Sy) (i : Nat) (h : i < l.length) : PA.rd_T148 (toGL l) (i : Int) = toG l[i] := by simp [PA.rd_T148, toGL, h]
theorem rdL_nat (l : List Lt) (i : Nat) (h : i < l.length) : PA.rd_T142 (toLL l) (i : Int) = toLt l[i] := by simp [PA.rd_T142, toLL, h]
theorem toLt_f1 (x : Lt) : (toLt x).f1 = toS x.l := rfl
theorem toLt_f2 (x : Lt) : (toLt x).f2 = toS x.r := rfl
def sidesOf (ls : List Lt) : List Tm := (ls.map fun x => [x.l, x.r]).flatten
theorem sidesOf_take (ls : List Lt) (i : Nat) (h : i < ls.length) : sidesOf (ls.take (i + 1)) = sidesOf (ls.take i) ++ [ls[i].l, ls[i].r] := by
  rw [List.take_succ_eq_append_getElem h]
  simp only [sidesOf, List.map_append, List.flatten_append, List.map_cons, List.map_nil, List.flatten_cons, List.flatten_nil, List.append_nil]
theorem sidesOf_length (ls : List Lt) : (sidesOf ls).length = 2 * ls.length := by
  induction ls with
  | nil => rfl
  | cons x ls ih => simp only [sidesOf, List.map_cons, List.flatten_cons, List.length_append, List.length_cons, List.length_nil] at ih ⊢; omega
theorem toS_eta (t : Tm) : (⟨(toS t).f0, (toS t).f1⟩ : TS) = toS t := by cases toS t; rfl
theorem terms10_l0 (ls : List Lt) (hl : ls.length ≤ 1000000000) : ∀ (d i : Nat), i + d = ls.length → Ev (fun k => PA.elenchusref10_Terms.l0 k (toLL ls) (toSL (sidesOf (ls.take i))) (i : Int)) (toSL (sidesOf ls))
  | 0, i, hi => by
    rw [List.take_of_length_le (by omega)]
    refine Ev.const.step fun k => ?_
    rw [PA.elenchusref10_Terms.l0, if_neg (by rw [toLL_length]; omega)]
  | d + 1, i, hi => by
    have hlt : i < ls.length := by omega
    have hrec := terms10_l0 ls hl d (i + 1) (by omega)
    refine hrec.step fun k => ?_
    rw [PA.elenchusref10_Terms.l0, if_pos (by rw [toLL_length]; omega), if_pos (by omega), rdL_nat ls i hlt, toLt_f1, toLt_f2, toS_eta, toS_eta, Option.bind_some, if_pos (by rw [toSL_length, sidesOf_length, List.length_take]; simp; omega), wrap_next (by omega) (by omega), sidesOf_take ls i hlt]
    congr 1
    simp [toSL_map]
theorem terms10 (ls : List Lt) (hl : ls.length ≤ 1000000000) : Ev (fun k => PA.elenchusref10_Terms.f k (toLL ls)) (toSL (sidesOf ls)) := by
  have := terms10_l0 ls hl ls.length 0 (by omega)
  simpa [sidesOf, toSL, PA.elenchusref10_Terms.f] using this
def few7B (gs : List Sy) : Bool := decide (gs.length ≤ 300) && gs.all fun x => decide (x.name.size ≤ 100)
theorem few7_l0 (gs : List Sy) (hl : gs.length ≤ 300) : ∀ (d i : Nat), i + d = gs.length → Ev (fun k => PA.elenchusref07_Few.l0 k (toGL gs) (i : Int)) ((gs.drop i).all fun x => decide (x.name.size ≤ 100))
  | 0, i, hi => by
    rw [List.drop_eq_nil_of_le (by omega), List.all_nil]
    refine (Ev.const.step (g := fun k => PA.elenchusref07_Few.j1 k (toGL gs) (i : Int) false) fun k => ?_).step fun k => ?_
    · rw [PA.elenchusref07_Few.j1, if_neg (by simp), toGL_length]; simp; omega
    · rw [PA.elenchusref07_Few.l0, if_neg (by rw [toGL_length]; omega)]
  | d + 1, i, hi => by
    have hlt : i < gs.length := by omega
    have hrec := few7_l0 gs hl d (i + 1) (by omega)
    rw [List.drop_eq_getElem_cons hlt, List.all_cons]
    refine Ev.step (f := fun k => PA.elenchusref07_Few.j1 k (toGL gs) (i : Int) true) ?_ fun k => by rw [PA.elenchusref07_Few.l0, if_pos (by rw [toGL_length]; omega), toGL_length, decide_eq_true (by omega)]
    have e : ((toG gs[i]).f0).size = gs[i].name.size := rfl
    by_cases hc : gs[i].name.size ≤ 100
    · rw [decide_eq_true hc, Bool.true_and]
      refine hrec.step fun k => ?_
      rw [PA.elenchusref07_Few.j1, if_pos rfl, if_pos (by omega), if_pos (by rw [toGL_length]; omega), rdG_nat gs i hlt, e, if_neg (by omega), wrap_next (by omega) (by omega)]; rfl
    · rw [decide_eq_false hc, Bool.false_and]
      refine Ev.const.step fun k => ?_
      rw [PA.elenchusref07_Few.j1, if_pos rfl, if_pos (by omega), if_pos (by rw [toGL_length]; omega), rdG_nat gs i hlt, e, if_pos (by omega)]
theorem few7 (gs : List Sy) (h9 : gs.length ≤ 9223372036854775807) : Ev (fun k => PA.elenchusref07_Few.f k (toGL gs)) (few7B gs) := by
  by_cases hl : gs.length ≤ 300
  · have := few7_l0 gs hl gs.length 0 (by omega)
    rw [List.drop_zero] at this
    simpa [few7B, hl, PA.elenchusref07_Few.f] using this
  · have hb : few7B gs = false := by simp [few7B, hl]
    rw [hb]
    refine (Ev.const.step (g := fun k => PA.elenchusref07_Few.j1 k (toGL gs) 0 false) fun k => ?_).step fun k => ?_
    · rw [PA.elenchusref07_Few.j1, if_neg (by simp), toGL_length]; simp; omega
    · rw [PA.elenchusref07_Few.f.eq_1, PA.elenchusref07_Few.l0, if_pos (by rw [toGL_length]; omega), toGL_length, decide_eq_false (by omega)]
def few10B (ls : List Lt) : Bool := decide (ls.length ≤ 40) && fewS (sidesOf ls)
theorem few10 (ls : List Lt) : Ev (fun k => PA.elenchusref10_Few.f k (toLL ls)) (few10B ls) := by
  unfold PA.elenchusref10_Few.f
  by_cases hl : ls.length ≤ 40
  · refine Ev.congr (f := fun k => (PA.elenchusref10_Terms.f k (toLL ls)).bind fun t => (PA.elenchusref05_Few.f t).bind fun u => some u) ?_ fun k => by rw [if_pos (by rw [toLL_length]; omega)]
    refine (terms10 ls (by omega)).bind (g := fun k t => (PA.elenchusref05_Few.f t).bind fun u => some u) (Ev.const.congr fun k => ?_)
    simp [PA.elenchusref05_Few.f, ofSL_toSL, few10B, hl]
  · refine Ev.const.congr fun k => ?_
    rw [if_neg (by rw [toLL_length]; omega)]
    simp [few10B, hl]
def few16B (gs : List Sy) (ls : List Lt) : Bool := few7B gs && few10B ls
theorem few16 (gs : List Sy) (ls : List Lt) (h9 : gs.length ≤ 9223372036854775807) : Ev (fun k => PA.elenchusref16_Few.f k (toGL gs) (toLL ls)) (few16B gs ls) := by
  unfold PA.elenchusref16_Few.f
  refine (few7 gs h9).bind (g := fun k t => if t = true then (PA.elenchusref10_Few.f k (toLL ls)).bind fun t629 => (if t629 = true then ((PA.elenchusref10_Terms.f k (toLL ls)).bind fun t630 => ((PA.elenchusref05_Few.f t630).bind fun t633 => (some t633))) else (some false)) else some false) ?_
  cases hf : few7B gs
  · exact Ev.const.congr fun k => by simp [few16B, hf]
  simp only [if_true]
  refine (few10 ls).bind (g := fun k t => if t = true then ((PA.elenchusref10_Terms.f k (toLL ls)).bind fun t630 => ((PA.elenchusref05_Few.f t630).bind fun t633 => (some t633))) else (some false)) ?_
  cases hg : few10B ls
  · exact Ev.const.congr fun k => by simp [few16B, hf, hg]
  simp only [if_true]
  have hg' := hg
  simp only [few10B, Bool.and_eq_true, decide_eq_true_eq] at hg'
  refine (terms10 ls (by omega)).bind (g := fun k t => (PA.elenchusref05_Few.f t).bind fun u => some u) (Ev.const.congr fun k => ?_)
  simp [PA.elenchusref05_Few.f, ofSL_toSL, hg'.2, few16B, hf, hg]
end Go.Proofs.Ythplndalbfcbbaa
set_option linter.unusedSimpArgs false
set_option linter.unusedVariables false
namespace Go.Proofs.Ythplndalbfcbbaa
open Go.RowKit Go.Proofs.YthplndalbfcbbaaW.PrintWords
theorem Syms.nil (A : Nat → Prop) (w : World) : Syms A w (.slice none 0 0) [] := by
  simp only [Syms, RepD]
  exact ⟨none, 0, 0, rfl, rfl, Nat.le_refl _, by omega, fun h => by omega⟩
theorem few16_calls (gs : List Sy) (ls : List Lt) (A B : Nat → Prop) (sg sl : Value) (w : World) (hg : Syms A w sg gs) (hl : Lits B w sl ls) :
    Calls Try.prog 60 #[sg, sl] w fun e w' => e = .returned (.bool (few16B gs ls)) ∧ Below w.heap.size w w' := by
  obtain ⟨a0, c0, rfl, -, g9⟩ := hg.shape
  obtain ⟨a1, c1, rfl, -, -⟩ := hl.shape
  obtain ⟨e0, l0, k0⟩ := cg_of hg
  obtain ⟨e1, l1, k1⟩ := cl_of hl
  rw [e0, e1]
  obtain ⟨f0, hk⟩ := few16 gs ls g9
  exact PA.elenchusref16_Few.calls f0 a0 c0 (toGL gs) a1 c1 (toLL ls) _ w k0 l0 k1 l1 (hk f0 (Nat.le_refl _))
set_option maxHeartbeats 4000000 in
set_option maxRecDepth 100000 in
theorem fnil_calls (ls : List Lt) (id : Int) (sl : Value) (w : World) (hl : Lits (fun _ => False) w sl ls) :
    Calls Try.prog 19 #[sl, .int .i64 id] w fun e w' => e = .returned (.bool true) ∧ Below w.heap.size w w' := by
  have HF := hide (few16_calls [] ls (fun _ => False) _ _ sl w (Syms.nil _ _) hl)
  obtain ⟨a1, c1, rfl, -, -⟩ := hl.shape
  clear hl
  go_enter Try.func19, Try.ntmps19
  go_wp2_with fail
  refine HF.out.mono ?_
  rintro e w1 ⟨rfl, b1⟩
  have HB1 := hide b1
  clear b1 HF
  generalize few16B [] ls = f
  cases f
  · go_wp2
    go_ret
    exact ⟨rfl, HB1.out⟩
  go_wp2_with fail
  refine (xover_nil _ w1).mono ?_
  rintro e w2 ⟨rfl, b2⟩
  have HB2 := hide (more_below HB1.out b2)
  clear b2
  go_wp2_with fail
  refine (xbelow_nil _ w2).mono ?_
  rintro e w3 ⟨rfl, b3⟩
  have HB3 := hide (more_below HB2.out b3)
  clear b3 HB1 HB2
  go_wp2_with fail
  refine (awake16_calls w3).mono ?_
  rintro e w4 ⟨rfl, b4⟩
  have HB4 := hide (more_below HB3.out b4)
  clear b4 HB3
  go_wp2_with fail
  refine (xput_nil id _ w4).mono ?_
  rintro e w5 ⟨rfl, rfl⟩
  go_wp2_with fail
  refine (xdrop_nil id _).mono ?_
  rintro e w6 ⟨rfl, rfl⟩
  go_wp2
  go_ret
  exact ⟨rfl, HB4.out⟩
end Go.Proofs.Ythplndalbfcbbaa
