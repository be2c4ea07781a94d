/- What the proof of the law rests on: contracts of the functions, plain laws, and words. -/
import Derived.Test.YthplndalbfcbbaaKFeatureCountsL2
import Derived.Test.YthplndalbfcbbaaKFeatureCountsL0
set_option linter.unusedSimpArgs false
set_option linter.unusedVariables false
namespace Go.Proofs.Ythplndalbfcbbaa
open Go.RowKit Go.Proofs.YthplndalbfcbbaaW.PrintWords
theorem rd_getD (l : List Int) (i : Nat) : rd l (i : Int) = l.getD i 0 := by simp [rd]
theorem stands_l0 (a : Int) (n0 : Nat) (ih : ∀ t : Tm, t.size ≤ n0 → t.size ≤ 1000000000 → Ev (fun k => PA.elenchusref16_stands.f k t.h (toSL t.args) a) (stT a t)) {h : Int} {l : List Tm} (hl : 1 + Tm.sizes l ≤ 1000000000) (hk : Tm.sizes l ≤ n0) (c : Int) (hc : 0 ≤ c ∧ c ≤ 1) :
    ∀ (d i : Nat), i + d = l.length → Ev (fun k => PA.elenchusref16_stands.l0 k a (c + stL a (l.take i)) (i : Int) h (toSL l)) (c + stL a l)
  | 0, i, hi => by
    rw [List.take_of_length_le (by omega)]
    refine Ev.const.step fun k => ?_
    rw [PA.elenchusref16_stands.l0, if_neg (by rw [toSL_length]; omega)]
  | d + 1, i, hi => by
    have hlt : i < l.length := by omega
    have hll := Tm.sizes_length l
    have h1 := Tm.size_get l i hlt
    have hrec := stands_l0 a n0 ih (h := h) hl hk c hc d (i + 1) (by omega)
    have h2 := stL_take a l i hlt
    have h3 := stL_take_le a l i
    have h4 := stT_bounds a l[i]
    have e : wrap64 (c + stL a (l.take i) + stT a l[i]) = c + stL a (l.take (i + 1)) := by rw [h2]; unfold wrap64; omega
    refine ((ih l[i] (by omega) (by omega)).bind (g := fun k v => PA.elenchusref16_stands.l0 k a (wrap64 (c + stL a (l.take i) + v)) ((i + 1 : Nat) : Int) h (toSL l)) (by rw [e]; exact hrec)).step fun k => ?_
    rw [PA.elenchusref16_stands.l0, if_pos (by rw [toSL_length]; omega), if_pos (by omega), rdT_nat l i hlt, toS_f0, toS_f1, wrap_next (by omega) (by omega)]; rfl
theorem stands_f (a : Int) (n0 : Nat) : ∀ (t : Tm), t.size ≤ n0 → t.size ≤ 1000000000 → Ev (fun k => PA.elenchusref16_stands.f k t.h (toSL t.args) a) (stT a t) := by
  induction n0 with
  | zero => intro t ht; have := t.size_eq; omega
  | succ n0 ih =>
    intro t ht hn
    have hsz := t.size_eq
    have hj : ∀ c : Int, 0 ≤ c ∧ c ≤ 1 → Ev (fun k => PA.elenchusref16_stands.j0 k a c t.h (toSL t.args)) (c + stL a t.args) := fun c hc => by
      have h0 := stands_l0 a n0 ih (h := t.h) (l := t.args) (by omega) (by omega) c hc t.args.length 0 (by omega)
      simp only [List.take_zero, stL, Int.add_zero] at h0
      exact h0.step fun k => by rw [PA.elenchusref16_stands.j0]; rfl
    rw [stT_eq]
    by_cases hh : t.h = a
    · rw [if_pos hh]
      exact (hj 1 (by omega)).step fun k => by rw [PA.elenchusref16_stands.f, if_pos hh]
    · rw [if_neg hh]
      exact (hj 0 (by omega)).step fun k => by rw [PA.elenchusref16_stands.f, if_neg hh]
theorem stands16 (a : Int) (t : Tm) (h : t.size ≤ 1000000000) : Ev (fun k => PA.elenchusref16_stands.f k t.h (toSL t.args) a) (stT a t) := stands_f a _ t (Nat.le_refl _) h
theorem Cnt.getD {m : Int} {l : List Int} (h : Cnt m l) (hm : 0 ≤ m) (i : Nat) : 0 ≤ l.getD i 0 ∧ l.getD i 0 ≤ m := by
  by_cases hi : i < l.length
  · rw [List.getD_eq_getElem?_getD, List.getElem?_eq_getElem hi, Option.getD_some]; exact h.at i hi
  · rw [List.getD_eq_getElem?_getD, List.getElem?_eq_none (by omega), Option.getD_none]; omega
theorem wrap_id {x : Int} (h0 : 0 ≤ x) (h1 : x ≤ 9000000000000000000) : wrap64 x = x := by unfold wrap64; omega
theorem idx_wrap {h q : Nat} (hh : h ≤ 256) (hq : q < 2) : wrap64 (wrap64 (2 + wrap64 (2 * (h : Int))) + (q : Int)) = ((2 + 2 * h + q : Nat) : Int) := by
  rw [wrap_id (x := 2 * (h : Int)) (by omega) (by omega), wrap_id (x := 2 + 2 * (h : Int)) (by omega) (by omega), wrap_id (by omega) (by omega)]
  push_cast; rfl
theorem add_wrap {a b c : Int} (h0 : 0 ≤ a) (h1 : a ≤ 3000000000000000) (h2 : 0 ≤ b) (h3 : b ≤ 1000000000) (h4 : 0 ≤ c) (h5 : c ≤ 1000000000) : wrap64 (wrap64 (a + b) + c) = a + b + c := by
  rw [wrap_id (x := a + b) (by omega) (by omega), wrap_id (by omega) (by omega)]
theorem stT_le {h : Int} {t : Tm} (hs : t.size ≤ 1000000000) : 0 ≤ stT h t ∧ stT h t ≤ 1000000000 := by
  have := stT_bounds h t
  omega
theorem of16_l1 (gs : List Sy) (ls : List Lt) (hg : gs.length ≤ 256) (hl : ls.length ≤ 40) (i : Nat) (hi : i < ls.length) (ho : Hid (ls[i].l.size ≤ 1000000000 ∧ ls[i].r.size ≤ 1000000000)) (q : Nat) (hq : q < 2) (out : List Int) (hlen : out.length = 2 + 2 * gs.length) (m : Int) (hm : 0 ≤ m) (hm2 : m ≤ 1000000000000000) (hc : Cnt m out) (rest : List Int × Int)
    (hr : Ev (fun k => PA.elenchusref16_Of.l0 k (toGL gs) (toLL ls) (inner q ls[i].l ls[i].r gs.length out) ((i + 1 : Nat) : Int)) rest) :
    ∀ (d h : Nat), h + d = gs.length → Ev (fun k => PA.elenchusref16_Of.l1 k (toGL gs) (toLL ls) (inner q ls[i].l ls[i].r h out) (i : Int) (q : Int) (h : Int)) rest
  | 0, h, hh => by
    obtain rfl : h = gs.length := by omega
    refine hr.step fun k => ?_
    rw [PA.elenchusref16_Of.l1, if_neg (by rw [toGL_length]; omega), wrap_next (by omega) (by omega)]; rfl
  | d + 1, h, hh => by
    have hrec := of16_l1 gs ls hg hl i hi ho q hq out hlen m hm hm2 hc rest hr d (h + 1) (by omega)
    have e3 := idx_wrap (h := h) (q := q) (by omega) hq
    have hin : 2 + 2 * h + q < out.length := by omega
    have hG := inner_getD q ls[i].l ls[i].r (2 + 2 * h + q) h out hin
    rw [if_neg (by omega)] at hG
    have hb := hc.getD hm (2 + 2 * h + q)
    have b1 := stT_le (h := (h : Int)) ho.out.1
    have b2 := stT_le (h := (h : Int)) ho.out.2
    have e4 : wrap64 (wrap64 ((inner q ls[i].l ls[i].r h out).getD (2 + 2 * h + q) 0 + stT (h : Int) ls[i].l) + stT (h : Int) ls[i].r) = (inner q ls[i].l ls[i].r h out).getD (2 + 2 * h + q) 0 + stT (h : Int) ls[i].l + stT (h : Int) ls[i].r := by
      exact add_wrap (by rw [hG]; omega) (by rw [hG]; omega) b1.1 b1.2 b2.1 b2.2
    rw [inner, ← e4] at hrec
    refine ((stands16 (h : Int) ls[i].l ho.out.1).bind (g := fun k a => (PA.elenchusref16_stands.f k ls[i].r.h (toSL ls[i].r.args) (h : Int)).bind fun b => PA.elenchusref16_Of.l1 k (toGL gs) (toLL ls) ((inner q ls[i].l ls[i].r h out).set (2 + 2 * h + q) (wrap64 (wrap64 ((inner q ls[i].l ls[i].r h out).getD (2 + 2 * h + q) 0 + a) + b))) (i : Int) (q : Int) ((h + 1 : Nat) : Int)) ?_).step fun k => ?_
    · exact (stands16 (h : Int) ls[i].r ho.out.2).bind (g := fun k b => PA.elenchusref16_Of.l1 k (toGL gs) (toLL ls) ((inner q ls[i].l ls[i].r h out).set (2 + 2 * h + q) (wrap64 (wrap64 ((inner q ls[i].l ls[i].r h out).getD (2 + 2 * h + q) 0 + stT (h : Int) ls[i].l) + b))) (i : Int) (q : Int) ((h + 1 : Nat) : Int)) hrec
    rw [PA.elenchusref16_Of.l1, if_pos (by rw [toGL_length]; omega), e3, if_pos (by omega), if_pos (by rw [inner_length]; omega), if_pos (by omega), if_pos (by rw [toLL_length]; omega), rdL_nat ls i hi, toLt_f1, toLt_f2, toS_f0, toS_f1, toS_f0, toS_f1, rd_getD, Int.toNat_natCast, wrap_next (by omega) (by omega)]; rfl
theorem featL_cnt {ls : List Lt} (ho : LtsOk ls) : ∀ {l : List Int} {m : Int}, 0 ≤ m → Cnt m l → Cnt (m + 2000000001 * ls.length) (featL ls l) := by
  induction ls with
  | nil => intro l m hm hc; exact hc.mono (by simp)
  | cons x r ih =>
    intro l m hm hc
    have hx := ho x (by simp)
    have h1 := hc.bump (kOf x) hm
    have h2 := h1.addT (kOf x) (by omega) x.l
    have h3 := h2.addT (kOf x) (by omega) x.r
    have h4 := ih (fun y hy => ho y (by simp [hy])) (show 0 ≤ m + 1 + x.l.size + x.r.size by omega) h3
    rw [featL]
    refine h4.mono ?_
    simp only [List.length_cons]
    push_cast
    omega
theorem of16_l0 (gs : List Sy) (ls : List Lt) (hg : gs.length ≤ 256) (hl : ls.length ≤ 40) (ho : LtsOk ls) (l : List Int) (hlen : l.length = 2 + 2 * gs.length) (hc : Cnt 0 l) :
    ∀ (d i : Nat), i + d = ls.length → Ev (fun k => PA.elenchusref16_Of.l0 k (toGL gs) (toLL ls) (featL (ls.take i) l) (i : Int)) (featL ls l, 0)
  | 0, i, hi => by
    rw [List.take_of_length_le (by omega)]
    refine Ev.const.step fun k => ?_
    rw [PA.elenchusref16_Of.l0, if_neg (by rw [toLL_length]; omega)]
  | d + 1, i, hi => by
    have hlt : i < ls.length := by omega
    have hrec := of16_l0 gs ls hg hl ho l hlen hc d (i + 1) (by omega)
    rw [featL_take ls i hlt l] at hrec
    have hk : kOf ls[i] < 2 := by simp only [kOf]; split <;> omega
    have hlb : (bump (featL (ls.take i) l) (kOf ls[i])).length = 2 + 2 * gs.length := by rw [bump_length, featL_length, hlen]
    rw [← inner_addT (kOf ls[i]) gs.length hk ls[i].l ls[i].r _ hlb] at hrec
    have hcn := featL_cnt (ls := ls.take i) (fun x hx => ho x (List.mem_of_mem_take hx)) (Int.le_refl 0) hc
    have hcn1 : Cnt 100000000000 (featL (ls.take i) l) := hcn.mono (by rw [List.length_take]; omega)
    have hcb : Cnt 100000000001 (bump (featL (ls.take i) l) (kOf ls[i])) := hcn1.bump _ (by omega)
    have hfl : (featL (ls.take i) l).length = 2 + 2 * gs.length := by rw [featL_length, hlen]
    have h1 := of16_l1 gs ls hg hl i hlt (hide (ho _ (List.getElem_mem hlt))) (kOf ls[i]) hk _ hlb _ (by omega) (by omega) hcb _ hrec gs.length 0 (by omega)
    rw [inner] at h1
    have hv := hcn1.getD (by omega) (kOf ls[i])
    have hb : (featL (ls.take i) l).set (kOf ls[i]) (wrap64 ((featL (ls.take i) l).getD (kOf ls[i]) 0 + 1)) = bump (featL (ls.take i) l) (kOf ls[i]) := by
      rw [bump, wrap_next (by omega) (by omega)]
    have hj : Ev (fun k => PA.elenchusref16_Of.j1 k (toGL gs) (toLL ls) (featL (ls.take i) l) (i : Int) (kOf ls[i] : Int)) (featL ls l, 0) := by
      refine h1.step fun k => ?_
      rw [PA.elenchusref16_Of.j1, if_pos (by omega), if_pos (by omega), rd_getD, Int.toNat_natCast, hb]; rfl
    refine hj.step fun k => ?_
    rw [PA.elenchusref16_Of.l0, if_pos (by rw [toLL_length]; omega), if_pos (by omega), rdL_nat ls i hlt, toLt_f0]
    by_cases hn : ls[i].neg = true
    · rw [if_pos hn, show kOf ls[i] = 1 by simp [kOf, hn]]; rfl
    · rw [if_neg hn, show kOf ls[i] = 0 by simp [kOf, hn]]; rfl
theorem Cnt.zeros (n : Nat) : Cnt 0 (List.replicate n 0) := by
  intro v hv
  have := List.eq_of_mem_replicate hv
  omega
theorem of16 (gs : List Sy) (h9 : gs.length ≤ 9223372036854775807) (ls : List Lt) (ho : LtsOk ls) : Ev (fun k => PA.elenchusref16_Of.f k (toGL gs) (toLL ls)) (if clauseC gs ls = 0 then feat gs ls else [], clauseC gs ls) := by
  unfold PA.elenchusref16_Of.f
  refine (check10 gs h9 ls ho).bind (g := fun k t665 => (if t665 = 0 then (if 0 ≤ (wrap64 (2 + (wrap64 (2 * ((toGL gs).length : Int))))) then (if (wrap64 (2 + (wrap64 (2 * ((toGL gs).length : Int)))) : Int).toNat ≤ 35184372088832 then (PA.elenchusref16_Of.l0 k (toGL gs) (toLL ls) (List.replicate (wrap64 (2 + (wrap64 (2 * ((toGL gs).length : Int)))) : Int).toNat 0) 0) else (none)) else (none)) else (some (([] : List Int), t665)))) ?_
  by_cases hc : clauseC gs ls = 0
  rotate_left
  · rw [if_neg hc]
    exact Ev.const.congr fun k => by rw [if_neg hc]
  rw [if_pos hc, hc]
  simp only [if_true]
  have hg := (weighC_len (clauseC_weigh hc)).2
  have hl := clauseC_len hc
  have e1 : wrap64 (2 * ((toGL gs).length : Int)) = 2 * (gs.length : Int) := by rw [toGL_length]; exact wrap_id (by omega) (by omega)
  have e2 : wrap64 (2 + 2 * (gs.length : Int)) = ((2 + 2 * gs.length : Nat) : Int) := by rw [wrap_id (by omega) (by omega)]; push_cast; rfl
  have h := of16_l0 gs ls hg (by omega) ho (List.replicate (2 + 2 * gs.length) 0) (by simp) (Cnt.zeros _) ls.length 0 (by omega)
  rw [List.take_zero, featL] at h
  refine h.congr fun k => ?_
  rw [e1, e2, if_pos (by omega), Int.toNat_natCast, if_pos (by omega)]; rfl
theorem under16_l0 (a b : List Int) (hab : a.length = b.length) (hl : a.length ≤ 9223372036854775807) : ∀ (d i : Nat), i + d = a.length → Ev (fun k => PA.elenchusref16_Under.l0 k a b (i : Int)) (underL (a.drop i) (b.drop i))
  | 0, i, hi => by
    rw [List.drop_eq_nil_of_le (show a.length ≤ i by omega), underL]
    refine (Ev.const.step (g := fun k => PA.elenchusref16_Under.j1 k a b (i : Int) false) fun k => ?_).step fun k => ?_
    · rw [PA.elenchusref16_Under.j1, if_neg (by simp), hab]; simp
    · rw [PA.elenchusref16_Under.l0, if_neg (by omega)]
  | d + 1, i, hi => by
    have hlt : i < a.length := by omega
    have hlb : i < b.length := by omega
    have hrec := under16_l0 a b hab hl d (i + 1) (by omega)
    rw [List.drop_eq_getElem_cons hlt, List.drop_eq_getElem_cons hlb, underL]
    have e : ((a.length : Int) == (b.length : Int)) = true := by rw [hab]; simp
    refine Ev.step (f := fun k => PA.elenchusref16_Under.j1 k a b (i : Int) true) ?_ fun k => by rw [PA.elenchusref16_Under.l0, if_pos (by omega), e]
    by_cases hc : a[i] ≤ b[i]
    · rw [decide_eq_true hc, Bool.true_and]
      refine hrec.step fun k => ?_
      rw [PA.elenchusref16_Under.j1, if_pos rfl, if_pos (by omega), if_pos (by omega), if_pos (by omega), rd_nat a i hlt, rd_nat b i hlb, if_neg (by omega), wrap_next (by omega) (by omega)]; rfl
    · rw [decide_eq_false hc, Bool.false_and]
      refine Ev.const.step fun k => ?_
      rw [PA.elenchusref16_Under.j1, if_pos rfl, if_pos (by omega), if_pos (by omega), if_pos (by omega), rd_nat a i hlt, rd_nat b i hlb, if_pos (by omega)]
theorem under16 (a b : List Int) (hl : a.length ≤ 9223372036854775807) : Ev (fun k => PA.elenchusref16_Under.f k a b) (underB a b) := by
  unfold PA.elenchusref16_Under.f
  by_cases hab : a.length = b.length
  · have h := under16_l0 a b hab hl a.length 0 (by omega)
    rw [List.drop_zero, List.drop_zero] at h
    have : underB a b = underL a b := by simp [underB, hab]
    rw [this]; exact h
  · have : underB a b = false := by simp [underB, hab]
    rw [this]
    have e : ((a.length : Int) == (b.length : Int)) = false := by simp; omega
    refine (Ev.const.step (g := fun k => PA.elenchusref16_Under.j1 k a b (0 : Int) false) fun k => ?_).step fun k => ?_
    · rw [PA.elenchusref16_Under.j1, if_neg (by simp), e]
    · rw [PA.elenchusref16_Under.l0, e]; split <;> rfl
end Go.Proofs.Ythplndalbfcbbaa
set_option linter.unusedSimpArgs false
set_option linter.unusedVariables false
namespace Go.Proofs.Ythplndalbfcbbaa
open Go.RowKit Go.Proofs.YthplndalbfcbbaaW.PrintWords
theorem of_pure16 (gs : List Sy) (ls : List Lt) (ho : LtsOk ls) : PA.feature_Of.f (toGL gs) (toLL ls) = some (if clauseC gs ls = 0 then feat gs ls else [], clauseC gs ls) := by
  unfold PA.feature_Of.f
  rw [ofGL_toGL, ofLL_toLL, if_pos (ltsOk_iff.2 ho)]
theorem few16_ok {gs : List Sy} {ls : List Lt} (h : few16B gs ls = true) : LtsOk ls := by
  simp only [few16B, Bool.and_eq_true] at h
  intro x hx
  have := (few10_sizes h.2).2 x hx
  omega
theorem fcounts_pure (gs : List Sy) (ls : List Lt) (a b : List Int) (h9 : gs.length ≤ 9223372036854775807) (ha : a.length ≤ 9223372036854775807) (hb : b.length ≤ 9223372036854775807) : Ev (fun k => PA.elenchuslaw16_FeatureCounts.f k (toGL gs) (toLL ls) a b) true := by
  unfold PA.elenchuslaw16_FeatureCounts.f
  have hT : Ev (fun k => PA.elenchuslaw16_FeatureCounts.j0 k (toGL gs) (toLL ls) a b true) true := Ev.const.step fun k => by rw [PA.elenchuslaw16_FeatureCounts.j0]; rfl
  refine (few16 gs ls h9).bind (g := fun k t => if t = true then (PA.elenchuslaw16_FeatureCounts.j0 k (toGL gs) (toLL ls) a b (decide ((wrap64 ((a.length : Int) + (b.length : Int))) > 500))) else (PA.elenchuslaw16_FeatureCounts.j0 k (toGL gs) (toLL ls) a b true)) ?_
  cases hf : few16B gs ls
  · exact hT.congr fun k => by simp
  simp only [if_true]
  have ho := few16_ok hf
  cases hd : decide ((wrap64 ((a.length : Int) + (b.length : Int))) > 500)
  rotate_left
  · exact hT
  have hj : Ev (fun k => (PA.feature_Of.f (toGL gs) (toLL ls)).bind fun bt681 => ((PA.elenchusref16_Of.f k (toGL gs) (toLL ls)).bind fun bt685 => ((PA.elenchuslaw16_awake.f).bind fun t689 => (if t689 = true then ((PA.elenchusref01_Ints.f bt681.1 bt685.1).bind fun t690 => (if t690 = true then (if bt681.2 = bt685.2 then ((PA.feature_Under.f a b).bind fun t691 => ((PA.elenchusref16_Under.f k a b).bind fun t692 => (some (t691 == t692)))) else (some false)) else (some false))) else (some false))))) true := by
    rw [of_pure16 gs ls ho]
    simp only [Option.bind_some]
    refine (of16 gs h9 ls ho).bind (g := fun k bt685 => ((PA.elenchuslaw16_awake.f).bind fun t689 => (if t689 = true then ((PA.elenchusref01_Ints.f (if clauseC gs ls = 0 then feat gs ls else []) bt685.1).bind fun t690 => (if t690 = true then (if clauseC gs ls = bt685.2 then ((PA.feature_Under.f a b).bind fun t691 => ((PA.elenchusref16_Under.f k a b).bind fun t692 => (some (t691 == t692)))) else (some false)) else (some false))) else (some false)))) ?_
    simp only [PA.elenchuslaw16_awake.f, PA.elenchusref01_Ints.f, PA.feature_Under.f, Option.bind_some, if_true, decide_true]
    exact (under16 a b ha).bind (g := fun k t692 => some (underB a b == t692)) (Ev.const.congr fun k => by simp)
  exact hj.step fun k => by rw [PA.elenchuslaw16_FeatureCounts.j0, if_neg (by simp)]
theorem fcounts_calls (gs : List Sy) (ls : List Lt) (a b : List Int) (s0 s1 s2 s3 : Value) (w : World) (h0 : Syms (fun _ => False) w s0 gs) (h1 : Lits (fun _ => False) w s1 ls) (h2 : Ints (fun _ => False) w s2 a) (h3 : Ints (fun _ => False) w s3 b) :
    Calls Try.prog 15 #[s0, s1, s2, s3] w fun e w' => e = .returned (.bool true) ∧ Below w.heap.size w w' := by
  obtain ⟨a0, c0, rfl, -, g9⟩ := h0.shape
  obtain ⟨a1, c1, rfl, -, -⟩ := h1.shape
  obtain ⟨a2, c2, rfl, -, n2⟩ := h2.shape
  obtain ⟨a3, c3, rfl, -, n3⟩ := h3.shape
  obtain ⟨e0, l0, k0⟩ := cg_of h0
  obtain ⟨e1, l1, k1⟩ := cl_of h1
  obtain ⟨-, l2, k2⟩ := ci_of h2
  obtain ⟨-, l3, k3⟩ := ci_of h3
  rw [e0, e1]
  obtain ⟨f0, hk⟩ := fcounts_pure gs ls a b g9 n2 n3
  exact PA.elenchuslaw16_FeatureCounts.calls f0 a0 c0 (toGL gs) a1 c1 (toLL ls) a2 c2 a a3 c3 b true w k0 l0 k1 l1 k2 l2 k3 l3 (hk f0 (Nat.le_refl _))
end Go.Proofs.Ythplndalbfcbbaa
