/- What the proof of the law rests on: contracts of the functions, plain laws, and words. -/
import Derived.Test.YthplndalbfcbbaaKUnifyMakesL2
import Derived.Test.YthplndalbfcbbaaKUnifyMakesL0
import Derived.Test.YthplndalbfcbbaaKUnifyMakesG6
import Derived.Test.YthplndalbfcbbaaKUnifyMakesXUnifyT
set_option linter.unusedSimpArgs false
set_option linter.unusedVariables false
namespace Go.Proofs.Ythplndalbfcbbaa
open Go.RowKit Go.Proofs.YthplndalbfcbbaaW.PrintWords
def EndB (L0 : Pairs) : Option Sub → Prop
  | some S => (∃ f, Solved f S ∧ UState L0 f []) ∧ ∀ v, 0 ≤ v → v ≤ 255 → (S v).size ≤ 9000000000000000000
  | none => ∀ τ, ¬ Sol τ L0
theorem bsOf_start : bsOf varT = [] := by
  unfold bsOf
  have : (upto 256).filter (movesS varT) = [] := List.filter_eq_nil_iff.2 fun v _ => by simp [movesS, varT, Tm.h]
  rw [this]; rfl
theorem solve_rows {ps ts : List Tm} (hl : ps.length = ts.length) (h10 : ps.length ≤ 10) (hp : Tm.goods ps = true) (ht : Tm.goods ts = true) (hz : Tm.sizes ps + Tm.sizes ts ≤ 10000) (hdeg : degs (nsubsL (ps ++ ts)) ≤ 116) :
    ∃ r, EndB (ps.zip ts) r ∧ Ev (fun k => PA.elenchusref04_solve.l0 k (toPL (ps.zip ts)) []) (outU r) := by
  have hg : Tm.goods (ps ++ ts) = true := goods_of_mem fun t h => by
    rcases List.mem_append.1 h with h | h
    · exact goods_mem hp t h
    · exact goods_mem ht t h
  have hD := closedL hg
  have hDl : (nsubsL (ps ++ ts)).length ≤ 10000 := by
    have := nsubsL_length (ps ++ ts)
    rw [Tm.sizes_append] at this; omega
  have hb : gB (degs (nsubsL (ps ++ ts))) ≤ 9000000000000000000 := Nat.le_trans (gB_mono hdeg) gB_116
  have hst := sstate_start hD hl h10 (fun t h => inD_nsubsL hg (by simp [h])) (fun t h => inD_nsubsL hg (by simp [h]))
  obtain ⟨r, h1, h2⟩ := solve_ev (L0 := ps.zip ts) hD hDl hb _ _ _ _ _ hst (RelL.refl _) (goodP_zip hp ht) (Nat.lt_succ_self _)
  obtain ⟨r', h3, h4⟩ := unS_law hD _ _ _ _ _ hst (RelL.refl _) (Nat.lt_succ_self _)
  rw [h1] at h3
  cases h3
  refine ⟨r, ?_, ?_⟩
  · cases r with
    | none => exact h4
    | some S =>
      obtain ⟨f, g1, g2, g3⟩ := h4
      exact ⟨⟨f, g1, g2⟩, fun v h0 h1 => Nat.le_trans (dag_bound_sub hD g1 g3 h0 h1) hb⟩
  · rw [bsOf_start] at h2
    exact h2
theorem sol_one {a b : Tm} (ha : ¬ a.h < 0) (hb : ¬ b.h < 0) (hh : a.h = b.h) (hl : a.args.length = b.args.length) (τ : Sub) : Sol τ [(a, b)] ↔ Sol τ (a.args.zip b.args) := by
  rw [sol_zip hl, sol_cons]
  simp only [app_pos ha, app_pos hb, Tm.node.injEq, hh, true_and]
  exact ⟨fun h => h.1, fun h => ⟨h, fun p hp => by cases hp⟩⟩
theorem solve_one {a b : Tm} (ga : a.good = true) (gb : b.good = true) (sa : a.size ≤ 60) (sb : b.size ≤ 60) : ∃ r, EndB [(a, b)] r ∧ Ev (fun k => PA.elenchusref04_solve.l0 k (toPL [(a, b)]) []) (outU r) := by
  have hgo : ∀ t : Tm, t.good = true → Tm.goods [t] = true := fun t h => goods_of_mem fun u hu => by simp at hu; rw [hu]; exact h
  have e1 : ∀ t : Tm, Tm.sizes [t] = t.size := fun t => by simp [Tm.sizes]
  have hvar : ∀ t : Tm, t.good = true → t.h < 0 → t.size = 1 := fun t hg hn => by
    have := good_is_var hg hn
    rw [this]; simp [varT, Tm.size, Tm.sizes]
  by_cases hv : a.h < 0 ∨ b.h < 0
  · refine solve_rows (ps := [a]) (ts := [b]) rfl (by simp) (hgo a ga) (hgo b gb) (by rw [e1, e1]; omega) ?_
    have hdg := degs_nsubsL ([a] ++ [b]) (goods_of_mem fun u hu => by simp at hu; rcases hu with rfl | rfl <;> assumption)
    rw [Tm.sizes_append, e1, e1] at hdg
    rcases hv with hv | hv
    · have := hvar a ga hv; omega
    · have := hvar b gb hv; omega
  · have ha : ¬ a.h < 0 := fun h => hv (.inl h)
    have hb : ¬ b.h < 0 := fun h => hv (.inr h)
    have p0 : ∀ t : Tm, t.good = true → PA.elenchusref03_Put.f (toBL []) t.h (toSL t.args) = some (t.h, toSL t.args) := fun t ht => by
      unfold PA.elenchusref03_Put.f
      rw [ofS_mk, ofBL_toBL, if_pos ht, app_put]
      have : app (fun v => ofBs v []) t = t := app_id t ht
      rw [this]
    have p1 := p0 a ga
    have p2 := p0 b gb
    have ps := same_pureG (p := a) (t := b) (by omega) (by omega)
    have head : ∀ r : List BS × Bool, Ev (fun k => if sameB a b = true then PA.elenchusref04_solve.l0 k [] [] else (PA.elenchusref04_bound.f k a.h (toSL a.args) b.h (toSL b.args)).bind fun q => if q = 2 then PA.elenchusref04_solve.j1 k [] [] q b.h (toSL b.args) a.h (toSL a.args) else PA.elenchusref04_solve.j1 k [] [] q a.h (toSL a.args) b.h (toSL b.args)) r →
        Ev (fun k => PA.elenchusref04_solve.l0 k (toPL [(a, b)]) []) r := fun r hr' => by
      refine hr'.step fun k => ?_
      rw [PA.elenchusref04_solve.l0, if_pos (by rw [toPL_length, List.length_cons]; omega), if_pos (by rw [toPL_length, List.length_cons]; omega)]
      have hrd : PA.rd_T135 (toPL [(a, b)]) 0 = toP (a, b) := rdP_nat [(a, b)] 0 (by simp)
      rw [hrd]
      have q1 : PA.elenchusref03_Put.f [] a.h (toSL a.args) = some (a.h, toSL a.args) := p1
      have q2 : PA.elenchusref03_Put.f [] b.h (toSL b.args) = some (b.h, toSL b.args) := p2
      simp only [toP, toS_f0, toS_f1, q1, q2, Option.bind_some, ps]
      rw [if_pos (by rw [toPL_length, List.length_cons]; omega)]
      rfl
    by_cases he : sameB a b = true
    · refine ⟨some varT, ⟨⟨noE, solved_start, fun τ => ?_⟩, fun v h0 h1 => by simp [varT, Tm.size, Tm.sizes]⟩, head _ ?_⟩
      · have := sameB_iff.1 he
        subst this
        exact ⟨fun _ => ⟨fun p hp => (by cases hp), fun v t h => (by cases h)⟩, fun _ p hp => (by simp at hp; rw [hp])⟩
      · have h0 : outU (some varT) = ([], true) := by show (toBL (bsOf varT), true) = _; rw [bsOf_start]; rfl
        rw [h0]
        refine Ev.congr (f := fun k => PA.elenchusref04_solve.l0 k [] []) ?_ fun k => by rw [if_pos he]
        refine Ev.const.step fun k => ?_
        rw [PA.elenchusref04_solve.l0, if_neg (by simp)]
    · have hno : ∀ r, Ev (fun k => PA.elenchusref04_solve.j1 k [] [] 0 a.h (toSL a.args) b.h (toSL b.args)) r → Ev (fun k => PA.elenchusref04_solve.l0 k (toPL [(a, b)]) []) r := fun r hr' => by
        refine head r ?_
        have hbd := bound_ev (a := a.h) (b := b.h) (l := toSL a.args) (m := toSL b.args)
        rw [if_neg (show ¬ (a.h < 0 ∧ (b.h < 0 → a.h < b.h)) from fun e => ha e.1), if_neg hb] at hbd
        refine Ev.congr (f := fun k => (PA.elenchusref04_bound.f k a.h (toSL a.args) b.h (toSL b.args)).bind fun q => if q = 2 then PA.elenchusref04_solve.j1 k [] [] q b.h (toSL b.args) a.h (toSL a.args) else PA.elenchusref04_solve.j1 k [] [] q a.h (toSL a.args) b.h (toSL b.args)) ?_ fun k => by rw [if_neg he]
        exact hbd.bind (g := fun k q => if q = 2 then PA.elenchusref04_solve.j1 k [] [] q b.h (toSL b.args) a.h (toSL a.args) else PA.elenchusref04_solve.j1 k [] [] q a.h (toSL a.args) b.h (toSL b.args)) (by simpa using hr')
      by_cases h3 : a.h = b.h ∧ a.args.length = b.args.length
      · have ha8 := (good_args ga).2.1
        have za := a.size_eq
        have zb := b.size_eq
        have hdg := degs_nsubsL (a.args ++ b.args) (goods_of_mem fun u hu => by
          rcases List.mem_append.1 hu with hu | hu
          · exact goods_mem (goodsOf ga) u hu
          · exact goods_mem (goodsOf gb) u hu)
        rw [Tm.sizes_append, List.length_append] at hdg
        have hdeg : degs (nsubsL (a.args ++ b.args)) ≤ 116 := by
          rcases Nat.eq_zero_or_pos a.args.length with h0 | h0
          · have e2 : a.args = [] := List.length_eq_zero_iff.1 h0
            have e3 : b.args = [] := List.length_eq_zero_iff.1 (by omega)
            rw [e2, e3]; simp [nsubsL, degs]
          · omega
        obtain ⟨r, h1, h2⟩ := solve_rows h3.2 (by omega) (goodsOf ga) (goodsOf gb) (by omega) hdeg
        refine ⟨r, ?_, hno _ ?_⟩
        · cases r with
          | none => exact fun τ hτ => h1 τ ((sol_one ha hb h3.1 h3.2 τ).1 hτ)
          | some S =>
            obtain ⟨⟨f, g1, g2⟩, g3⟩ := h1
            exact ⟨⟨f, g1, fun τ => (sol_one ha hb h3.1 h3.2 τ).trans (g2 τ)⟩, g3⟩
        · have hl1 := solve_l1 (x := a) (y := b) (L := []) (s := []) ha8 h3.2 (by simp) (by rw [List.append_nil]; exact h2) a.args.length 0 (by omega)
          have hj2 : Ev (fun k => PA.elenchusref04_solve.j2 k [] [] (((toSL a.args).length : Int) != ((toSL b.args).length : Int)) a.h (toSL a.args) b.h (toSL b.args)) (outU r) := by
            refine hl1.step fun k => ?_
            rw [PA.elenchusref04_solve.j2, if_neg (by rw [toSL_length, toSL_length, h3.2]; simp)]
            rfl
          refine hj2.step fun k => ?_
          rw [PA.elenchusref04_solve.j1, if_neg (by omega), if_pos h3.1]
      · refine ⟨none, fun τ hτ => ?_, hno _ ?_⟩
        · have h9 := (sol_cons.1 hτ).1
          rw [app_pos ha, app_pos hb, Tm.node.injEq] at h9
          exact h3 ⟨h9.1, by have := congrArg List.length h9.2; rwa [appL_length, appL_length] at this⟩
        · have hj2 : Ev (fun k => PA.elenchusref04_solve.j2 k [] [] true a.h (toSL a.args) b.h (toSL b.args)) (outU none) := Ev.const.step fun k => by rw [PA.elenchusref04_solve.j2, if_pos rfl]; rfl
          refine hj2.step fun k => ?_
          rw [PA.elenchusref04_solve.j1, if_neg (by omega)]
          by_cases hh : a.h = b.h
          · rw [if_pos hh, toSL_length, toSL_length, show ((a.args.length : Int) != (b.args.length : Int)) = true by
              have : a.args.length ≠ b.args.length := fun q => h3 ⟨hh, q⟩
              simp; omega]
          · rw [if_neg hh]
theorem solve_few {ps ts : List Tm} (hl : ps.length = ts.length) (h10 : ps.length ≤ 10) (hp : Tm.goods ps = true) (ht : Tm.goods ts = true) (sp : Tm.sizes ps ≤ 60) (st : Tm.sizes ts ≤ 60) :
    ∃ r, EndB (ps.zip ts) r ∧ Ev (fun k => PA.elenchusref04_solve.l0 k (toPL (ps.zip ts)) []) (outU r) := by
  have hdg := degs_nsubsL (ps ++ ts) (goods_of_mem fun u hu => by
    rcases List.mem_append.1 hu with hu | hu
    · exact goods_mem hp u hu
    · exact goods_mem ht u hu)
  rw [Tm.sizes_append, List.length_append] at hdg
  rcases Nat.lt_trichotomy ps.length 1 with h | h | h
  · have e1 : ps = [] := List.length_eq_zero_iff.1 (by omega)
    have e2 : ts = [] := List.length_eq_zero_iff.1 (by omega)
    subst e1; subst e2
    exact solve_rows rfl (by simp) hp ht (by omega) (by simp [nsubsL, degs])
  · obtain ⟨a, rfl⟩ : ∃ a, ps = [a] := List.length_eq_one_iff.1 h
    obtain ⟨b, rfl⟩ : ∃ b, ts = [b] := List.length_eq_one_iff.1 (by omega)
    exact solve_one (goods_mem hp a (by simp)) (goods_mem ht b (by simp)) (by simpa [Tm.sizes] using sp) (by simpa [Tm.sizes] using st)
  · exact solve_rows hl h10 hp ht (by omega) (by omega)
theorem endL_cons (S : Sub) (v : Int) (vs : List Int) (acc : List Bd) (hg : (S v).good = true) : endL S (v :: vs) acc = if chk (S v) = 0 then endL S vs (acc ++ [⟨v, S v⟩]) else ([], chk (S v)) := by
  by_cases h1 : 400 < (S v).size
  · simp [endL, chk, h1]
  · by_cases h2 : 40 < (S v).depth
    · simp [endL, chk, h1, h2]
    · simp [endL, chk, h1, h2, hg]
theorem all_l1 (S : Sub) (vs : List Int) (hv : vs.length ≤ 256) (hg : ∀ v, v ∈ vs → (S v).good = true ∧ (S v).size ≤ 9000000000000000000) :
    ∀ (d i : Nat), i + d = vs.length → Ev (fun k => PA.elenchusref04_All.l1 k (toBL (vs.map fun v => ⟨v, S v⟩)) true (i : Int))
      (toBL (endL S (vs.drop i) ((vs.take i).map fun v => ⟨v, S v⟩)).1, (endL S (vs.drop i) ((vs.take i).map fun v => ⟨v, S v⟩)).2 == 0, (endL S (vs.drop i) ((vs.take i).map fun v => ⟨v, S v⟩)).2)
  | 0, i, hi => by
    rw [List.drop_eq_nil_of_le (by omega), List.take_of_length_le (by omega), endL]
    refine Ev.const.step fun k => ?_
    rw [PA.elenchusref04_All.l1, if_neg (by rw [toBL_length, List.length_map]; omega)]
    rfl
  | d + 1, i, hi => by
    have hlt : i < vs.length := by omega
    have hm := hg _ (List.getElem_mem hlt)
    have hrec := all_l1 S vs hv hg d (i + 1) (by omega)
    have hb : PA.rd_T60 (toBL (vs.map fun v => ⟨v, S v⟩)) (i : Int) = toB ⟨vs[i], S vs[i]⟩ := by
      rw [rdB_nat _ i (by rw [List.length_map]; omega), List.getElem_map]
    rw [List.drop_eq_getElem_cons hlt, endL_cons S _ _ _ hm.1]
    refine ((refcheck hm.1 hm.2).bind (g := fun k e => if e = 0 then PA.elenchusref04_All.l1 k (toBL (vs.map fun v => ⟨v, S v⟩)) true ((i + 1 : Nat) : Int) else some (([] : List BS), false, e)) ?_).step fun k => ?_
    · by_cases hc : chk (S vs[i]) = 0
      · rw [if_pos hc]
        rw [List.take_succ_eq_append_getElem hlt, List.map_append] at hrec
        exact hrec.congr fun k => by rw [if_pos hc]
      · rw [if_neg hc]
        have e9 : (chk (S vs[i]) == 0) = false := by simpa using hc
        simp only [e9]
        exact Ev.const.congr fun k => by rw [if_neg hc]; rfl
    · rw [PA.elenchusref04_All.l1, if_pos (by rw [toBL_length, List.length_map]; omega), if_pos (by omega), hb, wrap_next (by omega) (by omega)]
      simp only [toB, toS_f0, toS_f1]; rfl
theorem all_l0 {ps ts : List Tm} (hl : ps.length = ts.length) (h10 : ps.length ≤ 10) {r : List BS × Bool × Int} {q : List BS × Bool} (hs : Ev (fun k => PA.elenchusref04_solve.l0 k (toPL (ps.zip ts)) []) q) (hr : Ev (fun k => PA.elenchusref04_All.l1 k q.1 q.2 0) r) :
    ∀ (d i : Nat), i + d = ps.length → Ev (fun k => PA.elenchusref04_All.l0 k (toSL ps) (toSL ts) (toPL ((ps.zip ts).take i)) (i : Int)) r
  | 0, i, hi => by
    have hz : (ps.zip ts).length = ps.length := by rw [List.length_zip]; omega
    refine (hs.bind (g := fun k q => PA.elenchusref04_All.l1 k q.1 q.2 0) hr).step fun k => ?_
    rw [PA.elenchusref04_All.l0, if_neg (by rw [toSL_length]; omega), List.take_of_length_le (by omega)]
    rfl
  | d + 1, i, hi => by
    have hz : (ps.zip ts).length = ps.length := by rw [List.length_zip]; omega
    have hlt : i < ps.length := by omega
    have hlt2 : i < ts.length := by omega
    have hrec := all_l0 hl h10 hs hr d (i + 1) (by omega)
    refine hrec.step fun k => ?_
    rw [PA.elenchusref04_All.l0, if_pos (by rw [toSL_length]; omega), if_pos (by omega), if_pos (by rw [toSL_length]; omega), if_pos (by rw [toPL_length, List.length_take]; omega), wrap_next (by omega) (by omega), rdT_nat ps i hlt, rdT_nat ts i hlt2]
    rw [List.take_succ_eq_append_getElem (by omega : i < (ps.zip ts).length)]
    simp only [toPL, List.map_append, List.map_cons, List.map_nil, List.getElem_zip, toP, toS_f0, toS_f1, mkS]; rfl
theorem refall {ps ts : List Tm} (h10 : ps.length ≤ 10) (sp : Tm.sizes ps ≤ 60) (st : Tm.sizes ts ≤ 60) :
    Ev (fun k => PA.elenchusref04_All.f k (toSL ps) (toSL ts)) (toBL (unifyT ps ts).1, (unifyT ps ts).2.1, (unifyT ps ts).2.2) := by
  have hall : ∀ l : List Tm, Tm.sizes l ≤ 60 → PA.elenchusref01_All.f (toSL l) = some (l.all rightB) := fun l hl => by
    unfold PA.elenchusref01_All.f
    rw [ofSL_toSL, if_pos]
    rw [List.all_eq_true]
    intro t ht
    obtain ⟨i, hi, rfl⟩ := List.getElem_of_mem ht
    have := Tm.size_get l i hi
    simp; omega
  unfold PA.elenchusref04_All.f
  rw [hall ps sp, hall ts st]
  simp only [Option.bind_some, toSL_length]
  have hwrong : ∀ b : Bool, b = true → (∀ x, unifyT ps ts = x → x = ([], false, 1)) → Ev (fun k => PA.elenchusref04_All.j0 k (toSL ps) (toSL ts) b) (toBL (unifyT ps ts).1, (unifyT ps ts).2.1, (unifyT ps ts).2.2) := fun b hb hx => by
    rw [hx _ rfl, hb]
    refine Ev.const.step fun k => ?_
    rw [PA.elenchusref04_All.j0, if_pos rfl]; rfl
  cases hp : ps.all rightB
  · simp only [Bool.false_eq_true, if_false]
    exact hwrong true rfl fun x hx => hx ▸ unify_wrong (fun h => by rw [hp] at h; exact absurd h.2.1 (by simp))
  cases ht : ts.all rightB
  · simp only [Bool.false_eq_true, if_false, if_true]
    exact hwrong true rfl fun x hx => hx ▸ unify_wrong (fun h => by rw [ht] at h; exact absurd h.2.2 (by simp))
  simp only [if_true]
  by_cases hl : ps.length = ts.length
  rotate_left
  · exact hwrong _ (by simp; omega) fun x hx => hx ▸ unify_wrong (fun h => hl h.1)
  have hgp := goods_of_right hp
  have hgt := goods_of_right ht
  obtain ⟨r, h1, h2⟩ := solve_few hl h10 hgp hgt sp st
  have fin : ∀ q : List BS × Bool × Int, Ev (fun k => PA.elenchusref04_All.l1 k (outU r).1 (outU r).2 0) q → Ev (fun k => PA.elenchusref04_All.j0 k (toSL ps) (toSL ts) ((ps.length : Int) != (ts.length : Int))) q := fun q hq => by
    have := all_l0 hl h10 h2 hq ps.length 0 (by omega)
    refine this.step fun k => ?_
    rw [PA.elenchusref04_All.j0, if_neg (by rw [hl]; simp)]
    rfl
  refine fin _ ?_
  cases r with
  | none =>
    rw [unify_none hl h10 hp ht h1]
    refine Ev.const.step fun k => ?_
    simp only [outU]
    rw [PA.elenchusref04_All.l1, if_neg (by simp)]
    rfl
  | some S =>
    obtain ⟨⟨f, g1, g2⟩, g3⟩ := h1
    rw [unify_some hl h10 hp ht (mgu_of g1 g2)]
    have := all_l1 S ((upto 256).filter (movesS S)) (Nat.le_trans (List.length_filter_le _ _) (by simp [upto])) (fun v hv => by
      have hv := mem_upto.1 (List.mem_filter.1 hv).1
      exact ⟨g1.good v hv.1 (by omega), g3 v hv.1 (by omega)⟩) ((upto 256).filter (movesS S)).length 0 (by omega)
    simp only [List.drop_zero, List.take_zero, List.map_nil] at this
    exact this
theorem refmgu {a b : Tm} (sa : a.size ≤ 60) (sb : b.size ≤ 60) :
    Ev (fun k => PA.elenchusref04_Mgu.f k a.h (toSL a.args) b.h (toSL b.args)) (toBL (unifyT [a] [b]).1, (unifyT [a] [b]).2.1, (unifyT [a] [b]).2.2) := by
  have h := refall (ps := [a]) (ts := [b]) (by simp) (by simpa [Tm.sizes] using sa) (by simpa [Tm.sizes] using sb)
  unfold PA.elenchusref04_Mgu.f
  rw [one_list, one_list]
  exact h.bind (g := fun k x => some (x.1, x.2.1, x.2.2)) Ev.const
end Go.Proofs.Ythplndalbfcbbaa
set_option linter.unusedSimpArgs false
set_option linter.unusedVariables false
namespace Go.Proofs.Ythplndalbfcbbaa
open Go.RowKit Go.Proofs.YthplndalbfcbbaaW.PrintWords
theorem endL_no {S : Sub} : ∀ (vs : List Int) (acc : List Bd), (endL S vs acc).2 ≠ 0 → (endL S vs acc).1 = []
  | [], acc, h => absurd rfl h
  | v :: vs, acc, h => by
    simp only [endL] at h ⊢
    split
    · rfl
    · rename_i h1
      rw [if_neg h1] at h
      split
      · rfl
      · rename_i h2
        rw [if_neg h2] at h
        exact endL_no vs _ h
theorem endL_yes {S : Sub} : ∀ (vs : List Int) (acc : List Bd), (∀ v, v ∈ vs → (S v).good = true) → (endL S vs acc).2 = 0 → (endL S vs acc).1 = acc ++ vs.map (fun v => ⟨v, S v⟩) ∧ ∀ v, v ∈ vs → chk (S v) = 0
  | [], acc, _, _ => ⟨by simp [endL], by simp⟩
  | v :: vs, acc, hg, h => by
    simp only [endL] at h ⊢
    by_cases h1 : 400 < (S v).size
    · rw [if_pos h1] at h; cases h
    · rw [if_neg h1] at h ⊢
      by_cases h2 : 40 < (S v).depth
      · rw [if_pos h2] at h; cases h
      · rw [if_neg h2] at h ⊢
        obtain ⟨g1, g2⟩ := endL_yes vs _ (fun u hu => hg u (by simp [hu])) h
        refine ⟨by rw [g1]; simp, fun u hu => ?_⟩
        rcases List.mem_cons.1 hu with rfl | hu
        · simp [chk, h1, h2, hg u (by simp)]
        · exact g2 u hu
inductive UCase (ps ts : List Tm) : Prop
  | wrong : ¬ (ps.length = ts.length ∧ ps.all rightB = true ∧ ts.all rightB = true) → unifyT ps ts = ([], false, 1) → UCase ps ts
  | none : ps.length = ts.length → ps.all rightB = true → ts.all rightB = true → (∀ τ, ¬ Sol τ (ps.zip ts)) → unifyT ps ts = ([], false, 0) → UCase ps ts
  | long (f : Env) (S : Sub) (e : Int) : ps.length = ts.length → ps.all rightB = true → ts.all rightB = true → Solved f S → UState (ps.zip ts) f [] → e = 2 ∨ e = 7 → unifyT ps ts = ([], false, e) → UCase ps ts
  | ok (f : Env) (S : Sub) : ps.length = ts.length → ps.all rightB = true → ts.all rightB = true → Solved f S → UState (ps.zip ts) f [] → (∀ v, 0 ≤ v → v ≤ 255 → chk (S v) = 0) → unifyT ps ts = (tidyF S, true, 0) → UCase ps ts
theorem endL_err {S : Sub} : ∀ (vs : List Int) (acc : List Bd), (endL S vs acc).2 = 0 ∨ (endL S vs acc).2 = 2 ∨ (endL S vs acc).2 = 7
  | [], acc => .inl rfl
  | v :: vs, acc => by
    simp only [endL]
    split
    · exact .inr (.inl rfl)
    · split
      · exact .inr (.inr rfl)
      · exact endL_err vs _
theorem ucase {ps ts : List Tm} (h10 : ps.length ≤ 10) : UCase ps ts := by
  by_cases hc : ps.length = ts.length ∧ ps.all rightB = true ∧ ts.all rightB = true
  rotate_left
  · exact .wrong hc (unify_wrong hc)
  obtain ⟨hl, hp, ht⟩ := hc
  obtain ⟨r, h1, h2⟩ := unify_ends hl h10 hp ht
  cases r with
  | none => exact .none hl hp ht h2 (unify_none hl h10 hp ht h2)
  | some S =>
    obtain ⟨f, g1, g2, g3⟩ := h2
    have hs := unify_some hl h10 hp ht (mgu_of g1 g2)
    have hgd : ∀ v, v ∈ (upto 256).filter (movesS S) → (S v).good = true := fun v hv => by
      have := mem_upto.1 (List.mem_filter.1 hv).1
      exact g1.good v this.1 (by omega)
    by_cases he : (tidyS S).2 = 0
    · have hy := endL_yes ((upto 256).filter (movesS S)) [] hgd he
      refine .ok f S hl hp ht g1 g2 (fun v h0 h1 => ?_) ?_
      · by_cases hm : movesS S v = true
        · exact hy.2 v (List.mem_filter.2 ⟨mem_upto.2 ⟨h0, by omega⟩, hm⟩)
        · rw [moves_iff g1 h0 h1] at hm
          have hf : f v = none := by
            cases hf : f v with
            | none => rfl
            | some t => rw [hf] at hm; exact absurd rfl hm
          rw [g1.free v hf]
          exact rightB_chk.1 (rightB_var h0 h1)
      · rw [hs, he]
        have e1 : (tidyS S).1 = tidyF S := by
          have := hy.1
          rw [List.nil_append] at this
          exact this
        rw [e1]; rfl
    · have hn := endL_no ((upto 256).filter (movesS S)) [] he
      have hr : (tidyS S).2 = 2 ∨ (tidyS S).2 = 7 := (endL_err ((upto 256).filter (movesS S)) []).resolve_left he
      refine .long f S (tidyS S).2 hl hp ht g1 g2 hr ?_
      rw [hs]
      have e1 : (tidyS S).1 = [] := hn
      have e2 : ((tidyS S).2 == 0) = false := by simpa using he
      rw [e1, e2]
theorem unifyT_sizes {ps ts : List Tm} (h10 : ps.length ≤ 10) : ∀ b, b ∈ (unifyT ps ts).1 → b.t.size ≤ 400 := by
  intro b hb
  cases ucase (ts := ts) h10 with
  | wrong _ e => rw [e] at hb; cases hb
  | none _ _ _ _ e => rw [e] at hb; cases hb
  | long _ _ _ _ _ _ _ _ _ e => rw [e] at hb; cases hb
  | ok f S _ _ _ _ _ h e =>
    rw [e] at hb
    obtain ⟨h1, h2, h3⟩ := tidyF_mem.1 hb
    rw [h2]
    exact right_size (h _ h1.1 h1.2)
theorem unify_pure {a b : Tm} (ha : a.size ≤ 1000000000) (hb : b.size ≤ 1000000000) : PA.unify_Mgu.f a.h (toSL a.args) b.h (toSL b.args) = some (toBL (unifyT [a] [b]).1, (unifyT [a] [b]).2.1, (unifyT [a] [b]).2.2) := by
  unfold PA.unify_Mgu.f
  rw [ofS_mk, ofS_mk, if_pos ⟨ha, hb⟩]
theorem same_selfU {l : List Bd} (h : ∀ b, b ∈ l → b.t.size ≤ 1000000000) : PA.elenchusref03_Same.f (toBL l) (toBL l) = some true := by
  unfold PA.elenchusref03_Same.f
  rw [ofBL_toBL, if_pos ⟨eqBL_iff.2 rfl, List.all_eq_true.2 fun b hb => by simpa using h b hb⟩]
theorem two_list (a b : Tm) : [(⟨a.h, toSL a.args⟩ : TS), ⟨b.h, toSL b.args⟩] = toSL [a, b] := by cases a; cases b; simp [toSL, toS, Tm.h, Tm.args]
theorem v_any {w : World} {s : Value} {l : List Tm} (hs : Terms (fun _ => False) w s l) : Kd.V kT 25 w w.heap.size (fun k_ => (fun _ => True) k_) s (toSL l) := v_of hs fun _ _ _ => trivial
end Go.Proofs.Ythplndalbfcbbaa
set_option linter.unusedSimpArgs false
set_option linter.unusedVariables false
namespace Go.Proofs.Ythplndalbfcbbaa
open Go.RowKit Go.Proofs.YthplndalbfcbbaaW.PrintWords
theorem umakes_pure (a b : Tm) : Ev (fun k => PA.elenchuslaw04_UnifyMakes.f k a.h (toSL a.args) b.h (toSL b.args)) true := by
  unfold PA.elenchuslaw04_UnifyMakes.f
  rw [two_list]
  refine (few4_f [a, b]).bind (g := fun k t => if t = true then (PA.unify_Mgu.f a.h (toSL a.args) b.h (toSL b.args)).bind fun x => (PA.elenchusref04_Mgu.f k a.h (toSL a.args) b.h (toSL b.args)).bind fun y => PA.elenchuslaw04_awake.f.bind fun z => if z = true then (PA.elenchusref03_Same.f x.1 y.1).bind fun u => if u = true then if (x.2.1 == y.2.1) = true then some (x.2.2 == y.2.2) else some false else some false else some false else some true) ?_
  cases hf : fewR [a, b]
  · exact Ev.const.congr fun k => by simp
  have hz := fewR_sizes hf
  simp only [Tm.sizes] at hz
  simp only [if_true]
  rw [unify_pure (by omega) (by omega)]
  simp only [Option.bind_some]
  refine (refmgu (a := a) (b := b) (by omega) (by omega)).bind (g := fun k y => PA.elenchuslaw04_awake.f.bind fun z => if z = true then (PA.elenchusref03_Same.f (toBL (unifyT [a] [b]).1) y.1).bind fun u => if u = true then if ((unifyT [a] [b]).2.1 == y.2.1) = true then some ((unifyT [a] [b]).2.2 == y.2.2) else some false else some false else some false) ?_
  refine Ev.const.congr fun k => ?_
  simp [PA.elenchuslaw04_awake.f, same_selfU fun b' hb => Nat.le_trans (unifyT_sizes (ps := [a]) (ts := [b]) (by simp) b' hb) (by omega)]
theorem umakes_calls (a b : Tm) (h1 h2 : Int) (s1 s2 : Value) (w : World) (ha : IsTm (fun _ => False) w h1 s1 a) (hb : IsTm (fun _ => False) w h2 s2 b) :
    Calls Try.prog 12 #[.agg #[.int .i64 h1, s1], .agg #[.int .i64 h2, s2]] w fun e w' => e = .returned (.bool true) ∧ Below w.heap.size w w' := by
  obtain ⟨rfl, a1, c1, rfl, -, -⟩ := ha.shape
  obtain ⟨rfl, a2, c2, rfl, -, -⟩ := hb.shape
  have k1 := v_any ha.2
  have k2 := v_any hb.2
  have e1 : a.args.length = (toSL a.args).length := (toSL_length _).symm
  have e2 : b.args.length = (toSL b.args).length := (toSL_length _).symm
  rw [e1] at k1 ⊢
  rw [e2] at k2 ⊢
  obtain ⟨k0, hk⟩ := umakes_pure a b
  exact PA.elenchuslaw04_UnifyMakes.calls k0 a.h _ a1 c1 (toSL a.args) b.h _ a2 c2 (toSL b.args) true w k1 k2 (hk k0 (Nat.le_refl _))
end Go.Proofs.Ythplndalbfcbbaa
