/- What the proof of the law rests on: contracts of the functions, plain laws, and words. -/
import Derived.Test.YthplndalbfcbbaaKUnifyShiftedL0
import Derived.Test.YthplndalbfcbbaaKUnifyShiftedG12
import Derived.Test.YthplndalbfcbbaaKUnifyShiftedG9
import Derived.Test.YthplndalbfcbbaaKUnifyShiftedG6
import Derived.Test.YthplndalbfcbbaaKUnifyShiftedG4
import Derived.Test.YthplndalbfcbbaaKUnifyShiftedG11
import Derived.Test.YthplndalbfcbbaaKUnifyShiftedG7
import Derived.Test.YthplndalbfcbbaaKUnifyShiftedXUnifyT
import Derived.Test.YthplndalbfcbbaaKUnifyShiftedL1
namespace Go.Proofs.Ythplndalbfcbbaa.PA
open Go.RowKit Go.Proofs.YthplndalbfcbbaaW.PrintWords Go.Proofs.YthplndalbfcbbaaW.PrintLast Go.Proofs.YthplndalbfcbbaaW.PrintMore
attribute [local go_sem] max2_int min2_int max_two min_two max_three min_three max_four min_four   -- for this text's walks alone
set_option linter.unusedVariables false
set_option linter.unusedSimpArgs false
end Go.Proofs.Ythplndalbfcbbaa.PA
namespace Go.Proofs.Ythplndalbfcbbaa.PA
open Go.RowKit Go.Proofs.YthplndalbfcbbaaW.PrintWords Go.Proofs.YthplndalbfcbbaaW.PrintLast Go.Proofs.YthplndalbfcbbaaW.PrintMore
attribute [local go_sem] max2_int min2_int max_two min_two max_three min_three max_four min_four   -- for this text's walks alone
set_option linter.unusedVariables false
set_option linter.unusedSimpArgs false
end Go.Proofs.Ythplndalbfcbbaa.PA
namespace Go.Proofs.Ythplndalbfcbbaa.PA
open Go.RowKit Go.Proofs.YthplndalbfcbbaaW.PrintWords Go.Proofs.YthplndalbfcbbaaW.PrintLast Go.Proofs.YthplndalbfcbbaaW.PrintMore
attribute [local go_sem] max2_int min2_int max_two min_two max_three min_three max_four min_four   -- for this text's walks alone
set_option linter.unusedVariables false
set_option linter.unusedSimpArgs false
end Go.Proofs.Ythplndalbfcbbaa.PA
namespace Go.Proofs.Ythplndalbfcbbaa.PA
open Go.RowKit Go.Proofs.YthplndalbfcbbaaW.PrintWords Go.Proofs.YthplndalbfcbbaaW.PrintLast Go.Proofs.YthplndalbfcbbaaW.PrintMore
attribute [local go_sem] max2_int min2_int max_two min_two max_three min_three max_four min_four   -- for this text's walks alone
set_option linter.unusedVariables false
set_option linter.unusedSimpArgs false
end Go.Proofs.Ythplndalbfcbbaa.PA
namespace Go.Proofs.Ythplndalbfcbbaa.PA
open Go.RowKit Go.Proofs.YthplndalbfcbbaaW.PrintWords Go.Proofs.YthplndalbfcbbaaW.PrintLast Go.Proofs.YthplndalbfcbbaaW.PrintMore
attribute [local go_sem] max2_int min2_int max_two min_two max_three min_three max_four min_four   -- for this text's walks alone
set_option linter.unusedVariables false
set_option linter.unusedSimpArgs false
end Go.Proofs.Ythplndalbfcbbaa.PA
namespace Go.Proofs.Ythplndalbfcbbaa.PA
open Go.RowKit Go.Proofs.YthplndalbfcbbaaW.PrintWords Go.Proofs.YthplndalbfcbbaaW.PrintLast Go.Proofs.YthplndalbfcbbaaW.PrintMore
attribute [local go_sem] max2_int min2_int max_two min_two max_three min_three max_four min_four   -- for this text's walks alone
set_option linter.unusedVariables false
set_option linter.unusedSimpArgs false
end Go.Proofs.Ythplndalbfcbbaa.PA
namespace Go.Proofs.Ythplndalbfcbbaa.PA
open Go.RowKit Go.Proofs.YthplndalbfcbbaaW.PrintWords Go.Proofs.YthplndalbfcbbaaW.PrintLast Go.Proofs.YthplndalbfcbbaaW.PrintMore
attribute [local go_sem] max2_int min2_int max_two min_two max_three min_three max_four min_four   -- for this text's walks alone
set_option linter.unusedVariables false
set_option linter.unusedSimpArgs false
end Go.Proofs.Ythplndalbfcbbaa.PA
namespace Go.Proofs.Ythplndalbfcbbaa.PA
open Go.RowKit Go.Proofs.YthplndalbfcbbaaW.PrintWords Go.Proofs.YthplndalbfcbbaaW.PrintLast Go.Proofs.YthplndalbfcbbaaW.PrintMore
attribute [local go_sem] max2_int min2_int max_two min_two max_three min_three max_four min_four   -- for this text's walks alone
set_option linter.unusedVariables false
set_option linter.unusedSimpArgs false
end Go.Proofs.Ythplndalbfcbbaa.PA
namespace Go.Proofs.Ythplndalbfcbbaa.PA
open Go.RowKit Go.Proofs.YthplndalbfcbbaaW.PrintWords Go.Proofs.YthplndalbfcbbaaW.PrintLast Go.Proofs.YthplndalbfcbbaaW.PrintMore
attribute [local go_sem] max2_int min2_int max_two min_two max_three min_three max_four min_four   -- for this text's walks alone
set_option linter.unusedVariables false
set_option linter.unusedSimpArgs false
end Go.Proofs.Ythplndalbfcbbaa.PA
namespace Go.Proofs.Ythplndalbfcbbaa.PA
open Go.RowKit Go.Proofs.YthplndalbfcbbaaW.PrintWords Go.Proofs.YthplndalbfcbbaaW.PrintLast Go.Proofs.YthplndalbfcbbaaW.PrintMore
attribute [local go_sem] max2_int min2_int max_two min_two max_three min_three max_four min_four   -- for this text's walks alone
set_option linter.unusedVariables false
set_option linter.unusedSimpArgs false
end Go.Proofs.Ythplndalbfcbbaa.PA
namespace Go.Proofs.Ythplndalbfcbbaa.PA
open Go.RowKit Go.Proofs.YthplndalbfcbbaaW.PrintWords Go.Proofs.YthplndalbfcbbaaW.PrintLast Go.Proofs.YthplndalbfcbbaaW.PrintMore
attribute [local go_sem] max2_int min2_int max_two min_two max_three min_three max_four min_four   -- for this text's walks alone
set_option linter.unusedVariables false
set_option linter.unusedSimpArgs false
end Go.Proofs.Ythplndalbfcbbaa.PA
namespace Go.Proofs.Ythplndalbfcbbaa.PA
open Go.RowKit Go.Proofs.YthplndalbfcbbaaW.PrintWords Go.Proofs.YthplndalbfcbbaaW.PrintLast Go.Proofs.YthplndalbfcbbaaW.PrintMore
attribute [local go_sem] max2_int min2_int max_two min_two max_three min_three max_four min_four   -- for this text's walks alone
set_option linter.unusedVariables false
set_option linter.unusedSimpArgs false
end Go.Proofs.Ythplndalbfcbbaa.PA
namespace Go.Proofs.Ythplndalbfcbbaa.PA
open Go.RowKit Go.Proofs.YthplndalbfcbbaaW.PrintWords Go.Proofs.YthplndalbfcbbaaW.PrintLast Go.Proofs.YthplndalbfcbbaaW.PrintMore
attribute [local go_sem] max2_int min2_int max_two min_two max_three min_three max_four min_four   -- for this text's walks alone
set_option linter.unusedVariables false
set_option linter.unusedSimpArgs false
end Go.Proofs.Ythplndalbfcbbaa.PA
set_option linter.unusedSimpArgs false
set_option linter.unusedVariables false
namespace Go.Proofs.Ythplndalbfcbbaa
open Go.RowKit Go.Proofs.YthplndalbfcbbaaW.PrintWords
theorem ofS_mk (t : Tm) : ofS ⟨t.h, toSL t.args⟩ = t := by cases t; simp only [ofS, Tm.h, Tm.args, ofSL_toSL]
theorem wrap_next {i : Int} (h0 : 0 ≤ i) (h1 : i ≤ 9223372036854775806) : wrap64 (i + 1) = i + 1 := by unfold wrap64; omega
theorem rd_nat (l : List Int) (i : Nat) (h : i < l.length) : rd l (i : Int) = l[i] := by simp [rd, h]
theorem rdT_nat (l : List Tm) (i : Nat) (h : i < l.length) : PA.rd_T25 (toSL l) (i : Int) = toS l[i] := by simp [PA.rd_T25, toSL_map, h]
theorem apply_pure {u : List Bd} (hu : u.all okBd = true) {p : Tm} (hp : p.size ≤ 1000000) : PA.subst_Apply.f (toBL u) p.h (toSL p.args) = some ((applyT u p).1.h, toSL (applyT u p).1.args, (applyT u p).2) := by
  unfold PA.subst_Apply.f
  rw [ofBL_toBL, ofS_mk, if_pos ⟨hu, hp⟩]
theorem okBd_right {s : List Bd} (h : rightBs s = true) : s.all okBd = true := by
  rw [List.all_eq_true]
  intro b hb
  have h1 := okBs_mem h b hb
  have h2 := right_size (rightB_chk.1 h1.2.2.1)
  simp only [okBd, Bool.and_eq_true, decide_eq_true_eq]
  omega
end Go.Proofs.Ythplndalbfcbbaa
set_option linter.unusedSimpArgs false
set_option linter.unusedVariables false
namespace Go.Proofs.Ythplndalbfcbbaa
open Go.RowKit Go.Proofs.YthplndalbfcbbaaW.PrintWords
def Ev {α : Type} (f : Nat → Option α) (r : α) : Prop := ∃ k0, ∀ k, k0 ≤ k → f k = some r
theorem Ev.step {α : Type} {f g : Nat → Option α} {r : α} (h : Ev f r) (e : ∀ k, g (k + 1) = f k) : Ev g r := by
  obtain ⟨k0, h⟩ := h
  refine ⟨k0 + 1, fun k hk => ?_⟩
  obtain ⟨k, rfl⟩ : ∃ m, k = m + 1 := ⟨k - 1, by omega⟩
  rw [e, h k (by omega)]
theorem Ev.const {α : Type} {r : α} : Ev (fun _ => some r) r := ⟨0, fun _ _ => rfl⟩
theorem Ev.bind {α β : Type} {f : Nat → Option α} {g : Nat → α → Option β} {a : α} {r : β} (h : Ev f a) (k : Ev (fun n => g n a) r) : Ev (fun n => (f n).bind (g n)) r := by
  obtain ⟨k1, h⟩ := h
  obtain ⟨k2, k⟩ := k
  exact ⟨max k1 k2, fun n hn => by simp only [h n (by omega), Option.bind_some, k n (by omega)]⟩
theorem Ev.congr {α : Type} {f g : Nat → Option α} {r : α} (h : Ev f r) (e : ∀ k, g k = f k) : Ev g r := by
  obtain ⟨k0, h⟩ := h
  exact ⟨k0, fun k hk => by rw [e, h k hk]⟩
theorem step_fold (v : Int) : ∀ (L acc : List Int), v ∈ L → v ∈ L.foldl numStep acc
  | [], _, h => by simp at h
  | x :: L, acc, h => by
    rw [List.foldl_cons]
    have hm : ∀ (L acc : List Int), v ∈ acc → v ∈ L.foldl numStep acc := by
      intro L
      induction L with
      | nil => intro acc h; exact h
      | cons y L ih => intro acc h; exact ih _ (mem_numStep.2 (.inl h))
    rcases List.mem_cons.1 h with rfl | h
    · exact hm L _ (mem_step _ _)
    · exact step_fold v L _ h
theorem fold_vstep : ∀ (hs L acc : List Int), (hs.foldl vstep L).foldl numStep acc = hs.foldl vstep (L.foldl numStep acc)
  | [], _, _ => rfl
  | h :: hs, L, acc => by
    rw [List.foldl_cons, List.foldl_cons, fold_vstep hs]
    congr 1
    unfold vstep
    by_cases hc : h < 0
    · by_cases hm : (-1 - h) ∈ L
      · rw [if_neg (fun e => e.2 hm), if_neg (fun e => e.2 (step_fold _ _ _ hm))]
      · rw [if_pos ⟨hc, hm⟩, List.foldl_append]
        simp only [List.foldl_cons, List.foldl_nil, numStep]
        by_cases h2 : (-1 - h) ∈ L.foldl numStep acc
        · rw [if_pos h2, if_neg (fun e => e.2 h2)]
        · rw [if_neg h2, if_pos ⟨hc, h2⟩]
    · rw [if_neg (fun e => hc e.1), if_neg (fun e => hc e.1)]
theorem fold_num {t : Tm} (hg : t.good = true) (acc : List Int) : (numT [] t).foldl numStep acc = numT acc t := by
  rw [num_heads t [] hg, num_heads t acc hg, fold_vstep]; rfl
theorem fold_length : ∀ (vs acc : List Int), (vs.foldl numStep acc).length ≤ acc.length + vs.length
  | [], _ => by simp
  | v :: vs, acc => by
    have h1 := fold_length vs (numStep acc v)
    have h2 : (numStep acc v).length ≤ acc.length + 1 := by unfold numStep; split <;> simp
    simp only [List.foldl_cons, List.length_cons]; omega
theorem foldl_drop (vs : List Int) (j : Nat) (h : j < vs.length) (acc : List Int) : (vs.drop j).foldl numStep acc = (vs.drop (j + 1)).foldl numStep (numStep acc vs[j]) := by
  rw [List.drop_eq_getElem_cons h, List.foldl_cons]
theorem sizes_drop (l : List Tm) (i : Nat) (h : i < l.length) : Tm.sizes (l.drop i) = l[i].size + Tm.sizes (l.drop (i + 1)) := by
  rw [List.drop_eq_getElem_cons h, Tm.sizes]
theorem numL_drop (l : List Tm) (i : Nat) (h : i < l.length) (acc : List Int) : numL acc (l.drop i) = numL (numT acc l[i]) (l.drop (i + 1)) := by
  rw [List.drop_eq_getElem_cons h, numL]
theorem vars_l1 {h : Int} {l : List Tm} {i : Nat} {vs : List Int} (hvs : vs.length ≤ 1000000000) (hi : i ≤ 1000000000) {r : List Int} :
    ∀ (d j : Nat) (acc : List Int), j + d = vs.length → acc.length + d ≤ 3000000000 → Ev (fun k => PA.elenchusref01_Vars.l0 k ((vs.drop j).foldl numStep acc) ((i + 1 : Nat) : Int) h (toSL l)) r → Ev (fun k => PA.elenchusref01_Vars.l1 k acc (i : Int) vs (j : Int) h (toSL l)) r
  | 0, j, acc, hj, ha, hr => by
    rw [List.drop_eq_nil_of_le (by omega), List.foldl_nil] at hr
    refine hr.step fun k => ?_
    simp only [PA.elenchusref01_Vars.l1]
    rw [if_neg (by omega), wrap_next (by omega) (by omega)]; rfl
  | d + 1, j, acc, hj, ha, hr => by
    have hlt : j < vs.length := by omega
    rw [foldl_drop vs j hlt] at hr
    have h1 : (numStep acc vs[j]).length + d ≤ 3000000000 := by
      have : (numStep acc vs[j]).length ≤ acc.length + 1 := by unfold numStep; split <;> simp
      omega
    refine (vars_l1 hvs hi d (j + 1) (numStep acc vs[j]) (by omega) h1 hr).step fun k => ?_
    rw [PA.elenchusref01_Vars.l1, if_pos (by omega), if_pos (by omega), rd_nat vs j hlt, wrap_next (by omega) (by omega)]
    simp only [PA.elenchusref01_In.f, Option.bind_some]
    by_cases hm : vs[j] ∈ acc
    · rw [if_pos (hasB_iff.2 hm), show numStep acc vs[j] = acc by simp [numStep, hm]]; rfl
    · rw [if_neg (fun e => hm (hasB_iff.1 e)), if_pos (by omega), show numStep acc vs[j] = acc ++ [vs[j]] by simp [numStep, hm]]; rfl
theorem one_list (t : Tm) : [(⟨t.h, toSL t.args⟩ : TS)] = toSL [t] := by cases t; simp [toSL, toS, Tm.h, Tm.args]
end Go.Proofs.Ythplndalbfcbbaa
set_option linter.unusedSimpArgs false
set_option linter.unusedVariables false
namespace Go.Proofs.Ythplndalbfcbbaa
open Go.RowKit Go.Proofs.YthplndalbfcbbaaW.PrintWords
def OkN (l : List Int) : Prop := l.Nodup ∧ ∀ x, x ∈ l → 0 ≤ x ∧ x < (256 : Nat)
theorem OkN.len {l : List Int} (h : OkN l) : l.length ≤ 256 := pigeon 256 l h.1 h.2
theorem OkN.nil : OkN [] := ⟨List.nodup_nil, by simp⟩
theorem OkN.step {l : List Int} (h : OkN l) {v : Int} (h0 : 0 ≤ v) (h1 : v < (256 : Nat)) : OkN (numStep l v) := by
  unfold numStep
  split
  · exact h
  · rename_i hm
    refine ⟨List.nodup_append.2 ⟨h.1, by simp, fun a ha b hb => ?_⟩, fun x hx => ?_⟩
    · simp only [List.mem_singleton] at hb
      subst hb
      exact fun e => hm (e ▸ ha)
    · rcases List.mem_append.1 hx with hx | hx
      · exact h.2 x hx
      · simp only [List.mem_singleton] at hx
        subst hx; exact ⟨h0, h1⟩
theorem OkN.heads : ∀ (hs : List Int) {l : List Int}, OkN l → (∀ h, h ∈ hs → -256 ≤ h) → OkN (hs.foldl vstep l)
  | [], _, h, _ => h
  | x :: hs, l, h, hr => by
    rw [List.foldl_cons]
    refine OkN.heads hs ?_ fun y hy => hr y (by simp [hy])
    have hx := hr x (by simp)
    unfold vstep
    split
    · rename_i hc
      have := h.step (v := -1 - x) (by omega) (by omega)
      unfold numStep at this
      rwa [if_neg hc.2] at this
    · exact h
theorem OkN.num {l : List Int} (h : OkN l) {t : Tm} (hg : t.good = true) : OkN (numT l t) := by
  rw [num_heads t l hg]
  exact h.heads _ fun x hx => (good_heads t hg x hx).1
theorem varsT_ok {t : Tm} (hg : t.good = true) : OkN (varsT t) := OkN.nil.heads _ fun x hx => (good_heads t hg x hx).1
theorem varsG_l1 {h : Int} {l : List Tm} {i : Nat} {vs : List Int} (hvs : OkN vs) (hi : i ≤ 1000000000) {r : List Int} :
    ∀ (d j : Nat) (acc : List Int), j + d = vs.length → OkN acc → Ev (fun k => PA.elenchusref01_Vars.l0 k ((vs.drop j).foldl numStep acc) ((i + 1 : Nat) : Int) h (toSL l)) r → Ev (fun k => PA.elenchusref01_Vars.l1 k acc (i : Int) vs (j : Int) h (toSL l)) r
  | 0, j, acc, hj, ha, hr => by
    have hvl := hvs.len
    rw [List.drop_eq_nil_of_le (by omega), List.foldl_nil] at hr
    refine hr.step fun k => ?_
    simp only [PA.elenchusref01_Vars.l1]
    rw [if_neg (by omega), wrap_next (by omega) (by omega)]; rfl
  | d + 1, j, acc, hj, ha, hr => by
    have hvl := hvs.len
    have hal := ha.len
    have hlt : j < vs.length := by omega
    have hv := hvs.2 _ (List.getElem_mem hlt)
    rw [foldl_drop vs j hlt] at hr
    refine (varsG_l1 hvs hi d (j + 1) (numStep acc vs[j]) (by omega) (ha.step hv.1 hv.2) hr).step fun k => ?_
    rw [PA.elenchusref01_Vars.l1, if_pos (by omega), if_pos (by omega), rd_nat vs j hlt, wrap_next (by omega) (by omega)]
    simp only [PA.elenchusref01_In.f, Option.bind_some]
    by_cases hm : vs[j] ∈ acc
    · rw [if_pos (hasB_iff.2 hm), show numStep acc vs[j] = acc by simp [numStep, hm]]; rfl
    · rw [if_neg (fun e => hm (hasB_iff.1 e)), if_pos (by omega), show numStep acc vs[j] = acc ++ [vs[j]] by simp [numStep, hm]]; rfl
theorem varsG_l0 (n0 : Nat) (ih : ∀ t : Tm, t.size ≤ n0 → t.good = true → Ev (fun k => PA.elenchusref01_Vars.f k t.h (toSL t.args)) (numT [] t)) {h : Int} {l : List Tm} (hl : l.length ≤ 1000000000) (hk : ∀ t, t ∈ l → t.size ≤ n0 ∧ t.good = true) :
    ∀ (d i : Nat) (acc : List Int), i + d = l.length → OkN acc → Ev (fun k => PA.elenchusref01_Vars.l0 k acc (i : Int) h (toSL l)) (numL acc (l.drop i))
  | 0, i, acc, hi, ha => by
    rw [List.drop_eq_nil_of_le (by omega), numL]
    refine Ev.const.step fun k => ?_
    simp only [PA.elenchusref01_Vars.l0]
    rw [if_neg (by rw [toSL_length]; omega)]
  | d + 1, i, acc, hi, ha => by
    have hlt : i < l.length := by omega
    obtain ⟨g1, g3⟩ := hk l[i] (List.getElem_mem hlt)
    have hrec := varsG_l0 n0 ih (h := h) hl hk d (i + 1) (numT acc l[i]) (by omega) (ha.num g3)
    rw [← numL_drop l i hlt, ← fold_num g3] at hrec
    have hl1 := varsG_l1 (h := h) (l := l) (i := i) (vs := numT [] l[i]) (OkN.nil.num g3) (by omega) (numT [] l[i]).length 0 acc (by omega) ha (by rw [List.drop_zero]; exact hrec)
    refine ((ih l[i] g1 g3).bind (g := fun k v => PA.elenchusref01_Vars.l1 k acc (i : Int) v ((0 : Nat) : Int) h (toSL l)) hl1).step fun k => ?_
    rw [PA.elenchusref01_Vars.l0, if_pos (by rw [toSL_length]; omega), if_pos (by omega), rdT_nat l i hlt, toS_f0, toS_f1]; rfl
theorem varsG_f (n0 : Nat) : ∀ (t : Tm), t.size ≤ n0 → t.good = true → Ev (fun k => PA.elenchusref01_Vars.f k t.h (toSL t.args)) (numT [] t) := by
  induction n0 with
  | zero => intro t ht; have := t.size_eq; omega
  | succ n0 ih =>
    intro t ht hg
    obtain ⟨hh, hl8, hkids⟩ := good_args hg
    have hsz := t.size_eq
    have h0 := varsG_l0 n0 ih (h := t.h) (l := t.args) (by omega) (fun u hu => by
      obtain ⟨i, hi, rfl⟩ := List.getElem_of_mem hu
      have := Tm.size_get t.args i hi
      exact ⟨by omega, hkids i hi⟩)
    have hj : ∀ acc : List Int, OkN acc → Ev (fun k => PA.elenchusref01_Vars.j0 k acc t.h (toSL t.args)) (numL acc t.args) := fun acc ha => by
      have := h0 t.args.length 0 acc (by omega) ha
      rw [List.drop_zero] at this
      exact this.step fun k => by rw [PA.elenchusref01_Vars.j0]; rfl
    by_cases hneg : t.h < 0
    · have ha : t.args = [] := by cases t; exact good_var hg hneg
      have hr : numT [] t = numL [-1 - t.h] t.args := by rw [(renT_neg [] t hneg).2, ha]; simp [numStep, numL]
      rw [hr]
      have hok : OkN [-1 - t.h] := by
        have := OkN.nil.step (v := -1 - t.h) (by omega) (by omega)
        simpa [numStep] using this
      refine (hj [-1 - t.h] hok).step fun k => ?_
      rw [PA.elenchusref01_Vars.f, if_pos hneg, if_pos (by simp)]
      have : wrap64 (-1 - t.h) = -1 - t.h := by unfold wrap64; omega
      rw [this]; rfl
    · rw [(renT_pos [] t hneg).2]
      refine (hj [] OkN.nil).step fun k => ?_
      rw [PA.elenchusref01_Vars.f, if_neg hneg]
theorem refvars {t : Tm} (hg : t.good = true) : Ev (fun k => PA.elenchusref01_Vars.f k t.h (toSL t.args)) (varsT t) := by
  have := varsG_f t.size t (Nat.le_refl _) hg
  rwa [num_heads t [] hg] at this
theorem size_l0 (n0 : Nat) (ih : ∀ t : Tm, t.size ≤ n0 → t.size ≤ 9000000000000000000 → Ev (fun k => PA.elenchusref01_Size.f k t.h (toSL t.args)) (t.size : Int)) {h : Int} {l : List Tm} (hl : 1 + Tm.sizes l ≤ 9000000000000000000) (hk : Tm.sizes l ≤ n0) :
    ∀ (d i : Nat), i + d = l.length → Ev (fun k => PA.elenchusref01_Size.l0 k ((1 + Tm.sizes (l.take i) : Nat) : Int) (i : Int) h (toSL l)) ((1 + Tm.sizes l : Nat) : Int)
  | 0, i, hi => by
    have hll := Tm.sizes_length l
    rw [List.take_of_length_le (by omega)]
    refine Ev.const.step fun k => ?_
    rw [PA.elenchusref01_Size.l0, if_neg (by rw [toSL_length]; omega)]
  | d + 1, i, hi => by
    have hlt : i < l.length := by omega
    have hll := Tm.sizes_length l
    have h1 := Tm.size_get l i hlt
    have h2 := Tm.sizes_take l i hlt
    have h3 := Tm.sizes_take_le l (i + 1)
    have hrec := size_l0 n0 ih (h := h) hl hk d (i + 1) (by omega)
    have e : wrap64 (((1 + Tm.sizes (l.take i) : Nat) : Int) + (l[i].size : Int)) = ((1 + Tm.sizes (l.take (i + 1)) : Nat) : Int) := by
      rw [h2]; unfold wrap64; push_cast; omega
    refine ((ih l[i] (by omega) (by omega)).bind (g := fun k v => PA.elenchusref01_Size.l0 k (wrap64 (((1 + Tm.sizes (l.take i) : Nat) : Int) + v)) ((i + 1 : Nat) : Int) h (toSL l)) (by rw [e]; exact hrec)).step fun k => ?_
    rw [PA.elenchusref01_Size.l0, if_pos (by rw [toSL_length]; omega), if_pos (by omega), rdT_nat l i hlt, toS_f0, toS_f1, wrap_next (by omega) (by omega)]; rfl
theorem size_f (n0 : Nat) : ∀ (t : Tm), t.size ≤ n0 → t.size ≤ 9000000000000000000 → Ev (fun k => PA.elenchusref01_Size.f k t.h (toSL t.args)) (t.size : Int) := by
  induction n0 with
  | zero => intro t ht; have := t.size_eq; omega
  | succ n0 ih =>
    intro t ht hn
    have hsz := t.size_eq
    have h0 := size_l0 n0 ih (h := t.h) (l := t.args) (by omega) (by omega) t.args.length 0 (by omega)
    rw [← hsz] at h0
    simp only [List.take_zero, Tm.sizes] at h0
    exact h0.step fun k => by rw [PA.elenchusref01_Size.f]; rfl
theorem cntL_drop2 (l : List Tm) (k : Nat) (h : k < l.length) (m x : Int) : cntL (l.drop k) m x = if x ≤ m then cntL (l.drop (k + 1)) m (x + cntT l[k] (m - x)) else x := by
  rw [List.drop_eq_getElem_cons h]; simp [cntL]
theorem count_l0 (n0 : Nat) (ih : ∀ (t : Tm) (m : Int), t.size ≤ n0 → 0 ≤ m → m ≤ 1000000 → Ev (fun k => PA.elenchusref01_Count.f k t.h (toSL t.args) m) (cntT t m)) {h m : Int} {l : List Tm} (hm : 0 ≤ m) (hm1 : m ≤ 1000000) (hk : ∀ t, t ∈ l → t.size ≤ n0) :
    ∀ (d i : Nat) (x : Int), i + d = l.length → (i : Int) + 1 ≤ x → x ≤ m + 1 → Ev (fun k => PA.elenchusref01_Count.l0 k m x (i : Int) h (toSL l)) (cntL (l.drop i) m x)
  | 0, i, x, hi, h0, h1 => by
    rw [List.drop_eq_nil_of_le (by omega), cntL]
    refine (Ev.const.step (g := fun k => PA.elenchusref01_Count.j1 k m x (i : Int) false h (toSL l)) fun k => ?_).step fun k => ?_
    · rw [PA.elenchusref01_Count.j1]; simp
    · rw [PA.elenchusref01_Count.l0, if_neg (by rw [toSL_length]; omega)]
  | d + 1, i, x, hi, h0, h1 => by
    have hlt : i < l.length := by omega
    rw [cntL_drop2 l i hlt]
    refine Ev.step (f := fun k => PA.elenchusref01_Count.j1 k m x (i : Int) (decide (x ≤ m)) h (toSL l)) ?_ fun k => by rw [PA.elenchusref01_Count.l0, if_pos (by rw [toSL_length]; omega)]
    by_cases hx : x ≤ m
    · rw [if_pos hx]
      have hr := cntT_range l[i] (m - x) (by omega)
      have hrec := count_l0 n0 ih (h := h) hm hm1 hk d (i + 1) (x + cntT l[i] (m - x)) (by omega) (by push_cast; omega) (by omega)
      have e1 : wrap64 (m - x) = m - x := by unfold wrap64; omega
      have e2 : wrap64 (x + cntT l[i] (m - x)) = x + cntT l[i] (m - x) := by unfold wrap64; omega
      have hi2 := ih l[i] (m - x) (hk _ (List.getElem_mem hlt)) (by omega) (by omega)
      refine (hi2.bind (g := fun k v => PA.elenchusref01_Count.l0 k m (wrap64 (x + v)) ((i + 1 : Nat) : Int) h (toSL l)) (by rw [e2]; exact hrec)).step fun k => ?_
      rw [PA.elenchusref01_Count.j1, if_pos (by simpa using hx), if_pos (by omega), if_pos (by rw [toSL_length]; omega), rdT_nat l i hlt, toS_f0, toS_f1, wrap_next (by omega) (by omega), e1]; rfl
    · rw [if_neg hx]
      refine Ev.const.step fun k => ?_
      rw [PA.elenchusref01_Count.j1, if_neg (by simpa using hx)]
theorem count_f (n0 : Nat) : ∀ (t : Tm) (m : Int), t.size ≤ n0 → 0 ≤ m → m ≤ 1000000 → Ev (fun k => PA.elenchusref01_Count.f k t.h (toSL t.args) m) (cntT t m) := by
  induction n0 with
  | zero => intro t m ht; have := t.size_eq; omega
  | succ n0 ih =>
    intro t m ht hm hm1
    have hsz := t.size_eq
    have h0 := count_l0 n0 ih (h := t.h) (l := t.args) hm hm1 (fun u hu => by
      obtain ⟨i, hi, rfl⟩ := List.getElem_of_mem hu
      have := Tm.size_get t.args i hi
      omega) t.args.length 0 1 (by omega) (by omega) (by omega)
    rw [List.drop_zero, ← cntT_eq] at h0
    exact h0.step fun k => by rw [PA.elenchusref01_Count.f]; rfl
def cntR (n : Int) : List Tm → Int
  | [] => n
  | t :: ts => if n ≤ 60 then cntR (n + cntT t 60) ts else n
def fewR (ts : List Tm) : Bool := decide (cntR 0 ts ≤ 60)
theorem cntR_drop (l : List Tm) (k : Nat) (h : k < l.length) (n : Int) : cntR n (l.drop k) = if n ≤ 60 then cntR (n + cntT l[k] 60) (l.drop (k + 1)) else n := by
  rw [List.drop_eq_getElem_cons h]; simp [cntR]
theorem cntR_le : ∀ (ts : List Tm) (n : Int), 0 ≤ n → n ≤ cntR n ts
  | [], n, _ => by simp [cntR]
  | t :: ts, n, h => by
    simp only [cntR]
    split
    · have := cntT_range t 60 (by omega)
      have := cntR_le ts (n + cntT t 60) (by omega)
      omega
    · omega
theorem cntR_sizes : ∀ (ts : List Tm) (n : Int), 0 ≤ n → cntR n ts ≤ 60 → n + Tm.sizes ts ≤ 60
  | [], n, _, h => by simpa [cntR, Tm.sizes] using h
  | t :: ts, n, h0, h => by
    simp only [cntR] at h
    split at h
    · have hr := cntT_range t 60 (by omega)
      have hz := cntT_size t 60 (by omega)
      have hle := cntR_le ts (n + cntT t 60) (by omega)
      have := cntR_sizes ts _ (by omega) h
      have h5 := hz.2 (by omega)
      have h6 := hz.1 (by omega)
      simp only [Tm.sizes]; push_cast; omega
    · omega
theorem fewR_sizes {ts : List Tm} (h : fewR ts = true) : Tm.sizes ts ≤ 60 := by
  have := cntR_sizes ts 0 (by omega) (by simpa [fewR] using h); omega
theorem few4_l0 (l : List Tm) : ∀ (d i : Nat) (x : Int), i + d = l.length → (i : Int) ≤ x → x ≤ 200 → Ev (fun k => PA.elenchusref04_Few.l0 k (toSL l) x (i : Int)) (decide (cntR x (l.drop i) ≤ 60))
  | 0, i, x, hi, h0, h1 => by
    rw [List.drop_eq_nil_of_le (by omega), cntR]
    refine (Ev.const.step (g := fun k => PA.elenchusref04_Few.j1 k (toSL l) x (i : Int) false) fun k => ?_).step fun k => ?_
    · rw [PA.elenchusref04_Few.j1]; simp
    · rw [PA.elenchusref04_Few.l0, if_neg (by rw [toSL_length]; omega)]
  | d + 1, i, x, hi, h0, h1 => by
    have hlt : i < l.length := by omega
    rw [cntR_drop l i hlt]
    refine Ev.step (f := fun k => PA.elenchusref04_Few.j1 k (toSL l) x (i : Int) (decide (x ≤ 60))) ?_ fun k => by rw [PA.elenchusref04_Few.l0, if_pos (by rw [toSL_length]; omega)]
    by_cases hx : x ≤ 60
    · rw [if_pos hx]
      have hr := cntT_range l[i] 60 (by omega)
      have hrec := few4_l0 l d (i + 1) (x + cntT l[i] 60) (by omega) (by push_cast; omega) (by omega)
      have e2 : wrap64 (x + cntT l[i] 60) = x + cntT l[i] 60 := by unfold wrap64; omega
      have hi2 := count_f _ l[i] 60 (Nat.le_refl _) (by omega) (by omega)
      refine (hi2.bind (g := fun k v => PA.elenchusref04_Few.l0 k (toSL l) (wrap64 (x + v)) ((i + 1 : Nat) : Int)) (by rw [e2]; exact hrec)).step fun k => ?_
      rw [PA.elenchusref04_Few.j1, if_pos (by simpa using hx), if_pos (by omega), if_pos (by rw [toSL_length]; omega), rdT_nat l i hlt, toS_f0, toS_f1, wrap_next (by omega) (by omega)]; rfl
    · rw [if_neg hx]
      refine Ev.const.step fun k => ?_
      rw [PA.elenchusref04_Few.j1, if_neg (by simpa using hx)]
theorem few4_f (l : List Tm) : Ev (fun k => PA.elenchusref04_Few.f k (toSL l)) (fewR l) := by
  have := few4_l0 l l.length 0 0 (by omega) (by omega) (by omega)
  rw [List.drop_zero] at this
  exact this
end Go.Proofs.Ythplndalbfcbbaa
set_option linter.unusedSimpArgs false
set_option linter.unusedVariables false
namespace Go.Proofs.Ythplndalbfcbbaa
open Go.RowKit Go.Proofs.YthplndalbfcbbaaW.PrintWords
theorem unify_pure {a b : Tm} (ha : a.size ≤ 1000000000) (hb : b.size ≤ 1000000000) : PA.unify_Mgu.f a.h (toSL a.args) b.h (toSL b.args) = some (toBL (unifyT [a] [b]).1, (unifyT [a] [b]).2.1, (unifyT [a] [b]).2.2) := by
  unfold PA.unify_Mgu.f
  rw [ofS_mk, ofS_mk, if_pos ⟨ha, hb⟩]
theorem v_any {w : World} {s : Value} {l : List Tm} (hs : Terms (fun _ => False) w s l) : Kd.V kT 25 w w.heap.size (fun k_ => (fun _ => True) k_) s (toSL l) := v_of hs fun _ _ _ => trivial
end Go.Proofs.Ythplndalbfcbbaa
set_option linter.unusedSimpArgs false
set_option linter.unusedVariables false
namespace Go.Proofs.Ythplndalbfcbbaa
open Go.RowKit Go.Proofs.YthplndalbfcbbaaW.PrintWords
theorem varsA_l0 (n0 : Nat) (ih : ∀ t : Tm, t.size ≤ n0 → ∃ r, Ev (fun k => PA.elenchusref01_Vars.f k t.h (toSL t.args)) r ∧ r.length ≤ t.size) {h : Int} {l : List Tm} (hl : l.length ≤ 1000000) (hk : ∀ t, t ∈ l → t.size ≤ n0 ∧ t.size ≤ 1000000) :
    ∀ (d i : Nat) (acc : List Int), i + d = l.length → acc.length + Tm.sizes (l.drop i) ≤ 1000001 → ∃ r, Ev (fun k => PA.elenchusref01_Vars.l0 k acc (i : Int) h (toSL l)) r ∧ r.length ≤ acc.length + Tm.sizes (l.drop i)
  | 0, i, acc, hi, ha => ⟨acc, Ev.const.step fun k => by rw [PA.elenchusref01_Vars.l0, if_neg (by rw [toSL_length]; omega)], by omega⟩
  | d + 1, i, acc, hi, ha => by
    have hlt : i < l.length := by omega
    obtain ⟨g1, g2⟩ := hk l[i] (List.getElem_mem hlt)
    rw [sizes_drop l i hlt] at ha ⊢
    obtain ⟨vs, h1, h2⟩ := ih l[i] g1
    have h3 := fold_length vs acc
    obtain ⟨r, h4, h5⟩ := varsA_l0 n0 ih (h := h) hl hk d (i + 1) (vs.foldl numStep acc) (by omega) (by omega)
    have hl1 := vars_l1 (h := h) (l := l) (i := i) (vs := vs) (by omega) (by omega) vs.length 0 acc (by omega) (by omega) (by rw [List.drop_zero]; exact h4)
    refine ⟨r, (h1.bind (g := fun k v => PA.elenchusref01_Vars.l1 k acc (i : Int) v ((0 : Nat) : Int) h (toSL l)) hl1).step fun k => ?_, by omega⟩
    rw [PA.elenchusref01_Vars.l0, if_pos (by rw [toSL_length]; omega), if_pos (by omega), rdT_nat l i hlt, toS_f0, toS_f1]; rfl
theorem varsA_f (n0 : Nat) (hn : n0 ≤ 1000000) : ∀ (t : Tm), t.size ≤ n0 → ∃ r, Ev (fun k => PA.elenchusref01_Vars.f k t.h (toSL t.args)) r ∧ r.length ≤ t.size := by
  induction n0 with
  | zero => intro t ht; have := t.size_eq; omega
  | succ n0 ih =>
    intro t ht
    have hsz := t.size_eq
    have hll := Tm.sizes_length t.args
    have h0 := fun acc ha => varsA_l0 n0 (ih (by omega)) (h := t.h) (l := t.args) (by omega) (fun u hu => by
      obtain ⟨i, hi, rfl⟩ := List.getElem_of_mem hu
      have := Tm.size_get t.args i hi
      exact ⟨by omega, by omega⟩) t.args.length 0 acc (by omega) ha
    simp only [List.drop_zero] at h0
    have hj : ∀ acc : List Int, acc.length ≤ 1 → ∃ r, Ev (fun k => PA.elenchusref01_Vars.j0 k acc t.h (toSL t.args)) r ∧ r.length ≤ t.size := fun acc ha => by
      obtain ⟨r, h1, h2⟩ := h0 acc (by omega)
      exact ⟨r, h1.step fun k => by rw [PA.elenchusref01_Vars.j0]; rfl, by omega⟩
    by_cases hneg : t.h < 0
    · obtain ⟨r, h1, h2⟩ := hj [wrap64 (-1 - t.h)] (by simp)
      exact ⟨r, h1.step fun k => by rw [PA.elenchusref01_Vars.f, if_pos hneg, if_pos (by simp)]; rfl, h2⟩
    · obtain ⟨r, h1, h2⟩ := hj [] (by simp)
      exact ⟨r, h1.step fun k => by rw [PA.elenchusref01_Vars.f, if_neg hneg], h2⟩
theorem endL_all {S : Sub} : ∀ (vs : List Int) (acc : List Bd), (∀ v, v ∈ vs → chk (S v) = 0) → endL S vs acc = (acc ++ vs.map fun v => ⟨v, S v⟩, 0)
  | [], acc, _ => by simp [endL]
  | v :: vs, acc, h => by
    have h1 := h v (by simp)
    have hz := right_size h1
    have hd : ¬ 40 < (S v).depth := fun hd => by
      unfold chk at h1
      rw [if_neg (by omega), if_pos hd] at h1
      cases h1
    rw [endL, if_neg (by omega), if_neg hd, endL_all vs _ fun u hu => h u (by simp [hu])]
    simp
theorem unify_mgu {a b : Tm} (ra : rightB a = true) (rb : rightB b = true) {S : Sub} (hS : Mgu [(a, b)] S) (hc : ∀ v, 0 ≤ v → v ≤ 255 → chk (S v) = 0) : unifyT [a] [b] = (tidyF S, true, 0) := by
  rw [unify_some (ps := [a]) (ts := [b]) rfl (by simp) (by simpa using ra) (by simpa using rb) hS]
  have e : tidyS S = (tidyF S, 0) := by
    unfold tidyS
    rw [endL_all _ _ fun v hv => by have := mem_upto.1 (List.mem_filter.1 hv).1; exact hc v this.1 (by omega)]
    rfl
  rw [e]; rfl
end Go.Proofs.Ythplndalbfcbbaa
set_option linter.unusedSimpArgs false
set_option linter.unusedVariables false
namespace Go.Proofs.Ythplndalbfcbbaa
open Go.RowKit Go.Proofs.YthplndalbfcbbaaW.PrintWords
mutual
theorem shift_app (y : Int) : ∀ t : Tm, t.good = true → shiftT y t = app (fun v => varT (v + y)) t
  | .node h l, hg => by
    by_cases hn : h < 0
    · rw [shiftT, if_pos hn, app, if_pos hn]
      simp only [varT]
      congr 1; omega
    · rw [shiftT, if_neg hn, app, if_neg hn, shiftL_app y l (goodsOf hg)]
theorem shiftL_app (y : Int) : ∀ l : List Tm, Tm.goods l = true → shiftL y l = appL (fun v => varT (v + y)) l
  | [], _ => rfl
  | t :: ts, hg => by
    have g := goods_mem hg
    rw [shiftL, appL, shift_app y t (g t (by simp)), shiftL_app y ts (goods_of_mem fun u hu => g u (by simp [hu]))]
end
mutual
theorem app_inj {σ τ : Sub} : ∀ t : Tm, t.good = true → app σ t = app τ t → ∀ v, occ v t → σ v = τ v
  | .node h l, hg, he, v, hv => by
    by_cases hn : h < 0
    · have e := good_is_var hg hn
      rw [e, occ_var (by simp only [Tm.h]; omega)] at hv
      rw [app_neg (by exact hn), app_neg (by exact hn)] at he
      simp only [Tm.h] at he hv
      rw [hv]; exact he
    · rw [app_pos (by exact hn), app_pos (by exact hn)] at he
      simp only [Tm.node.injEq, Tm.args] at he
      obtain ⟨c, hc, hcv⟩ := (occ_args (t := .node h l) hn).1 hv
      exact appL_inj l (goodsOf hg) he.2 c hc v hcv
theorem appL_inj {σ τ : Sub} : ∀ l : List Tm, Tm.goods l = true → appL σ l = appL τ l → ∀ c, c ∈ l → ∀ v, occ v c → σ v = τ v
  | [], _, _, c, hc, _, _ => absurd hc (by simp)
  | t :: ts, hg, he, c, hc, v, hv => by
    have g := goods_mem hg
    simp only [appL, List.cons.injEq] at he
    rcases List.mem_cons.1 hc with e | hc
    · rw [e] at hv
      exact app_inj t (g t (by simp)) he.1 v hv
    · exact appL_inj ts (goods_of_mem fun u hu => g u (by simp [hu])) he.2 c hc v hv
end
section
variable {t : Tm} {y : Int}
def shS (t : Tm) (y : Int) : Sub := fun w => if (w - y) ∈ varsT t then varT (w - y) else varT w
theorem occ_shift (hg : t.good = true) (hy : 0 ≤ y) {w : Int} : occ w (shiftT y t) ↔ occ (w - y) t := by
  rw [shift_app y t hg, occ_app t hg]
  constructor
  · rintro ⟨v, hv, hw⟩
    rw [occ_var (by have := hv.1; omega)] at hw
    rw [hw]; simpa using hv
  · intro h
    exact ⟨w - y, h, by rw [occ_var (by have := h.1; omega)]; omega⟩
theorem mgu_shift (hg : t.good = true) (hy : 0 ≤ y) (hu : (shiftT y t).good = true) (hd : ∀ v, v ∈ varsT t → ¬ v ∈ varsT (shiftT y t)) : Mgu [(t, shiftT y t)] (shS t y) where
  most := fun τ => by
    have e : app τ (shiftT y t) = app (fun v => τ (v + y)) t := by
      rw [shift_app y t hg, app_comp]
      exact app_congr t fun v hv => app_var τ (by have := hv.1; omega)
    rw [sol_cons]
    constructor
    · rintro ⟨h, -⟩ w h0
      have h : app τ t = app τ (shiftT y t) := h
      rw [e] at h
      unfold shS
      by_cases hw : (w - y) ∈ varsT t
      · rw [if_pos hw]
        have ho := occ_iff.2 hw
        have := app_inj t hg h _ ho
        rw [app_var τ ho.1, this]
        congr 1; omega
      · rw [if_neg hw, app_var τ h0]
    · intro h
      refine ⟨?_, fun p hp => (by cases hp)⟩
      show app τ t = app τ (shiftT y t)
      rw [e]
      refine app_congr t fun v hv => ?_
      have h1 := h (v + y) (by have := hv.1; omega)
      unfold shS at h1
      rw [if_pos (by rw [show v + y - y = v by omega]; exact occ_iff.1 hv), app_var τ (by have := hv.1; omega)] at h1
      rw [h1]; congr 1; omega
  idem := fun w h0 => by
    unfold shS
    by_cases hw : (w - y) ∈ varsT t
    · rw [if_pos hw]
      have ho := occ_iff.2 hw
      rw [app_var _ ho.1]
      have hn : ¬ (w - y - y) ∈ varsT t := fun h => hd _ hw (occ_iff.1 ((occ_shift hg hy).2 (occ_iff.2 h)))
      show (if (w - y - y) ∈ varsT t then varT (w - y - y) else varT (w - y)) = _
      rw [if_neg hn]
    · rw [if_neg hw, app_var _ h0]
      show (if (w - y) ∈ varsT t then varT (w - y) else varT w) = _
      rw [if_neg hw]
  low := fun w h0 _ => by
    unfold shS
    split <;> simp only [varT, Tm.h] <;> omega
  good := fun w h0 h1 => by
    unfold shS
    split
    · rename_i hw
      have := occ_range hg (occ_iff.2 hw)
      exact good_varT this.1 this.2
    · exact good_varT h0 h1
  out := fun w hw => by
    unfold shS
    rw [if_neg]
    intro h
    have := occ_range hu ((occ_shift (w := w) hg hy).2 (occ_iff.2 h))
    omega
theorem nodup_upto (k : Nat) : (upto k).Nodup := List.nodup_iff_pairwise_ne.2 ((upto_sorted k).imp fun h => by omega)
theorem shift_count (hg : t.good = true) (hy : 0 ≤ y) (hu : (shiftT y t).good = true) (hd : ∀ v, v ∈ varsT t → ¬ v ∈ varsT (shiftT y t)) : (tidyF (shS t y)).length = (varsT t).length := by
  unfold tidyF
  rw [List.length_map]
  have hp : ((upto 256).filter fun v => (shS t y v).h != -1 - v).Perm ((varsT t).map fun v => v + y) := by
    have hnd : ((varsT t).map fun v => v + y).Nodup := by
      rw [List.nodup_iff_pairwise_ne, List.pairwise_map]
      exact (List.nodup_iff_pairwise_ne.1 (varsT_ok hg).1).imp fun h e => h (by omega)
    rw [List.perm_ext_iff_of_nodup ((nodup_upto 256).filter _) hnd]
    intro w
    simp only [List.mem_filter, mem_upto, bne_iff_ne, ne_eq, List.mem_map]
    constructor
    · rintro ⟨⟨h0, h1⟩, h2⟩
      unfold shS at h2
      by_cases hw : (w - y) ∈ varsT t
      · exact ⟨w - y, hw, by omega⟩
      · rw [if_neg hw] at h2; exact absurd rfl h2
    · rintro ⟨v, hv, rfl⟩
      have hv' := (occ_shift (w := v + y) hg hy).2 (by rw [show v + y - y = v by omega]; exact occ_iff.2 hv)
      have hr := occ_range hu hv'
      refine ⟨⟨hr.1, by omega⟩, ?_⟩
      unfold shS
      rw [show v + y - y = v by omega, if_pos hv]
      simp only [varT, Tm.h]
      intro e
      have : y = 0 := by omega
      subst this
      rw [show v + 0 = v by omega] at hv'
      exact hd v hv (occ_iff.1 hv')
  rw [hp.length_eq, List.length_map]
end
theorem ushifted_end {t : Tm} {y : Int} (ht : rightB t = true) (hy : 0 ≤ y) (hu : chk (shiftT y t) = 0) (hd : ∀ v, v ∈ varsT t → ¬ v ∈ varsT (shiftT y t)) :
    unifyT [t] [shiftT y t] = (tidyF (shS t y), true, 0) ∧ applyT (tidyF (shS t y)) t = (t, 0) ∧ rightBs (tidyF (shS t y)) = true := by
  have hg := chk_good ht
  have hgu := chk_good (rightB_chk.2 hu)
  have hm := mgu_shift hg hy hgu hd
  have hc : ∀ v, 0 ≤ v → v ≤ 255 → chk (shS t y v) = 0 := fun v h0 h1 => by
    unfold shS
    split
    · rename_i hw
      have := occ_range hg (occ_iff.2 hw)
      exact rightB_chk.1 (rightB_var this.1 this.2)
    · exact rightB_chk.1 (rightB_var h0 h1)
  have hR : rightBs (tidyF (shS t y)) = true := tidyF_right fun v h0 h1 _ => rightB_chk.2 (hc v h0 h1)
  refine ⟨unify_mgu ht (rightB_chk.2 hu) hm hc, ?_, hR⟩
  have e : putT (tidyF (shS t y)) t = t := by
    rw [app_put]
    refine (app_congr t fun v hv => ?_).trans (app_id t hg)
    have hr := occ_range hg hv
    rw [tidyF_of hr.1 hr.2 (hm.good v hr.1 hr.2)]
    unfold shS
    rw [if_neg]
    intro h
    exact hd v (occ_iff.1 hv) (occ_iff.1 ((occ_shift hg hy).2 (occ_iff.2 h)))
  unfold applyT endT
  rw [if_pos ⟨hR, ht⟩, e, if_pos (rightB_chk.1 ht)]
theorem ushifted_no {e : Int} (he : e ≠ 0) {vs : List Int} (hv : vs.length ≤ 1000000) {h1 h2 : Int} {l1 l2 : List TS} : ∀ (d i : Nat), i + d = vs.length → Ev (fun k => PA.elenchuslaw04_UnifyShifted.l0 k e vs (i : Int) h1 l1 h2 l2) true
  | 0, i, hi => Ev.const.step fun k => by rw [PA.elenchuslaw04_UnifyShifted.l0, if_neg (by omega), if_neg he]; rfl
  | d + 1, i, hi => by
    have hj : Ev (fun k => PA.elenchuslaw04_UnifyShifted.j1 k e vs (i : Int) false h1 l1 h2 l2) true := (ushifted_no he hv d (i + 1) (by omega)).step fun k => by
      rw [PA.elenchuslaw04_UnifyShifted.j1, if_neg (by simp), wrap_next (by omega) (by omega)]; rfl
    exact hj.step fun k => by rw [PA.elenchuslaw04_UnifyShifted.l0, if_pos (by omega), if_neg he]
theorem ushifted_l0 {t : Tm} {y : Int} (hs : t.size ≤ 60) (ht : rightB t = true) (hy : 0 ≤ y) (hu : chk (shiftT y t) = 0) :
    ∀ (d i : Nat), i + d = (varsT t).length → (∀ v, v ∈ (varsT t).take i → ¬ v ∈ varsT (shiftT y t)) → Ev (fun k => PA.elenchuslaw04_UnifyShifted.l0 k 0 (varsT t) (i : Int) t.h (toSL t.args) (shiftT y t).h (toSL (shiftT y t).args)) true
  | 0, i, hi, hd => by
    rw [List.take_of_length_le (by omega)] at hd
    obtain ⟨h1, h2, h3⟩ := ushifted_end ht hy hu hd
    have hz := right_size hu
    have hg := chk_good ht
    have hgu := chk_good (rightB_chk.2 hu)
    have a1 := apply_pure (okBd_right h3) (p := t) (by omega)
    rw [h2] at a1
    have hs1 := size_f _ t (Nat.le_refl _) (by omega)
    have hcnt := shift_count hg hy hgu hd
    refine Ev.step (f := fun k => (PA.elenchusref01_Size.f k t.h (toSL t.args)).bind fun x => (PA.elenchusref01_Size.f k t.h (toSL t.args)).bind fun z => if x = z then some (((toBL (tidyF (shS t y))).length : Int) == ((varsT t).length : Int)) else some false) ?_ fun k => ?_
    · refine hs1.bind (g := fun k x => (PA.elenchusref01_Size.f k t.h (toSL t.args)).bind fun z => if x = z then some (((toBL (tidyF (shS t y))).length : Int) == ((varsT t).length : Int)) else some false) ?_
      refine hs1.bind (g := fun k z => if (t.size : Int) = z then some (((toBL (tidyF (shS t y))).length : Int) == ((varsT t).length : Int)) else some false) ?_
      refine Ev.const.congr fun k => ?_
      rw [if_pos rfl, toBL_length, hcnt]
      simp
    · rw [PA.elenchuslaw04_UnifyShifted.l0, if_neg (by omega), if_pos rfl, unify_pure (by omega) (by omega), h1]
      simp only [Option.bind_some, a1, PA.elenchuslaw04_awake.f, if_true]
  | d + 1, i, hi, hd => by
    have hg := chk_good ht
    have hgu := chk_good (rightB_chk.2 hu)
    have hvl := (varsT_ok hg).len
    have hlt : i < (varsT t).length := by omega
    refine ((refvars hgu).bind (g := fun k vu => (PA.elenchusref01_In.f (varsT t)[i] vu).bind fun q => PA.elenchuslaw04_UnifyShifted.j1 k 0 (varsT t) (i : Int) q t.h (toSL t.args) (shiftT y t).h (toSL (shiftT y t).args)) ?_).step fun k => ?_
    · by_cases hm : (varsT t)[i] ∈ varsT (shiftT y t)
      · have hj : Ev (fun k => PA.elenchuslaw04_UnifyShifted.j1 k 0 (varsT t) (i : Int) true t.h (toSL t.args) (shiftT y t).h (toSL (shiftT y t).args)) true := Ev.const.step fun k => by rw [PA.elenchuslaw04_UnifyShifted.j1, if_pos rfl]; rfl
        refine hj.congr fun k => ?_
        unfold PA.elenchusref01_In.f
        rw [Option.bind_some, hasB_iff.2 hm]
      · have hrec := ushifted_l0 hs ht hy hu d (i + 1) (by omega) (fun v hv => by
          rw [List.take_succ_eq_append_getElem hlt] at hv
          rcases List.mem_append.1 hv with hv | hv
          · exact hd v hv
          · simp only [List.mem_singleton] at hv; rw [hv]; exact hm)
        have hj : Ev (fun k => PA.elenchuslaw04_UnifyShifted.j1 k 0 (varsT t) (i : Int) false t.h (toSL t.args) (shiftT y t).h (toSL (shiftT y t).args)) true := hrec.step fun k => by
          rw [PA.elenchuslaw04_UnifyShifted.j1, if_neg (by simp), wrap_next (by omega) (by omega)]; rfl
        refine hj.congr fun k => ?_
        unfold PA.elenchusref01_In.f
        have : hasB (varsT t)[i] (varsT (shiftT y t)) = false := by
          cases hb : hasB (varsT t)[i] (varsT (shiftT y t))
          · rfl
          · exact absurd (hasB_iff.1 hb) hm
        rw [Option.bind_some, this]
    · rw [PA.elenchuslaw04_UnifyShifted.l0, if_pos (by omega), if_pos rfl, if_pos (by omega), rd_nat _ i hlt]
theorem ushifted_pure (t : Tm) (y : Int) : Ev (fun k => PA.elenchuslaw04_UnifyShifted.f k t.h (toSL t.args) y) true := by
  unfold PA.elenchuslaw04_UnifyShifted.f
  rw [one_list]
  refine (few4_f [t]).bind (g := fun k q => if q = true then (PA.subst_Shift.f t.h (toSL t.args) y).bind fun u => (PA.elenchusref01_Vars.f k t.h (toSL t.args)).bind fun vs => PA.elenchuslaw04_UnifyShifted.l0 k u.2.2 vs 0 t.h (toSL t.args) u.1 u.2.1 else some true) ?_
  cases hf : fewR [t]
  · exact Ev.const.congr fun k => by simp
  have hz := fewR_sizes hf
  simp only [Tm.sizes] at hz
  simp only [if_true]
  have hsh : PA.subst_Shift.f t.h (toSL t.args) y = some ((shiftE y t).1.h, toSL (shiftE y t).1.args, (shiftE y t).2) := by
    unfold PA.subst_Shift.f
    rw [ofS_mk, if_pos (by omega)]
  rw [hsh]
  simp only [Option.bind_some]
  by_cases he : (shiftE y t).2 = 0
  · unfold shiftE at he ⊢
    by_cases hc : rightB t = true ∧ 0 ≤ y ∧ y ≤ 255
    rotate_left
    · rw [if_neg hc] at he; cases he
    rw [if_pos hc] at he ⊢
    unfold endT at he ⊢
    by_cases hu : chk (shiftT y t) = 0
    rotate_left
    · rw [if_neg hu] at he; exact absurd he hu
    rw [if_pos hu]
    refine (refvars (chk_good hc.1)).bind (g := fun k vs => PA.elenchuslaw04_UnifyShifted.l0 k 0 vs 0 t.h (toSL t.args) (shiftT y t).h (toSL (shiftT y t).args)) ?_
    exact ushifted_l0 (by omega) hc.1 hc.2.1 hu (varsT t).length 0 (by omega) (by simp)
  · obtain ⟨r, h1, h2⟩ := varsA_f 60 (by omega) t (by omega)
    refine h1.bind (g := fun k vs => PA.elenchuslaw04_UnifyShifted.l0 k (shiftE y t).2 vs 0 t.h (toSL t.args) (shiftE y t).1.h (toSL (shiftE y t).1.args)) ?_
    exact ushifted_no he (by omega) r.length 0 (by omega)
theorem ushifted_calls (t : Tm) (h1 y : Int) (s1 : Value) (w : World) (ht : IsTm (fun _ => False) w h1 s1 t) :
    Calls Try.prog 21 #[.agg #[.int .i64 h1, s1], .int .i64 y] w fun e w' => e = .returned (.bool true) ∧ Below w.heap.size w w' := by
  obtain ⟨rfl, a1, c1, rfl, -, -⟩ := ht.shape
  have k1 := v_any ht.2
  have e1 : t.args.length = (toSL t.args).length := (toSL_length _).symm
  rw [e1] at k1 ⊢
  obtain ⟨k0, hk⟩ := ushifted_pure t y
  exact PA.elenchuslaw04_UnifyShifted.calls k0 t.h _ a1 c1 (toSL t.args) y true w k1 (hk k0 (Nat.le_refl _))
end Go.Proofs.Ythplndalbfcbbaa
