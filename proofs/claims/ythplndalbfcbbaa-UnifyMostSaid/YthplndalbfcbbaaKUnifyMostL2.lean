/- What the proof of the law rests on: contracts of the functions, plain laws, and words. -/
import Derived.Test.YthplndalbfcbbaaKUnifyMostL0
import Derived.Test.YthplndalbfcbbaaKUnifyMostL1
import Derived.Test.YthplndalbfcbbaaKUnifyMostG12
import Derived.Test.YthplndalbfcbbaaKUnifyMostG9
import Derived.Test.YthplndalbfcbbaaKUnifyMostG6
import Derived.Test.YthplndalbfcbbaaKUnifyMostG4
import Derived.Test.YthplndalbfcbbaaKUnifyMostG7
import Derived.Test.YthplndalbfcbbaaKUnifyMostG11
import Derived.Test.YthplndalbfcbbaaKUnifyMostXUnifyT
namespace Go.Proofs.Ythplndalbfcbbaa.PA
open Go.RowKit Go.Proofs.YthplndalbfcbbaaW.PrintWords Go.Proofs.YthplndalbfcbbaaW.PrintLast Go.Proofs.YthplndalbfcbbaaW.PrintMore
attribute [local go_sem] max2_int min2_int max_two min_two max_three min_three max_four min_four   -- for this text's walks alone
set_option linter.unusedVariables false
set_option linter.unusedSimpArgs false
end Go.Proofs.Ythplndalbfcbbaa.PA
namespace Go.Proofs.Ythplndalbfcbbaa.PA
open Go.RowKit Go.Proofs.YthplndalbfcbbaaW.PrintWords Go.Proofs.YthplndalbfcbbaaW.PrintLast Go.Proofs.YthplndalbfcbbaaW.PrintMore
attribute [local go_sem] max2_int min2_int max_two min_two max_three min_three max_four min_four   -- for this text's walks alone
set_option linter.unusedVariables false
set_option linter.unusedSimpArgs false
end Go.Proofs.Ythplndalbfcbbaa.PA
namespace Go.Proofs.Ythplndalbfcbbaa.PA
open Go.RowKit Go.Proofs.YthplndalbfcbbaaW.PrintWords Go.Proofs.YthplndalbfcbbaaW.PrintLast Go.Proofs.YthplndalbfcbbaaW.PrintMore
attribute [local go_sem] max2_int min2_int max_two min_two max_three min_three max_four min_four   -- for this text's walks alone
set_option linter.unusedVariables false
set_option linter.unusedSimpArgs false
end Go.Proofs.Ythplndalbfcbbaa.PA
namespace Go.Proofs.Ythplndalbfcbbaa.PA
open Go.RowKit Go.Proofs.YthplndalbfcbbaaW.PrintWords Go.Proofs.YthplndalbfcbbaaW.PrintLast Go.Proofs.YthplndalbfcbbaaW.PrintMore
attribute [local go_sem] max2_int min2_int max_two min_two max_three min_three max_four min_four   -- for this text's walks alone
set_option linter.unusedVariables false
set_option linter.unusedSimpArgs false
end Go.Proofs.Ythplndalbfcbbaa.PA
namespace Go.Proofs.Ythplndalbfcbbaa.PA
open Go.RowKit Go.Proofs.YthplndalbfcbbaaW.PrintWords Go.Proofs.YthplndalbfcbbaaW.PrintLast Go.Proofs.YthplndalbfcbbaaW.PrintMore
attribute [local go_sem] max2_int min2_int max_two min_two max_three min_three max_four min_four   -- for this text's walks alone
set_option linter.unusedVariables false
set_option linter.unusedSimpArgs false
end Go.Proofs.Ythplndalbfcbbaa.PA
namespace Go.Proofs.Ythplndalbfcbbaa.PA
open Go.RowKit Go.Proofs.YthplndalbfcbbaaW.PrintWords Go.Proofs.YthplndalbfcbbaaW.PrintLast Go.Proofs.YthplndalbfcbbaaW.PrintMore
attribute [local go_sem] max2_int min2_int max_two min_two max_three min_three max_four min_four   -- for this text's walks alone
set_option linter.unusedVariables false
set_option linter.unusedSimpArgs false
end Go.Proofs.Ythplndalbfcbbaa.PA
namespace Go.Proofs.Ythplndalbfcbbaa.PA
open Go.RowKit Go.Proofs.YthplndalbfcbbaaW.PrintWords Go.Proofs.YthplndalbfcbbaaW.PrintLast Go.Proofs.YthplndalbfcbbaaW.PrintMore
attribute [local go_sem] max2_int min2_int max_two min_two max_three min_three max_four min_four   -- for this text's walks alone
set_option linter.unusedVariables false
set_option linter.unusedSimpArgs false
end Go.Proofs.Ythplndalbfcbbaa.PA
namespace Go.Proofs.Ythplndalbfcbbaa.PA
open Go.RowKit Go.Proofs.YthplndalbfcbbaaW.PrintWords Go.Proofs.YthplndalbfcbbaaW.PrintLast Go.Proofs.YthplndalbfcbbaaW.PrintMore
attribute [local go_sem] max2_int min2_int max_two min_two max_three min_three max_four min_four   -- for this text's walks alone
set_option linter.unusedVariables false
set_option linter.unusedSimpArgs false
end Go.Proofs.Ythplndalbfcbbaa.PA
namespace Go.Proofs.Ythplndalbfcbbaa.PA
open Go.RowKit Go.Proofs.YthplndalbfcbbaaW.PrintWords Go.Proofs.YthplndalbfcbbaaW.PrintLast Go.Proofs.YthplndalbfcbbaaW.PrintMore
attribute [local go_sem] max2_int min2_int max_two min_two max_three min_three max_four min_four   -- for this text's walks alone
set_option linter.unusedVariables false
set_option linter.unusedSimpArgs false
end Go.Proofs.Ythplndalbfcbbaa.PA
namespace Go.Proofs.Ythplndalbfcbbaa.PA
open Go.RowKit Go.Proofs.YthplndalbfcbbaaW.PrintWords Go.Proofs.YthplndalbfcbbaaW.PrintLast Go.Proofs.YthplndalbfcbbaaW.PrintMore
attribute [local go_sem] max2_int min2_int max_two min_two max_three min_three max_four min_four   -- for this text's walks alone
set_option linter.unusedVariables false
set_option linter.unusedSimpArgs false
end Go.Proofs.Ythplndalbfcbbaa.PA
set_option linter.unusedSimpArgs false
set_option linter.unusedVariables false
namespace Go.Proofs.Ythplndalbfcbbaa
open Go.RowKit Go.Proofs.YthplndalbfcbbaaW.PrintWords
theorem ofS_mk (t : Tm) : ofS ⟨t.h, toSL t.args⟩ = t := by cases t; simp only [ofS, Tm.h, Tm.args, ofSL_toSL]
theorem wrap_next {i : Int} (h0 : 0 ≤ i) (h1 : i ≤ 9223372036854775806) : wrap64 (i + 1) = i + 1 := by unfold wrap64; omega
theorem rd_nat (l : List Int) (i : Nat) (h : i < l.length) : rd l (i : Int) = l[i] := by simp [rd, h]
theorem rdB_nat (l : List Bd) (i : Nat) (h : i < l.length) : PA.rd_T60 (toBL l) (i : Int) = toB l[i] := by simp [PA.rd_T60, toBL, h]
theorem rdT_nat (l : List Tm) (i : Nat) (h : i < l.length) : PA.rd_T25 (toSL l) (i : Int) = toS l[i] := by simp [PA.rd_T25, toSL_map, h]
theorem apply_pure {u : List Bd} (hu : u.all okBd = true) {p : Tm} (hp : p.size ≤ 1000000) : PA.subst_Apply.f (toBL u) p.h (toSL p.args) = some ((applyT u p).1.h, toSL (applyT u p).1.args, (applyT u p).2) := by
  unfold PA.subst_Apply.f
  rw [ofBL_toBL, ofS_mk, if_pos ⟨hu, hp⟩]
theorem same_pureG {p t : Tm} (hp : p.size ≤ 9000000000000000000) (ht : t.size ≤ 9000000000000000000) : PA.elenchusref01_Same.f p.h (toSL p.args) t.h (toSL t.args) = some (sameB p t) := by
  unfold PA.elenchusref01_Same.f
  rw [ofS_mk, ofS_mk, if_pos ⟨hp, ht⟩]
theorem okBd_right {s : List Bd} (h : rightBs s = true) : s.all okBd = true := by
  rw [List.all_eq_true]
  intro b hb
  have h1 := okBs_mem h b hb
  have h2 := right_size (rightB_chk.1 h1.2.2.1)
  simp only [okBd, Bool.and_eq_true, decide_eq_true_eq]
  omega
theorem okBd_few {s : List Bd} (hr : ∀ b, b ∈ s → -9223372036854775808 ≤ b.v ∧ b.v ≤ 9223372036854775807) (h : fewBs s = true) : s.all okBd = true := by
  rw [List.all_eq_true]
  intro b hb
  have h1 := hr b hb
  have h2 := few_sizes h b hb
  simp only [okBd, Bool.and_eq_true, decide_eq_true_eq]
  omega
end Go.Proofs.Ythplndalbfcbbaa
set_option linter.unusedSimpArgs false
set_option linter.unusedVariables false
namespace Go.Proofs.Ythplndalbfcbbaa
open Go.RowKit Go.Proofs.YthplndalbfcbbaaW.PrintWords
def Ev {α : Type} (f : Nat → Option α) (r : α) : Prop := ∃ k0, ∀ k, k0 ≤ k → f k = some r
theorem Ev.step {α : Type} {f g : Nat → Option α} {r : α} (h : Ev f r) (e : ∀ k, g (k + 1) = f k) : Ev g r := by
  obtain ⟨k0, h⟩ := h
  refine ⟨k0 + 1, fun k hk => ?_⟩
  obtain ⟨k, rfl⟩ : ∃ m, k = m + 1 := ⟨k - 1, by omega⟩
  rw [e, h k (by omega)]
theorem Ev.const {α : Type} {r : α} : Ev (fun _ => some r) r := ⟨0, fun _ _ => rfl⟩
theorem Ev.bind {α β : Type} {f : Nat → Option α} {g : Nat → α → Option β} {a : α} {r : β} (h : Ev f a) (k : Ev (fun n => g n a) r) : Ev (fun n => (f n).bind (g n)) r := by
  obtain ⟨k1, h⟩ := h
  obtain ⟨k2, k⟩ := k
  exact ⟨max k1 k2, fun n hn => by simp only [h n (by omega), Option.bind_some, k n (by omega)]⟩
theorem Ev.congr {α : Type} {f g : Nat → Option α} {r : α} (h : Ev f r) (e : ∀ k, g k = f k) : Ev g r := by
  obtain ⟨k0, h⟩ := h
  exact ⟨k0, fun k hk => by rw [e, h k hk]⟩
theorem step_fold (v : Int) : ∀ (L acc : List Int), v ∈ L → v ∈ L.foldl numStep acc
  | [], _, h => by simp at h
  | x :: L, acc, h => by
    rw [List.foldl_cons]
    have hm : ∀ (L acc : List Int), v ∈ acc → v ∈ L.foldl numStep acc := by
      intro L
      induction L with
      | nil => intro acc h; exact h
      | cons y L ih => intro acc h; exact ih _ (mem_numStep.2 (.inl h))
    rcases List.mem_cons.1 h with rfl | h
    · exact hm L _ (mem_step _ _)
    · exact step_fold v L _ h
theorem fold_vstep : ∀ (hs L acc : List Int), (hs.foldl vstep L).foldl numStep acc = hs.foldl vstep (L.foldl numStep acc)
  | [], _, _ => rfl
  | h :: hs, L, acc => by
    rw [List.foldl_cons, List.foldl_cons, fold_vstep hs]
    congr 1
    unfold vstep
    by_cases hc : h < 0
    · by_cases hm : (-1 - h) ∈ L
      · rw [if_neg (fun e => e.2 hm), if_neg (fun e => e.2 (step_fold _ _ _ hm))]
      · rw [if_pos ⟨hc, hm⟩, List.foldl_append]
        simp only [List.foldl_cons, List.foldl_nil, numStep]
        by_cases h2 : (-1 - h) ∈ L.foldl numStep acc
        · rw [if_pos h2, if_neg (fun e => e.2 h2)]
        · rw [if_neg h2, if_pos ⟨hc, h2⟩]
    · rw [if_neg (fun e => hc e.1), if_neg (fun e => hc e.1)]
theorem fold_num {t : Tm} (hg : t.good = true) (acc : List Int) : (numT [] t).foldl numStep acc = numT acc t := by
  rw [num_heads t [] hg, num_heads t acc hg, fold_vstep]; rfl
theorem foldl_drop (vs : List Int) (j : Nat) (h : j < vs.length) (acc : List Int) : (vs.drop j).foldl numStep acc = (vs.drop (j + 1)).foldl numStep (numStep acc vs[j]) := by
  rw [List.drop_eq_getElem_cons h, List.foldl_cons]
theorem numL_drop (l : List Tm) (i : Nat) (h : i < l.length) (acc : List Int) : numL acc (l.drop i) = numL (numT acc l[i]) (l.drop (i + 1)) := by
  rw [List.drop_eq_getElem_cons h, numL]
end Go.Proofs.Ythplndalbfcbbaa
set_option linter.unusedSimpArgs false
set_option linter.unusedVariables false
namespace Go.Proofs.Ythplndalbfcbbaa
open Go.RowKit Go.Proofs.YthplndalbfcbbaaW.PrintWords
def OkN (l : List Int) : Prop := l.Nodup ∧ ∀ x, x ∈ l → 0 ≤ x ∧ x < (256 : Nat)
theorem OkN.len {l : List Int} (h : OkN l) : l.length ≤ 256 := pigeon 256 l h.1 h.2
theorem OkN.nil : OkN [] := ⟨List.nodup_nil, by simp⟩
theorem OkN.step {l : List Int} (h : OkN l) {v : Int} (h0 : 0 ≤ v) (h1 : v < (256 : Nat)) : OkN (numStep l v) := by
  unfold numStep
  split
  · exact h
  · rename_i hm
    refine ⟨List.nodup_append.2 ⟨h.1, by simp, fun a ha b hb => ?_⟩, fun x hx => ?_⟩
    · simp only [List.mem_singleton] at hb
      subst hb
      exact fun e => hm (e ▸ ha)
    · rcases List.mem_append.1 hx with hx | hx
      · exact h.2 x hx
      · simp only [List.mem_singleton] at hx
        subst hx; exact ⟨h0, h1⟩
theorem OkN.heads : ∀ (hs : List Int) {l : List Int}, OkN l → (∀ h, h ∈ hs → -256 ≤ h) → OkN (hs.foldl vstep l)
  | [], _, h, _ => h
  | x :: hs, l, h, hr => by
    rw [List.foldl_cons]
    refine OkN.heads hs ?_ fun y hy => hr y (by simp [hy])
    have hx := hr x (by simp)
    unfold vstep
    split
    · rename_i hc
      have := h.step (v := -1 - x) (by omega) (by omega)
      unfold numStep at this
      rwa [if_neg hc.2] at this
    · exact h
theorem OkN.num {l : List Int} (h : OkN l) {t : Tm} (hg : t.good = true) : OkN (numT l t) := by
  rw [num_heads t l hg]
  exact h.heads _ fun x hx => (good_heads t hg x hx).1
theorem varsG_l1 {h : Int} {l : List Tm} {i : Nat} {vs : List Int} (hvs : OkN vs) (hi : i ≤ 1000000000) {r : List Int} :
    ∀ (d j : Nat) (acc : List Int), j + d = vs.length → OkN acc → Ev (fun k => PA.elenchusref01_Vars.l0 k ((vs.drop j).foldl numStep acc) ((i + 1 : Nat) : Int) h (toSL l)) r → Ev (fun k => PA.elenchusref01_Vars.l1 k acc (i : Int) vs (j : Int) h (toSL l)) r
  | 0, j, acc, hj, ha, hr => by
    have hvl := hvs.len
    rw [List.drop_eq_nil_of_le (by omega), List.foldl_nil] at hr
    refine hr.step fun k => ?_
    simp only [PA.elenchusref01_Vars.l1]
    rw [if_neg (by omega), wrap_next (by omega) (by omega)]; rfl
  | d + 1, j, acc, hj, ha, hr => by
    have hvl := hvs.len
    have hal := ha.len
    have hlt : j < vs.length := by omega
    have hv := hvs.2 _ (List.getElem_mem hlt)
    rw [foldl_drop vs j hlt] at hr
    refine (varsG_l1 hvs hi d (j + 1) (numStep acc vs[j]) (by omega) (ha.step hv.1 hv.2) hr).step fun k => ?_
    rw [PA.elenchusref01_Vars.l1, if_pos (by omega), if_pos (by omega), rd_nat vs j hlt, wrap_next (by omega) (by omega)]
    simp only [PA.elenchusref01_In.f, Option.bind_some]
    by_cases hm : vs[j] ∈ acc
    · rw [if_pos (hasB_iff.2 hm), show numStep acc vs[j] = acc by simp [numStep, hm]]; rfl
    · rw [if_neg (fun e => hm (hasB_iff.1 e)), if_pos (by omega), show numStep acc vs[j] = acc ++ [vs[j]] by simp [numStep, hm]]; rfl
theorem varsG_l0 (n0 : Nat) (ih : ∀ t : Tm, t.size ≤ n0 → t.good = true → Ev (fun k => PA.elenchusref01_Vars.f k t.h (toSL t.args)) (numT [] t)) {h : Int} {l : List Tm} (hl : l.length ≤ 1000000000) (hk : ∀ t, t ∈ l → t.size ≤ n0 ∧ t.good = true) :
    ∀ (d i : Nat) (acc : List Int), i + d = l.length → OkN acc → Ev (fun k => PA.elenchusref01_Vars.l0 k acc (i : Int) h (toSL l)) (numL acc (l.drop i))
  | 0, i, acc, hi, ha => by
    rw [List.drop_eq_nil_of_le (by omega), numL]
    refine Ev.const.step fun k => ?_
    simp only [PA.elenchusref01_Vars.l0]
    rw [if_neg (by rw [toSL_length]; omega)]
  | d + 1, i, acc, hi, ha => by
    have hlt : i < l.length := by omega
    obtain ⟨g1, g3⟩ := hk l[i] (List.getElem_mem hlt)
    have hrec := varsG_l0 n0 ih (h := h) hl hk d (i + 1) (numT acc l[i]) (by omega) (ha.num g3)
    rw [← numL_drop l i hlt, ← fold_num g3] at hrec
    have hl1 := varsG_l1 (h := h) (l := l) (i := i) (vs := numT [] l[i]) (OkN.nil.num g3) (by omega) (numT [] l[i]).length 0 acc (by omega) ha (by rw [List.drop_zero]; exact hrec)
    refine ((ih l[i] g1 g3).bind (g := fun k v => PA.elenchusref01_Vars.l1 k acc (i : Int) v ((0 : Nat) : Int) h (toSL l)) hl1).step fun k => ?_
    rw [PA.elenchusref01_Vars.l0, if_pos (by rw [toSL_length]; omega), if_pos (by omega), rdT_nat l i hlt, toS_f0, toS_f1]; rfl
theorem varsG_f (n0 : Nat) : ∀ (t : Tm), t.size ≤ n0 → t.good = true → Ev (fun k => PA.elenchusref01_Vars.f k t.h (toSL t.args)) (numT [] t) := by
  induction n0 with
  | zero => intro t ht; have := t.size_eq; omega
  | succ n0 ih =>
    intro t ht hg
    obtain ⟨hh, hl8, hkids⟩ := good_args hg
    have hsz := t.size_eq
    have h0 := varsG_l0 n0 ih (h := t.h) (l := t.args) (by omega) (fun u hu => by
      obtain ⟨i, hi, rfl⟩ := List.getElem_of_mem hu
      have := Tm.size_get t.args i hi
      exact ⟨by omega, hkids i hi⟩)
    have hj : ∀ acc : List Int, OkN acc → Ev (fun k => PA.elenchusref01_Vars.j0 k acc t.h (toSL t.args)) (numL acc t.args) := fun acc ha => by
      have := h0 t.args.length 0 acc (by omega) ha
      rw [List.drop_zero] at this
      exact this.step fun k => by rw [PA.elenchusref01_Vars.j0]; rfl
    by_cases hneg : t.h < 0
    · have ha : t.args = [] := by cases t; exact good_var hg hneg
      have hr : numT [] t = numL [-1 - t.h] t.args := by rw [(renT_neg [] t hneg).2, ha]; simp [numStep, numL]
      rw [hr]
      have hok : OkN [-1 - t.h] := by
        have := OkN.nil.step (v := -1 - t.h) (by omega) (by omega)
        simpa [numStep] using this
      refine (hj [-1 - t.h] hok).step fun k => ?_
      rw [PA.elenchusref01_Vars.f, if_pos hneg, if_pos (by simp)]
      have : wrap64 (-1 - t.h) = -1 - t.h := by unfold wrap64; omega
      rw [this]; rfl
    · rw [(renT_pos [] t hneg).2]
      refine (hj [] OkN.nil).step fun k => ?_
      rw [PA.elenchusref01_Vars.f, if_neg hneg]
theorem cntL_drop2 (l : List Tm) (k : Nat) (h : k < l.length) (m x : Int) : cntL (l.drop k) m x = if x ≤ m then cntL (l.drop (k + 1)) m (x + cntT l[k] (m - x)) else x := by
  rw [List.drop_eq_getElem_cons h]; simp [cntL]
theorem count_l0 (n0 : Nat) (ih : ∀ (t : Tm) (m : Int), t.size ≤ n0 → 0 ≤ m → m ≤ 1000000 → Ev (fun k => PA.elenchusref01_Count.f k t.h (toSL t.args) m) (cntT t m)) {h m : Int} {l : List Tm} (hm : 0 ≤ m) (hm1 : m ≤ 1000000) (hk : ∀ t, t ∈ l → t.size ≤ n0) :
    ∀ (d i : Nat) (x : Int), i + d = l.length → (i : Int) + 1 ≤ x → x ≤ m + 1 → Ev (fun k => PA.elenchusref01_Count.l0 k m x (i : Int) h (toSL l)) (cntL (l.drop i) m x)
  | 0, i, x, hi, h0, h1 => by
    rw [List.drop_eq_nil_of_le (by omega), cntL]
    refine (Ev.const.step (g := fun k => PA.elenchusref01_Count.j1 k m x (i : Int) false h (toSL l)) fun k => ?_).step fun k => ?_
    · rw [PA.elenchusref01_Count.j1]; simp
    · rw [PA.elenchusref01_Count.l0, if_neg (by rw [toSL_length]; omega)]
  | d + 1, i, x, hi, h0, h1 => by
    have hlt : i < l.length := by omega
    rw [cntL_drop2 l i hlt]
    refine Ev.step (f := fun k => PA.elenchusref01_Count.j1 k m x (i : Int) (decide (x ≤ m)) h (toSL l)) ?_ fun k => by rw [PA.elenchusref01_Count.l0, if_pos (by rw [toSL_length]; omega)]
    by_cases hx : x ≤ m
    · rw [if_pos hx]
      have hr := cntT_range l[i] (m - x) (by omega)
      have hrec := count_l0 n0 ih (h := h) hm hm1 hk d (i + 1) (x + cntT l[i] (m - x)) (by omega) (by push_cast; omega) (by omega)
      have e1 : wrap64 (m - x) = m - x := by unfold wrap64; omega
      have e2 : wrap64 (x + cntT l[i] (m - x)) = x + cntT l[i] (m - x) := by unfold wrap64; omega
      have hi2 := ih l[i] (m - x) (hk _ (List.getElem_mem hlt)) (by omega) (by omega)
      refine (hi2.bind (g := fun k v => PA.elenchusref01_Count.l0 k m (wrap64 (x + v)) ((i + 1 : Nat) : Int) h (toSL l)) (by rw [e2]; exact hrec)).step fun k => ?_
      rw [PA.elenchusref01_Count.j1, if_pos (by simpa using hx), if_pos (by omega), if_pos (by rw [toSL_length]; omega), rdT_nat l i hlt, toS_f0, toS_f1, wrap_next (by omega) (by omega), e1]; rfl
    · rw [if_neg hx]
      refine Ev.const.step fun k => ?_
      rw [PA.elenchusref01_Count.j1, if_neg (by simpa using hx)]
theorem count_f (n0 : Nat) : ∀ (t : Tm) (m : Int), t.size ≤ n0 → 0 ≤ m → m ≤ 1000000 → Ev (fun k => PA.elenchusref01_Count.f k t.h (toSL t.args) m) (cntT t m) := by
  induction n0 with
  | zero => intro t m ht; have := t.size_eq; omega
  | succ n0 ih =>
    intro t m ht hm hm1
    have hsz := t.size_eq
    have h0 := count_l0 n0 ih (h := t.h) (l := t.args) hm hm1 (fun u hu => by
      obtain ⟨i, hi, rfl⟩ := List.getElem_of_mem hu
      have := Tm.size_get t.args i hi
      omega) t.args.length 0 1 (by omega) (by omega) (by omega)
    rw [List.drop_zero, ← cntT_eq] at h0
    exact h0.step fun k => by rw [PA.elenchusref01_Count.f]; rfl
def cntR (n : Int) : List Tm → Int
  | [] => n
  | t :: ts => if n ≤ 60 then cntR (n + cntT t 60) ts else n
def fewR (ts : List Tm) : Bool := decide (cntR 0 ts ≤ 60)
theorem cntR_drop (l : List Tm) (k : Nat) (h : k < l.length) (n : Int) : cntR n (l.drop k) = if n ≤ 60 then cntR (n + cntT l[k] 60) (l.drop (k + 1)) else n := by
  rw [List.drop_eq_getElem_cons h]; simp [cntR]
theorem cntR_le : ∀ (ts : List Tm) (n : Int), 0 ≤ n → n ≤ cntR n ts
  | [], n, _ => by simp [cntR]
  | t :: ts, n, h => by
    simp only [cntR]
    split
    · have := cntT_range t 60 (by omega)
      have := cntR_le ts (n + cntT t 60) (by omega)
      omega
    · omega
theorem cntR_sizes : ∀ (ts : List Tm) (n : Int), 0 ≤ n → cntR n ts ≤ 60 → n + Tm.sizes ts ≤ 60
  | [], n, _, h => by simpa [cntR, Tm.sizes] using h
  | t :: ts, n, h0, h => by
    simp only [cntR] at h
    split at h
    · have hr := cntT_range t 60 (by omega)
      have hz := cntT_size t 60 (by omega)
      have hle := cntR_le ts (n + cntT t 60) (by omega)
      have := cntR_sizes ts _ (by omega) h
      have h5 := hz.2 (by omega)
      have h6 := hz.1 (by omega)
      simp only [Tm.sizes]; push_cast; omega
    · omega
theorem fewR_sizes {ts : List Tm} (h : fewR ts = true) : Tm.sizes ts ≤ 60 := by
  have := cntR_sizes ts 0 (by omega) (by simpa [fewR] using h); omega
theorem few4_l0 (l : List Tm) : ∀ (d i : Nat) (x : Int), i + d = l.length → (i : Int) ≤ x → x ≤ 200 → Ev (fun k => PA.elenchusref04_Few.l0 k (toSL l) x (i : Int)) (decide (cntR x (l.drop i) ≤ 60))
  | 0, i, x, hi, h0, h1 => by
    rw [List.drop_eq_nil_of_le (by omega), cntR]
    refine (Ev.const.step (g := fun k => PA.elenchusref04_Few.j1 k (toSL l) x (i : Int) false) fun k => ?_).step fun k => ?_
    · rw [PA.elenchusref04_Few.j1]; simp
    · rw [PA.elenchusref04_Few.l0, if_neg (by rw [toSL_length]; omega)]
  | d + 1, i, x, hi, h0, h1 => by
    have hlt : i < l.length := by omega
    rw [cntR_drop l i hlt]
    refine Ev.step (f := fun k => PA.elenchusref04_Few.j1 k (toSL l) x (i : Int) (decide (x ≤ 60))) ?_ fun k => by rw [PA.elenchusref04_Few.l0, if_pos (by rw [toSL_length]; omega)]
    by_cases hx : x ≤ 60
    · rw [if_pos hx]
      have hr := cntT_range l[i] 60 (by omega)
      have hrec := few4_l0 l d (i + 1) (x + cntT l[i] 60) (by omega) (by push_cast; omega) (by omega)
      have e2 : wrap64 (x + cntT l[i] 60) = x + cntT l[i] 60 := by unfold wrap64; omega
      have hi2 := count_f _ l[i] 60 (Nat.le_refl _) (by omega) (by omega)
      refine (hi2.bind (g := fun k v => PA.elenchusref04_Few.l0 k (toSL l) (wrap64 (x + v)) ((i + 1 : Nat) : Int)) (by rw [e2]; exact hrec)).step fun k => ?_
      rw [PA.elenchusref04_Few.j1, if_pos (by simpa using hx), if_pos (by omega), if_pos (by rw [toSL_length]; omega), rdT_nat l i hlt, toS_f0, toS_f1, wrap_next (by omega) (by omega)]; rfl
    · rw [if_neg hx]
      refine Ev.const.step fun k => ?_
      rw [PA.elenchusref04_Few.j1, if_neg (by simpa using hx)]
theorem few4_f (l : List Tm) : Ev (fun k => PA.elenchusref04_Few.f k (toSL l)) (fewR l) := by
  have := few4_l0 l l.length 0 0 (by omega) (by omega) (by omega)
  rw [List.drop_zero] at this
  exact this
theorem wrap_var {v : Int} (h0 : 0 ≤ v) (h1 : v ≤ 1000000000) : wrap64 (-1 - v) = -1 - v := by unfold wrap64; omega
end Go.Proofs.Ythplndalbfcbbaa
set_option linter.unusedSimpArgs false
set_option linter.unusedVariables false
namespace Go.Proofs.Ythplndalbfcbbaa
open Go.RowKit Go.Proofs.YthplndalbfcbbaaW.PrintWords
theorem endL_no {S : Sub} : ∀ (vs : List Int) (acc : List Bd), (endL S vs acc).2 ≠ 0 → (endL S vs acc).1 = []
  | [], acc, h => absurd rfl h
  | v :: vs, acc, h => by
    simp only [endL] at h ⊢
    split
    · rfl
    · rename_i h1
      rw [if_neg h1] at h
      split
      · rfl
      · rename_i h2
        rw [if_neg h2] at h
        exact endL_no vs _ h
theorem endL_yes {S : Sub} : ∀ (vs : List Int) (acc : List Bd), (∀ v, v ∈ vs → (S v).good = true) → (endL S vs acc).2 = 0 → (endL S vs acc).1 = acc ++ vs.map (fun v => ⟨v, S v⟩) ∧ ∀ v, v ∈ vs → chk (S v) = 0
  | [], acc, _, _ => ⟨by simp [endL], by simp⟩
  | v :: vs, acc, hg, h => by
    simp only [endL] at h ⊢
    by_cases h1 : 400 < (S v).size
    · rw [if_pos h1] at h; cases h
    · rw [if_neg h1] at h ⊢
      by_cases h2 : 40 < (S v).depth
      · rw [if_pos h2] at h; cases h
      · rw [if_neg h2] at h ⊢
        obtain ⟨g1, g2⟩ := endL_yes vs _ (fun u hu => hg u (by simp [hu])) h
        refine ⟨by rw [g1]; simp, fun u hu => ?_⟩
        rcases List.mem_cons.1 hu with rfl | hu
        · simp [chk, h1, h2, hg u (by simp)]
        · exact g2 u hu
inductive UCase (ps ts : List Tm) : Prop
  | wrong : ¬ (ps.length = ts.length ∧ ps.all rightB = true ∧ ts.all rightB = true) → unifyT ps ts = ([], false, 1) → UCase ps ts
  | none : ps.length = ts.length → ps.all rightB = true → ts.all rightB = true → (∀ τ, ¬ Sol τ (ps.zip ts)) → unifyT ps ts = ([], false, 0) → UCase ps ts
  | long (f : Env) (S : Sub) (e : Int) : ps.length = ts.length → ps.all rightB = true → ts.all rightB = true → Solved f S → UState (ps.zip ts) f [] → e = 2 ∨ e = 7 → unifyT ps ts = ([], false, e) → UCase ps ts
  | ok (f : Env) (S : Sub) : ps.length = ts.length → ps.all rightB = true → ts.all rightB = true → Solved f S → UState (ps.zip ts) f [] → (∀ v, 0 ≤ v → v ≤ 255 → chk (S v) = 0) → unifyT ps ts = (tidyF S, true, 0) → UCase ps ts
theorem endL_err {S : Sub} : ∀ (vs : List Int) (acc : List Bd), (endL S vs acc).2 = 0 ∨ (endL S vs acc).2 = 2 ∨ (endL S vs acc).2 = 7
  | [], acc => .inl rfl
  | v :: vs, acc => by
    simp only [endL]
    split
    · exact .inr (.inl rfl)
    · split
      · exact .inr (.inr rfl)
      · exact endL_err vs _
theorem ucase {ps ts : List Tm} (h10 : ps.length ≤ 10) : UCase ps ts := by
  by_cases hc : ps.length = ts.length ∧ ps.all rightB = true ∧ ts.all rightB = true
  rotate_left
  · exact .wrong hc (unify_wrong hc)
  obtain ⟨hl, hp, ht⟩ := hc
  obtain ⟨r, h1, h2⟩ := unify_ends hl h10 hp ht
  cases r with
  | none => exact .none hl hp ht h2 (unify_none hl h10 hp ht h2)
  | some S =>
    obtain ⟨f, g1, g2, g3⟩ := h2
    have hs := unify_some hl h10 hp ht (mgu_of g1 g2)
    have hgd : ∀ v, v ∈ (upto 256).filter (movesS S) → (S v).good = true := fun v hv => by
      have := mem_upto.1 (List.mem_filter.1 hv).1
      exact g1.good v this.1 (by omega)
    by_cases he : (tidyS S).2 = 0
    · have hy := endL_yes ((upto 256).filter (movesS S)) [] hgd he
      refine .ok f S hl hp ht g1 g2 (fun v h0 h1 => ?_) ?_
      · by_cases hm : movesS S v = true
        · exact hy.2 v (List.mem_filter.2 ⟨mem_upto.2 ⟨h0, by omega⟩, hm⟩)
        · rw [moves_iff g1 h0 h1] at hm
          have hf : f v = none := by
            cases hf : f v with
            | none => rfl
            | some t => rw [hf] at hm; exact absurd rfl hm
          rw [g1.free v hf]
          exact rightB_chk.1 (rightB_var h0 h1)
      · rw [hs, he]
        have e1 : (tidyS S).1 = tidyF S := by
          have := hy.1
          rw [List.nil_append] at this
          exact this
        rw [e1]; rfl
    · have hn := endL_no ((upto 256).filter (movesS S)) [] he
      have hr : (tidyS S).2 = 2 ∨ (tidyS S).2 = 7 := (endL_err ((upto 256).filter (movesS S)) []).resolve_left he
      refine .long f S (tidyS S).2 hl hp ht g1 g2 hr ?_
      rw [hs]
      have e1 : (tidyS S).1 = [] := hn
      have e2 : ((tidyS S).2 == 0) = false := by simpa using he
      rw [e1, e2]
theorem unify_pure {a b : Tm} (ha : a.size ≤ 1000000000) (hb : b.size ≤ 1000000000) : PA.unify_Mgu.f a.h (toSL a.args) b.h (toSL b.args) = some (toBL (unifyT [a] [b]).1, (unifyT [a] [b]).2.1, (unifyT [a] [b]).2.2) := by
  unfold PA.unify_Mgu.f
  rw [ofS_mk, ofS_mk, if_pos ⟨ha, hb⟩]
theorem two_list (a b : Tm) : [(⟨a.h, toSL a.args⟩ : TS), ⟨b.h, toSL b.args⟩] = toSL [a, b] := by cases a; cases b; simp [toSL, toS, Tm.h, Tm.args]
theorem v_any {w : World} {s : Value} {l : List Tm} (hs : Terms (fun _ => False) w s l) : Kd.V kT 25 w w.heap.size (fun k_ => (fun _ => True) k_) s (toSL l) := v_of hs fun _ _ _ => trivial
theorem vb_any {w : World} {s : Value} {l : List Bd} (hs : Binds (fun _ => False) w s l) : Kd.V kB 60 w w.heap.size (fun k_ => (fun _ => True) k_) s (toBL l) := vb_of hs fun _ _ _ => trivial
end Go.Proofs.Ythplndalbfcbbaa
set_option linter.unusedSimpArgs false
set_option linter.unusedVariables false
namespace Go.Proofs.Ythplndalbfcbbaa
open Go.RowKit Go.Proofs.YthplndalbfcbbaaW.PrintWords
theorem sol_of_ok {a b : Tm} {τ : Sub} (hτ : Sol τ [(a, b)]) (h : (unifyT [a] [b]).2.2 = 0) : ∃ f S, Solved f S ∧ UState [(a, b)] f [] ∧ (∀ v, 0 ≤ v → v ≤ 255 → chk (S v) = 0) ∧ unifyT [a] [b] = (tidyF S, true, 0) := by
  cases ucase (ps := [a]) (ts := [b]) (by simp) with
  | wrong _ e => rw [e] at h; cases h
  | none _ hp ht hn e => exact absurd hτ (hn τ)
  | long f S x _ hp ht hS hu hx e => rw [e] at h; simp only at h; omega
  | ok f S _ hp ht hS hu hc e => exact ⟨f, S, hS, hu, hc, e⟩
theorem apply_okU {u : List Bd} {t : Tm} (hu : rightBs u = true) (ht : rightB t = true) (hc : chk (putT u t) = 0) : applyT u t = (putT u t, 0) := by
  unfold applyT endT
  rw [if_pos ⟨hu, ht⟩, if_pos hc]
section
variable {u : List Bd} {S : Sub} {f : Env} {L0 : Pairs}
theorem umost_l0 (hu : rightBs u = true) (hS : Solved f S) (hst : UState L0 f []) (hτ : Sol (fun v => ofBs v u) L0) (hc : ∀ v, 0 ≤ v → v ≤ 255 → chk (S v) = 0) :
    ∀ (d i : Nat), i + d = (tidyF S).length → Ev (fun k => PA.elenchuslaw04_UnifyMost.l0 k (toBL u) (toBL (tidyF S)) (i : Int)) true
  | 0, i, hi => Ev.const.step fun k => by rw [PA.elenchuslaw04_UnifyMost.l0, if_neg (by rw [toBL_length]; omega)]; rfl
  | d + 1, i, hi => by
    have hlt : i < (tidyF S).length := by omega
    have hl := tidyF_length S
    have hrec := umost_l0 hu hS hst hτ hc d (i + 1) (by omega)
    obtain ⟨hr, hb, hne⟩ := tidyF_mem.1 (List.getElem_mem hlt)
    generalize hg : (tidyF S)[i] = b at *
    obtain ⟨v, t⟩ := b
    simp only at hr hb hne
    subst hb
    have hm := ((mgu_of hS hst).most _).1 hτ v hr.1
    have hrt := ofBs_rightB hu hr.1 hr.2
    have hct := rightB_chk.1 hrt
    have a1 : applyT u (varT v) = (ofBs v u, 0) := by
      have e : putT u (varT v) = ofBs v u := by rw [app_put, app_var _ hr.1]
      rw [apply_okU hu (rightB_var hr.1 hr.2) (by rw [e]; exact hct), e]
    have a2 : applyT u (S v) = (ofBs v u, 0) := by
      have e : putT u (S v) = ofBs v u := by rw [app_put, ← hm]
      rw [apply_okU hu (rightB_chk.2 (hc v hr.1 hr.2)) (by rw [e]; exact hct), e]
    have hz := right_size hct
    have hz2 := right_size (hc v hr.1 hr.2)
    have p1 := apply_pure (okBd_right hu) (p := varT v) (by simp [varT, Tm.size, Tm.sizes])
    have p2 := apply_pure (okBd_right hu) (p := S v) (by omega)
    rw [a1] at p1
    rw [a2] at p2
    have hj : Ev (fun k => PA.elenchuslaw04_UnifyMost.j3 k (toBL u) (toBL (tidyF S)) (i : Int) false) true := hrec.step fun k => by
      rw [PA.elenchuslaw04_UnifyMost.j3, if_neg (by simp), wrap_next (by omega) (by omega)]; rfl
    refine hj.step fun k => ?_
    have hvar : PA.elenchusref01_Var.f v = some ((varT v).h, toSL (varT v).args) := by unfold PA.elenchusref01_Var.f; rw [wrap_var hr.1 (by omega)]; rfl
    rw [PA.elenchuslaw04_UnifyMost.l0, if_pos (by rw [toBL_length]; omega), if_pos (by omega), rdB_nat _ i hlt, hg]
    simp only [toB, toS_f0, toS_f1, hvar, Option.bind_some, p1, p2]
    simp only [if_true]
    rw [same_pureG (by omega) (by omega), sameB_self]
    rfl
end
theorem umost_pure (a b : Tm) (u : List Bd) (hr : ∀ x, x ∈ u → -9223372036854775808 ≤ x.v ∧ x.v ≤ 9223372036854775807) : Ev (fun k => PA.elenchuslaw04_UnifyMost.f k a.h (toSL a.args) b.h (toSL b.args) (toBL u)) true := by
  have hj0 : ∀ q : Bool, (q = false → a.size ≤ 60 ∧ b.size ≤ 60 ∧ fewBs u = true) → Ev (fun k => PA.elenchuslaw04_UnifyMost.j0 k (toBL u) q a.h (toSL a.args) b.h (toSL b.args)) true := fun q hq => by
    cases q with
    | true => exact Ev.const.step fun k => by rw [PA.elenchuslaw04_UnifyMost.j0, if_pos rfl]
    | false =>
      obtain ⟨sa, sb, hf⟩ := hq rfl
      have hou := okBd_few hr hf
      have hwake : ∀ x : Bool, Ev (fun k => PA.elenchuslaw04_UnifyMost.j1 k (toBL u) (toBL (unifyT [a] [b]).1) x true) true := fun x => Ev.const.step fun k => by rw [PA.elenchuslaw04_UnifyMost.j1, if_pos rfl]; rfl
      have head : ∀ g : Nat → Option Bool, Ev g true → (∀ k, (if (unifyT [a] [b]).2.2 = 0 then if (applyT u a).2 = 0 then if (applyT u b).2 = 0 then (PA.elenchusref01_Same.f (applyT u a).1.h (toSL (applyT u a).1.args) (applyT u b).1.h (toSL (applyT u b).1.args)).bind fun t519 => PA.elenchuslaw04_UnifyMost.j1 k (toBL u) (toBL (unifyT [a] [b]).1) (unifyT [a] [b]).2.1 (!t519) else PA.elenchuslaw04_UnifyMost.j1 k (toBL u) (toBL (unifyT [a] [b]).1) (unifyT [a] [b]).2.1 true else PA.elenchuslaw04_UnifyMost.j1 k (toBL u) (toBL (unifyT [a] [b]).1) (unifyT [a] [b]).2.1 true else PA.elenchuslaw04_UnifyMost.j1 k (toBL u) (toBL (unifyT [a] [b]).1) (unifyT [a] [b]).2.1 true) = g k) →
          Ev (fun k => PA.elenchuslaw04_UnifyMost.j0 k (toBL u) false a.h (toSL a.args) b.h (toSL b.args)) true := fun g hg he => hg.step fun k => by
        rw [PA.elenchuslaw04_UnifyMost.j0, if_neg (by simp), unify_pure (by omega) (by omega), apply_pure hou (by omega), apply_pure hou (by omega)]
        simp only [Option.bind_some]
        exact he k
      by_cases he : (unifyT [a] [b]).2.2 = 0
      rotate_left
      · exact head _ (hwake (unifyT [a] [b]).2.1) fun k => by rw [if_neg he]
      by_cases hfa : (applyT u a).2 = 0
      rotate_left
      · exact head _ (hwake (unifyT [a] [b]).2.1) fun k => by rw [if_pos he, if_neg hfa]
      by_cases hfb : (applyT u b).2 = 0
      rotate_left
      · exact head _ (hwake (unifyT [a] [b]).2.1) fun k => by rw [if_pos he, if_pos hfa, if_neg hfb]
      obtain ⟨ru, ra, ca, ea⟩ := applied_ok hfa
      obtain ⟨-, rb, cb, eb⟩ := applied_ok hfb
      have za := right_size ca
      have zb := right_size cb
      by_cases hs : putT u a = putT u b
      rotate_left
      · refine head _ (hwake (unifyT [a] [b]).2.1) fun k => ?_
        rw [if_pos he, if_pos hfa, if_pos hfb, ea, eb, same_pureG (by simp only; omega) (by simp only; omega)]
        simp only [Option.bind_some]
        have : sameB (putT u a) (putT u b) = false := by
          cases h : sameB (putT u a) (putT u b)
          · rfl
          · exact absurd (sameB_iff.1 h) hs
        rw [this]; rfl
      have hsol : Sol (fun v => ofBs v u) [(a, b)] := sol_cons.2 ⟨by show app _ a = app _ b; rw [← app_put, ← app_put]; exact hs, fun p hp => (by cases hp)⟩
      obtain ⟨f, S, hS, hst, hc, e⟩ := sol_of_ok hsol he
      have hl := umost_l0 ru hS hst hsol hc (tidyF S).length 0 (by omega)
      have hj1 : Ev (fun k => PA.elenchuslaw04_UnifyMost.j1 k (toBL u) (toBL (unifyT [a] [b]).1) (unifyT [a] [b]).2.1 false) true := by
        rw [e]
        exact hl.step fun k => by rw [PA.elenchuslaw04_UnifyMost.j1, if_neg (by simp), if_pos rfl]; rfl
      refine head _ hj1 fun k => ?_
      rw [if_pos he, if_pos hfa, if_pos hfb, ea, eb, same_pureG (by simp only; omega) (by simp only; omega)]
      simp only [Option.bind_some]
      rw [hs, sameB_self]; rfl
  unfold PA.elenchuslaw04_UnifyMost.f
  rw [two_list]
  refine (few4_f [a, b]).bind (g := fun k t => if t = true then (PA.elenchusref03_Few.f (toBL u)).bind fun z => PA.elenchuslaw04_UnifyMost.j0 k (toBL u) (!z) a.h (toSL a.args) b.h (toSL b.args) else PA.elenchuslaw04_UnifyMost.j0 k (toBL u) true a.h (toSL a.args) b.h (toSL b.args)) ?_
  cases hf : fewR [a, b]
  · exact (hj0 true (fun h => by cases h)).congr fun k => by simp
  have hz := fewR_sizes hf
  simp only [Tm.sizes] at hz
  refine (hj0 (!fewBs u) fun h => ⟨by omega, by omega, by simpa using h⟩).congr fun k => ?_
  simp only [if_true, PA.elenchusref03_Few.f, Option.bind_some, ofBL_toBL]
theorem umost_calls (a b : Tm) (u : List Bd) (h1 h2 : Int) (s1 s2 s3 : Value) (w : World) (hr : ∀ x, x ∈ u → -9223372036854775808 ≤ x.v ∧ x.v ≤ 9223372036854775807) (ha : IsTm (fun _ => False) w h1 s1 a) (hb : IsTm (fun _ => False) w h2 s2 b) (hu : Binds (fun _ => False) w s3 u) :
    Calls Try.prog 20 #[.agg #[.int .i64 h1, s1], .agg #[.int .i64 h2, s2], s3] w fun e w' => e = .returned (.bool true) ∧ Below w.heap.size w w' := by
  obtain ⟨rfl, a1, c1, rfl, -, -⟩ := ha.shape
  obtain ⟨rfl, a2, c2, rfl, -, -⟩ := hb.shape
  obtain ⟨a3, c3, rfl, -, -⟩ := hu.shape
  have k1 := v_any ha.2
  have k2 := v_any hb.2
  have k3 := vb_any hu
  have e1 : a.args.length = (toSL a.args).length := (toSL_length _).symm
  have e2 : b.args.length = (toSL b.args).length := (toSL_length _).symm
  have e3 : u.length = (toBL u).length := (toBL_length _).symm
  rw [e1] at k1 ⊢
  rw [e2] at k2 ⊢
  rw [e3] at k3 ⊢
  obtain ⟨k0, hk⟩ := umost_pure a b u hr
  exact PA.elenchuslaw04_UnifyMost.calls k0 a.h _ a1 c1 (toSL a.args) b.h _ a2 c2 (toSL b.args) _ a3 c3 (toBL u) true w k1 k2 k3 (hk k0 (Nat.le_refl _))
end Go.Proofs.Ythplndalbfcbbaa
