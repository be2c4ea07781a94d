/- What the proof of the law rests on: contracts of the functions, plain laws, and words. -/
import Derived.Test.YthplndalbfcbbaaKMatchUnifiesG9
set_option linter.unusedSimpArgs false
set_option linter.unusedVariables false
namespace Go.Proofs.Ythplndalbfcbbaa
open Go.RowKit
def stepB : Nat → List Nat → Nat → Nat
  | _, [], m => m
  | d, x :: l, m => if d ≤ 8 then stepB (d + 1) l (max m (1 + d * x)) else m
def tabB : Nat → List Nat
  | 0 => [1]
  | n + 1 => stepB 1 (tabB n) 1 :: tabB n
def gB (n : Nat) : Nat := (tabB n).headD 1
theorem stepB_ge : ∀ (l : List Nat) (d m : Nat), m ≤ stepB d l m
  | [], d, m => Nat.le_refl _
  | x :: l, d, m => by
    simp only [stepB]
    split
    · have := stepB_ge l (d + 1) (max m (1 + d * x)); omega
    · omega
theorem stepB_at : ∀ (l : List Nat) (d m i : Nat) (x : Nat), l[i]? = some x → d + i ≤ 8 → 1 + (d + i) * x ≤ stepB d l m
  | [], d, m, i, x, h, _ => by simp at h
  | y :: l, d, m, 0, x, h, h8 => by
    simp only [List.getElem?_cons_zero, Option.some.injEq] at h
    subst h
    simp only [stepB]
    rw [if_pos (by omega)]
    have := stepB_ge l (d + 1) (max m (1 + d * y))
    simp only [Nat.add_zero]; omega
  | y :: l, d, m, i + 1, x, h, h8 => by
    simp only [List.getElem?_cons_succ] at h
    simp only [stepB]
    rw [if_pos (by omega)]
    have := stepB_at l (d + 1) (max m (1 + d * y)) i x h (by omega)
    rw [show d + (i + 1) = d + 1 + i by omega]; exact this
theorem tabB_at : ∀ (n i : Nat), i ≤ n → (tabB n)[i]? = some (gB (n - i))
  | 0, i, h => by
    have : i = 0 := by omega
    subst this
    rfl
  | n + 1, 0, h => by simp [tabB, gB]
  | n + 1, i + 1, h => by
    simp only [tabB, List.getElem?_cons_succ]
    rw [tabB_at n i (by omega), show n + 1 - (i + 1) = n - i by omega]
theorem gB_step (n d : Nat) (h1 : 1 ≤ d) (h8 : d ≤ 8) : 1 + d * gB n ≤ gB (n + d) := by
  obtain ⟨k, rfl⟩ : ∃ k, d = k + 1 := ⟨d - 1, by omega⟩
  have h := stepB_at (tabB (n + k)) 1 1 k (gB n) (by rw [tabB_at _ _ (by omega), show n + k - k = n by omega]) (by omega)
  have e : gB (n + (k + 1)) = stepB 1 (tabB (n + k)) 1 := rfl
  rw [e, show k + 1 = 1 + k by omega]; exact h
theorem gB_mono1 (n : Nat) : gB n ≤ gB (n + 1) := by have := gB_step n 1 (by omega) (by omega); omega
theorem gB_mono {m n : Nat} (h : m ≤ n) : gB m ≤ gB n := by
  obtain ⟨k, rfl⟩ : ∃ k, n = m + k := ⟨n - m, by omega⟩
  clear h
  induction k with
  | zero => exact Nat.le_refl _
  | succ k ih => have := gB_mono1 (m + k); exact Nat.le_trans ih this
theorem gB_pos (n : Nat) : 1 ≤ gB n := gB_mono (Nat.zero_le n)
mutual
/-- Its parts that are no variables. -/
def nsubs : Tm → List Tm
  | .node h l => if h < 0 then [] else .node h l :: nsubsL l
def nsubsL : List Tm → List Tm
  | [] => []
  | t :: ts => nsubs t ++ nsubsL ts
end
def degs (D : List Tm) : Nat := (D.map fun q => q.args.length).sum
mutual
theorem nsubs_length : ∀ t : Tm, (nsubs t).length ≤ t.size
  | .node h l => by
    have := nsubsL_length l
    simp only [nsubs, Tm.size]
    split <;> simp <;> omega
theorem nsubsL_length : ∀ l : List Tm, (nsubsL l).length ≤ Tm.sizes l
  | [] => by simp [nsubsL]
  | t :: ts => by
    have h1 := nsubs_length t
    have h2 := nsubsL_length ts
    simp only [nsubsL, List.length_append, Tm.sizes]; omega
end
structure Closed (D : List Tm) : Prop where
  fn : ∀ q, q ∈ D → ¬ q.h < 0
  good : ∀ q, q ∈ D → q.good = true
  args : ∀ q, q ∈ D → ∀ c, c ∈ q.args → ¬ c.h < 0 → c ∈ D
theorem mem_nsubs_self {t : Tm} (h : ¬ t.h < 0) : t ∈ nsubs t := by cases t; simp only [Tm.h] at h; simp [nsubs, h]
theorem mem_nsubsL {l : List Tm} {q : Tm} : q ∈ nsubsL l ↔ ∃ t, t ∈ l ∧ q ∈ nsubs t := by
  induction l with
  | nil => simp [nsubsL]
  | cons t ts ih => simp [nsubsL, ih]
mutual
theorem closed_nsubs : ∀ t : Tm, t.good = true → ∀ q, q ∈ nsubs t → ¬ q.h < 0 ∧ q.good = true ∧ ∀ c, c ∈ q.args → ¬ c.h < 0 → c ∈ nsubs t
  | .node h l, hg, q, hq => by
    simp only [nsubs] at hq ⊢
    split at hq
    · simp at hq
    · rename_i hn
      rw [if_neg hn]
      rcases List.mem_cons.1 hq with rfl | hq
      · exact ⟨hn, hg, fun c hc hcn => List.mem_cons_of_mem _ (mem_nsubsL.2 ⟨c, hc, mem_nsubs_self hcn⟩)⟩
      · obtain ⟨h1, h2, h3⟩ := closed_nsubsL l (goodsOf hg) q hq
        exact ⟨h1, h2, fun c hc hcn => List.mem_cons_of_mem _ (h3 c hc hcn)⟩
theorem closed_nsubsL : ∀ l : List Tm, Tm.goods l = true → ∀ q, q ∈ nsubsL l → ¬ q.h < 0 ∧ q.good = true ∧ ∀ c, c ∈ q.args → ¬ c.h < 0 → c ∈ nsubsL l
  | [], _, q, hq => by simp [nsubsL] at hq
  | t :: ts, hg, q, hq => by
    simp only [Tm.goods, Bool.and_eq_true] at hg
    simp only [nsubsL, List.mem_append] at hq ⊢
    rcases hq with hq | hq
    · obtain ⟨h1, h2, h3⟩ := closed_nsubs t hg.1 q hq
      exact ⟨h1, h2, fun c hc hcn => .inl (h3 c hc hcn)⟩
    · obtain ⟨h1, h2, h3⟩ := closed_nsubsL ts hg.2 q hq
      exact ⟨h1, h2, fun c hc hcn => .inr (h3 c hc hcn)⟩
end
theorem closedL {l : List Tm} (hg : Tm.goods l = true) : Closed (nsubsL l) :=
  ⟨fun q hq => (closed_nsubsL l hg q hq).1, fun q hq => (closed_nsubsL l hg q hq).2.1, fun q hq => (closed_nsubsL l hg q hq).2.2⟩
def InD (D : List Tm) (t : Tm) : Prop := t.good = true ∧ (¬ t.h < 0 → t ∈ D)
theorem Closed.arg {D : List Tm} (h : Closed D) {q c : Tm} (hq : q ∈ D) (hc : c ∈ q.args) : InD D c := ⟨goods_mem (goodsOf (h.good q hq)) c hc, h.args q hq c hc⟩
theorem inD_nsubsL {l : List Tm} (hg : Tm.goods l = true) {t : Tm} (ht : t ∈ l) : InD (nsubsL l) t := ⟨goods_mem hg t ht, fun hn => mem_nsubsL.2 ⟨t, ht, mem_nsubs_self hn⟩⟩
def wD (S : Sub) (D : List Tm) (k : Nat) : Nat := degs (D.filter fun q => decide ((app S q).size ≤ k))
theorem wD_mono (S : Sub) {k k' : Nat} (h : k ≤ k') : ∀ D : List Tm, wD S D k ≤ wD S D k'
  | [] => by simp [wD]
  | q :: D => by
    have ih := wD_mono S h D
    simp only [wD, List.filter_cons] at ih ⊢
    by_cases h1 : (app S q).size ≤ k
    · have h2 : (app S q).size ≤ k' := by omega
      simp only [h1, h2, decide_true, if_true, degs, List.map_cons, List.sum_cons] at ih ⊢; omega
    · by_cases h2 : (app S q).size ≤ k'
      · simp only [h1, h2, decide_true, decide_false, if_true, degs, List.map_cons, List.sum_cons] at ih ⊢
        simp only [Bool.false_eq_true, if_false]; omega
      · simp only [h1, h2, decide_false, Bool.false_eq_true, if_false]; exact ih
theorem wD_mem (S : Sub) {k : Nat} {t : Tm} (ht : (app S t).size = k + 1) : ∀ D : List Tm, t ∈ D → wD S D k + t.args.length ≤ wD S D (k + 1)
  | [], h => by simp at h
  | q :: D, h => by
    have hm := wD_mono S (Nat.le_succ k) D
    simp only [wD, List.filter_cons] at hm ⊢
    by_cases e : q = t
    · subst e
      have h1 : ¬ (app S q).size ≤ k := by omega
      have h2 : (app S q).size ≤ k + 1 := by omega
      simp only [h1, h2, decide_true, decide_false, if_true, degs, List.map_cons, List.sum_cons, Bool.false_eq_true, if_false] at hm ⊢
      simp only [Nat.succ_eq_add_one] at hm
      omega
    · have ih := wD_mem S ht D ((List.mem_cons.1 h).resolve_left (fun h => e h.symm))
      simp only [wD] at ih
      by_cases h1 : (app S q).size ≤ k
      · have h2 : (app S q).size ≤ k + 1 := by omega
        simp only [h1, h2, decide_true, if_true, degs, List.map_cons, List.sum_cons] at ih ⊢; omega
      · by_cases h2 : (app S q).size ≤ k + 1
        · simp only [h1, h2, decide_true, decide_false, if_true, degs, List.map_cons, List.sum_cons, Bool.false_eq_true, if_false] at ih ⊢; omega
        · simp only [h1, h2, decide_false, Bool.false_eq_true, if_false]; exact ih
theorem wD_le (S : Sub) (k : Nat) : ∀ D : List Tm, wD S D k ≤ degs D
  | [] => by simp [wD]
  | q :: D => by
    have ih := wD_le S k D
    simp only [wD, List.filter_cons] at ih ⊢
    split <;> simp only [degs, List.map_cons, List.sum_cons] at ih ⊢ <;> omega
theorem sizes_le {S : Sub} {b : Nat} : ∀ l : List Tm, (∀ c, c ∈ l → (app S c).size ≤ b) → Tm.sizes (appL S l) ≤ l.length * b
  | [], _ => by simp [appL, Tm.sizes]
  | t :: ts, h => by
    have h1 := h t (by simp)
    have h2 := sizes_le ts fun c hc => h c (by simp [hc])
    simp only [appL, Tm.sizes, List.length_cons, Nat.succ_mul]; omega
theorem arg_size {S : Sub} : ∀ {l : List Tm} {c : Tm}, c ∈ l → (app S c).size ≤ Tm.sizes (appL S l)
  | t :: ts, c, h => by
    simp only [appL, Tm.sizes]
    rcases List.mem_cons.1 h with rfl | h
    · omega
    · have := arg_size (S := S) h; omega
theorem app_size_pos {S : Sub} {t : Tm} (h : ¬ t.h < 0) : (app S t).size = 1 + Tm.sizes (appL S t.args) := by rw [app_pos h, Tm.size]
def FromD (D : List Tm) (f : Env) : Prop := ∀ v t, f v = some t → InD D t
theorem dag_size {D : List Tm} {f : Env} {S : Sub} (hD : Closed D) (hS : Solved f S) (hf : FromD D f) : ∀ n t, InD D t → (app S t).size ≤ n → (app S t).size ≤ gB (wD S D (app S t).size) := by
  intro n
  induction n with
  | zero => intro t _ h; have := (app S t).size_eq; omega
  | succ n ih =>
    have fn : ∀ t, ¬ t.h < 0 → InD D t → (app S t).size ≤ n + 1 → (app S t).size ≤ gB (wD S D (app S t).size) := by
      intro t hn ht hs
      have hm := ht.2 hn
      have he := app_size_pos (S := S) hn
      have hsub : ∀ c, c ∈ t.args → (app S c).size ≤ gB (wD S D (Tm.sizes (appL S t.args))) := fun c hc => by
        have h1 := arg_size (S := S) hc
        exact Nat.le_trans (ih c (hD.arg hm hc) (by omega)) (gB_mono (wD_mono S h1 D))
      have h2 := sizes_le t.args hsub
      have h3 := wD_mem S (k := Tm.sizes (appL S t.args)) (t := t) (by omega) D hm
      rw [he, Nat.add_comm 1]
      rcases Nat.eq_zero_or_pos t.args.length with h0 | h0
      · have : Tm.sizes (appL S t.args) = 0 := by rw [h0] at h2; omega
        have := gB_pos (wD S D (Tm.sizes (appL S t.args) + 1))
        omega
      · have h8 : t.args.length ≤ 8 := by
          have := good_ok (h := t.h) (l := t.args) (by cases t; exact ht.1); omega
        have h4 := gB_step (wD S D (Tm.sizes (appL S t.args))) t.args.length h0 h8
        have h5 := gB_mono h3
        omega
    have hv : ∀ v, 0 ≤ v → (S v).size ≤ n + 1 → (S v).size ≤ gB (wD S D (S v).size) := by
      refine rank_ind hS fun v ihv h0 hs => ?_
      cases hfv : f v with
      | none =>
        rw [hS.free v hfv]
        have := gB_pos (wD S D (varT v).size)
        have e : (varT v).size = 1 := by simp [varT, Tm.size, Tm.sizes]
        omega
      | some t =>
        have hfx := hS.fix v t hfv
        by_cases hn : t.h < 0
        · rw [app_neg hn] at hfx
          rw [hfx] at hs ⊢
          exact ihv t hfv (-1 - t.h) ⟨by omega, by rw [show -1 - (-1 - t.h) = t.h by omega, Tm.heads_eq]; exact List.mem_cons_self⟩ (by omega) hs
        · rw [hfx] at hs ⊢
          exact fn t hn (hf v t hfv) hs
    intro t ht hs
    by_cases hn : t.h < 0
    · rw [app_neg hn] at hs ⊢
      exact hv _ (by omega) hs
    · exact fn t hn ht hs
theorem dag_bound {D : List Tm} {f : Env} {S : Sub} (hD : Closed D) (hS : Solved f S) (hf : FromD D f) {t : Tm} (ht : InD D t) : (app S t).size ≤ gB (degs D) :=
  Nat.le_trans (dag_size hD hS hf _ t ht (Nat.le_refl _)) (gB_mono (wD_le S _ D))
theorem leads_inD {D : List Tm} {f : Env} (hf : FromD D f) {a b : Tm} (ha : InD D a) (h : Leads f a b) : InD D b := by
  induction h with
  | refl t => exact ha
  | step h1 h2 _ ih => exact ih (hf _ _ h2)
theorem fromD_upd {D : List Tm} {f : Env} (hf : FromD D f) {v : Int} {y : Tm} (hy : InD D y) : FromD D (upd f v y) := by
  intro w t hw
  by_cases e : w = v
  · subst e
    simp only [upd, if_true, Option.some.injEq] at hw
    rw [← hw]; exact hy
  · simp only [upd, if_neg e] at hw
    exact hf w t hw
def Under (f : Env) (X Y : Tm) : Prop := ∃ c, c ∈ X.args ∧ Leads f c Y
def Grp (D : List Tm) (f : Env) : List Tm → List Tm → Prop
  | [], L => L.length ≤ 10
  | X :: Xs, L => X ∈ D ∧ (∃ top rest, L = top ++ rest ∧ top.length ≤ 8 ∧ (∀ c, c ∈ top → c ∈ X.args) ∧ Grp D f Xs rest) ∧ (∀ Y, Xs.head? = some Y → Under f Y X)
theorem Under.mono {f g : Env} (hfg : ∀ v t, f v = some t → g v = some t) {X Y : Tm} (h : Under f X Y) : Under g X Y := by
  obtain ⟨c, hc, hl⟩ := h
  exact ⟨c, hc, hl.mono hfg⟩
theorem Grp.mono {D : List Tm} {f g : Env} (hfg : ∀ v t, f v = some t → g v = some t) : ∀ {Xs L : List Tm}, Grp D f Xs L → Grp D g Xs L
  | [], L, h => h
  | X :: Xs, L, h => by
    obtain ⟨h1, ⟨top, rest, h2, h3, h4, h5⟩, h6⟩ := h
    exact ⟨h1, ⟨top, rest, h2, h3, h4, Grp.mono hfg h5⟩, fun Y hY => (h6 Y hY).mono hfg⟩
def cntD (S : Sub) (D : List Tm) (k : Nat) : Nat := (D.filter fun q => decide ((app S q).size ≤ k)).length
theorem cntD_mono (S : Sub) {k k' : Nat} (h : k ≤ k') : ∀ D : List Tm, cntD S D k ≤ cntD S D k'
  | [] => by simp [cntD]
  | q :: D => by
    have ih := cntD_mono S h D
    simp only [cntD, List.filter_cons] at ih ⊢
    by_cases h1 : (app S q).size ≤ k
    · have h2 : (app S q).size ≤ k' := by omega
      simp only [h1, h2, decide_true, if_true, List.length_cons]; omega
    · by_cases h2 : (app S q).size ≤ k'
      · simp only [h1, h2, decide_true, decide_false, if_true, List.length_cons, Bool.false_eq_true, if_false]; omega
      · simp only [h1, h2, decide_false, Bool.false_eq_true, if_false]; exact ih
theorem cntD_mem (S : Sub) {k k' : Nat} {t : Tm} (ht : (app S t).size = k') (hk : k < k') : ∀ D : List Tm, t ∈ D → cntD S D k + 1 ≤ cntD S D k'
  | [], h => by simp at h
  | q :: D, h => by
    have hm := cntD_mono S (Nat.le_of_lt hk) D
    simp only [cntD, List.filter_cons] at hm ⊢
    by_cases e : q = t
    · subst e
      have h1 : ¬ (app S q).size ≤ k := by omega
      have h2 : (app S q).size ≤ k' := by omega
      simp only [h1, h2, decide_true, decide_false, if_true, List.length_cons, Bool.false_eq_true, if_false]; omega
    · have ih := cntD_mem S ht hk D ((List.mem_cons.1 h).resolve_left (fun h => e h.symm))
      simp only [cntD] at ih
      by_cases h1 : (app S q).size ≤ k
      · have h2 : (app S q).size ≤ k' := by omega
        simp only [h1, h2, decide_true, if_true, List.length_cons]; omega
      · by_cases h2 : (app S q).size ≤ k'
        · simp only [h1, h2, decide_true, decide_false, if_true, List.length_cons, Bool.false_eq_true, if_false]; omega
        · simp only [h1, h2, decide_false, Bool.false_eq_true, if_false]; exact ih
theorem cntD_le (S : Sub) (k : Nat) (D : List Tm) : cntD S D k ≤ D.length := List.length_filter_le _ _
theorem under_size {D : List Tm} {f : Env} {S : Sub} (hS : Solved f S) {X Y : Tm} (hX : ¬ X.h < 0) (h : Under f X Y) : (app S Y).size < (app S X).size := by
  obtain ⟨c, hc, hl⟩ := h
  rw [← leads_app (solved_resp hS) hl, app_size_pos hX]
  have := arg_size (S := S) hc
  omega
theorem grp_length {D : List Tm} {f : Env} {S : Sub} (hD : Closed D) (hS : Solved f S) : ∀ {Xs L : List Tm}, Grp D f Xs L → L.length ≤ 8 * Xs.length + 10
  | [], L, h => by simpa [Grp] using h
  | X :: Xs, L, h => by
    obtain ⟨h1, ⟨top, rest, rfl, h3, h4, h5⟩, h6⟩ := h
    have := grp_length hD hS h5
    simp only [List.length_append, List.length_cons]; omega
theorem grp_chain {D : List Tm} {f : Env} {S : Sub} (hD : Closed D) (hS : Solved f S) : ∀ {Xs L : List Tm} {k : Nat}, Grp D f Xs L → (∀ X, Xs.head? = some X → k < (app S X).size) → cntD S D k + Xs.length ≤ D.length
  | [], L, k, h, _ => by simpa using cntD_le S k D
  | X :: Xs, L, k, h, hk => by
    obtain ⟨h1, ⟨top, rest, rfl, h3, h4, h5⟩, h6⟩ := h
    have hk' := hk X rfl
    have := cntD_mem S (k := k) (t := X) rfl hk' D h1
    have := grp_chain hD hS (k := (app S X).size) h5 fun Y hY => by
      have hY' : Y ∈ D := by
        cases Xs with
        | nil => simp at hY
        | cons Z Zs => simp only [List.head?_cons, Option.some.injEq] at hY; subst hY; exact h5.1
      exact under_size (D := D) hS (hD.fn Y hY') (h6 Y hY)
    simp only [List.length_cons]; omega
theorem grp_bound {D : List Tm} {f : Env} {S : Sub} (hD : Closed D) (hS : Solved f S) {Xs L : List Tm} (h : Grp D f Xs L) : L.length ≤ 8 * D.length + 10 := by
  have h1 := grp_length hD hS h
  have h2 := grp_chain hD hS (k := 0) h fun X _ => by have := (app S X).size_eq; omega
  omega
theorem grp_pop {D : List Tm} {f : Env} : ∀ {Xs L : List Tm} {x : Tm}, Grp D f Xs (x :: L) → ∃ Ys, Grp D f Ys L ∧ (Ys = [] ∨ ∃ Y Zs, Ys = Y :: Zs ∧ Y ∈ D ∧ x ∈ Y.args)
  | [], L, x, h => ⟨[], by simp only [Grp, List.length_cons] at h ⊢; omega, .inl rfl⟩
  | X :: Xs, L, x, h => by
    obtain ⟨h1, ⟨top, rest, h2, h3, h4, h5⟩, h6⟩ := h
    cases top with
    | nil =>
      simp only [List.nil_append] at h2
      subst h2
      exact grp_pop h5
    | cons c top =>
      simp only [List.cons_append, List.cons.injEq] at h2
      obtain ⟨rfl, rfl⟩ := h2
      refine ⟨X :: Xs, ⟨h1, ⟨top, rest, rfl, by simp at h3; omega, fun c hc => h4 c (by simp [hc]), h5⟩, h6⟩, .inr ⟨X, Xs, rfl, h1, h4 _ (by simp)⟩⟩
theorem grp_push {D : List Tm} {f : Env} {Xs L : List Tm} {x X : Tm} (hD : Closed D) (h : Grp D f Xs (x :: L)) (hX : X ∈ D) (hl : Leads f x X) (cs : List Tm) (has : cs.length ≤ 8) (hsub : ∀ c, c ∈ cs → c ∈ X.args) : ∃ Ys, Grp D f Ys (cs ++ L) := by
  obtain ⟨Ys, h1, h2⟩ := grp_pop h
  refine ⟨X :: Ys, hX, ⟨cs, L, rfl, has, hsub, h1⟩, fun Y hY => ?_⟩
  rcases h2 with rfl | ⟨Z, Zs, rfl, hZ, hx⟩
  · simp at hY
  · simp only [List.head?_cons, Option.some.injEq] at hY
    subst hY
    exact ⟨x, hx, hl⟩
end Go.Proofs.Ythplndalbfcbbaa
