/- A region that draws its order and changes, at its end, what it has read: a condition D holds until operation g has come up. Nothing of the program. -/
import Derived.Test.YtneecjikdghchaaDoorDraw
set_option linter.unusedSimpArgs false
set_option linter.unusedVariables false
namespace Go.Proofs.YtneecjikdghchaaDoor
open Go.RowKit

section
variable {P : Program} {ops : Array Oper} {Q : Exit → Act → World → Prop} {C D : World → Prop} {g : Nat} {md : Region.Mode}

def StV (C D : World → Prop) (g : Nat) (l : Array Bool) (w : World) : Prop := C w ∧ (l.getD g true = false → D w)
/-- Whatever order is picked from here on; behind each operation C holds, and D while g has not come up. -/
def AnyV (P : Program) (md : Region.Mode) (ops : Array Oper) (Q : Exit → Act → World → Prop) (C D : World → Prop) (g : Nat) : Nat → Array Bool → Act → World → Prop
  | 0, l, a, w => Region.ready md ops l = [] ∧ Q .normal a w
  | n + 1, l, a, w => (Region.ready md ops l = [] → Q .normal a w) ∧
    ∀ i ∈ Region.ready md ops l, wpOp P ops Q i (fun a' w' => StV C D g (l.setIfInBounds i true) w' ∧ AnyV P md ops Q C D g n (l.setIfInBounds i true) a' w') a w
theorem AnyV.plain : ∀ (n : Nat) (l : Array Bool) (a : Act) (w : World), AnyV P md ops Q C D g n l a w → wpAny P md ops Q n l a w
  | 0, _, _, _, h => h
  | n + 1, _, _, _, h => ⟨h.1, fun i hi => wpOp_mono (fun _ _ h' => AnyV.plain n _ _ _ h'.2) (h.2 i hi)⟩

theorem StV.more {l : Array Bool} {w : World} (h : StV C D g l w) (i : Nat) : StV C D g (l.setIfInBounds i true) w := by
  refine ⟨h.1, fun hg => h.2 ?_⟩
  by_cases e : i = g
  · subst e
    exfalso
    simp only [Array.getD_eq_getD_getElem?, Array.getElem?_setIfInBounds_self] at hg
    split at hg <;> simp at hg
  · rwa [getD_set_ne true e] at hg
theorem StV.less {l : Array Bool} {w : World} {i j : Nat} (hne : i ≠ g) (h : StV C D g ((l.setIfInBounds i true).setIfInBounds j true) w) : StV C D g (l.setIfInBounds j true) w := by
  refine ⟨h.1, fun hg => h.2 ?_⟩
  by_cases e : j = g
  · subst e
    exfalso
    simp only [Array.getD_eq_getD_getElem?, Array.getElem?_setIfInBounds_self] at hg
    split at hg <;> simp at hg
  · rw [getD_set_ne true e] at hg ⊢
    rwa [getD_set_ne true hne]

/-- Does operation g wait for i itself? -/
def waits (md : Region.Mode) (ops : Array Oper) (g i : Nat) : Bool := match ops[g]? with
  | some og => og.after.any fun e => Region.binds md e && e.on == i
  | none => false
/-- What has come up has not come up ahead of what it waits for. -/
def WF (md : Region.Mode) (ops : Array Oper) (l : Array Bool) : Prop := l.size = ops.size ∧ ∀ j o, ops[j]? = some o → l.getD j true = true → ∀ e ∈ o.after, Region.binds md e = true → l.getD e.on false = true
theorem WF.start : WF md ops (Array.replicate ops.size false) := by
  refine ⟨by simp, fun j o ho hl => ?_⟩
  have hj : j < ops.size := (Array.getElem?_eq_some_iff.1 ho).1
  simp [hj] at hl
theorem WF.set {l : Array Bool} {j : Nat} (h : WF md ops l) (hj : j ∈ Region.ready md ops l) : WF md ops (l.setIfInBounds j true) := by
  refine ⟨by simpa using h.1, fun k o ho hl e he hb => ?_⟩
  obtain ⟨_, oj, hoj, hdep⟩ := mem_ready.1 hj
  by_cases hk : j = k
  · subst hk
    rw [hoj] at ho
    cases ho
    exact getD_set_true (hdep e he hb)
  · rw [getD_set_ne true hk] at hl
    exact getD_set_true (h.2 k o ho hl e he hb)
theorem unlisted_of_waits {i : Nat} {l : Array Bool} (hw : waits md ops g i = true) (hwf : WF md ops l) (hi : i ∈ Region.ready md ops l) : l.getD g true = false := by
  cases hg : l.getD g true with
  | false => rfl
  | true =>
    exfalso
    unfold waits at hw
    cases ho : ops[g]? with
    | none => rw [ho] at hw; cases hw
    | some og =>
      rw [ho] at hw
      simp only [Array.any_eq_true'] at hw
      obtain ⟨e, he, h⟩ := hw
      simp only [Bool.and_eq_true, beq_iff_eq] at h
      have h1 := hwf.2 g og ho hg e he h.1
      rw [h.2] at h1
      have h0 := (mem_ready.1 hi).1
      simp only [Array.getD_eq_getD_getElem?] at h0 h1
      cases hx : l[i]? <;> simp [hx] at h0 h1
      rw [h0] at h1; cases h1

/-- What yields in each world that meets E is taken first, E being what StV gives while i has not come up. -/
theorem AnyV.first {E : World → Prop} {i : Nat} {oi : Oper} {v : Value} (hi : ops[i]? = some oi) (hsel : ∀ (j : Nat) (o : Oper) cs b, ops[j]? = some o → o.op ≠ .select cs b)
    (hQ : ∀ c a w, Q (.panic c) (a.put oi.dst v) w → Q (.panic c) a w) (hgi : i ≠ g)
    (hE : ∀ l w, WF md ops l → i ∈ Region.ready md ops l → StV C D g l w → E w) :
    ∀ (n : Nat) (l : Array Bool) (a : Act) (w : World), WF md ops l →
      (∀ j oj, ops[j]? = some oj → j ≠ i → l.getD j true = false → (∀ e ∈ oj.after, Region.binds md e = true → e.on ≠ i) → oi.apart ops oj = true) →
      i ∈ Region.ready md ops l → YieldsIf P ops E oi v a → StV C D g l w → AnyV P md ops Q C D g n (l.setIfInBounds i true) (a.put oi.dst v) w → AnyV P md ops Q C D g (n + 1) l a w := by
  intro n
  induction n with
  | zero =>
    intro l a w hwf _ hr hy hS H
    refine ⟨fun h => (by rw [h] at hr; cases hr), fun j hj => ?_⟩
    by_cases e : j = i
    · subst e
      exact hy.wpOp hi (hE l w hwf hr hS) ⟨hS.more _, H⟩
    · exact absurd (ready_mono hj e) (by rw [H.1]; simp)
  | succ n ih =>
    intro l a w hwf hfree hr hy hS H
    refine ⟨fun h => (by rw [h] at hr; cases hr), fun j hj => ?_⟩
    by_cases e : j = i
    · subst e
      exact hy.wpOp hi (hE l w hwf hr hS) ⟨hS.more _, H⟩
    · obtain ⟨hjl, oj, hoj, hdep⟩ := mem_ready.1 hj
      obtain ⟨hil, _⟩ := mem_ready.1 hr
      have hno : ∀ e ∈ oj.after, Region.binds md e = true → e.on ≠ i := by
        intro d hd hb hon
        have h1 := hdep d hd hb
        rw [hon] at h1
        simp only [Array.getD_eq_getD_getElem?] at h1 hil
        cases hx : l[i]? <;> simp [hx] at h1 hil
        rw [hil] at h1; cases h1
      have step := wpOp_putIf hoj (hfree j oj hoj e hjl hno) (fun cs b => hsel i oi cs b hi) (fun cs b => hsel j oj cs b hoj) hQ hy (H.2 j (ready_mono hj e))
      refine wpOp_mono (fun a' w' ⟨h1, h2, h3⟩ => ?_) step
      have hS' := h2.less hgi
      refine ⟨hS', ih _ a' w' (hwf.set hj) (fun k ok hk hki hkl hkn => ?_) (ready_mono hr (Ne.symm e)) h1 hS' ?_⟩
      · refine hfree k ok hk hki ?_ hkn
        by_cases e2 : j = k
        · rw [← e2]; exact hjl
        · rwa [getD_set_ne true e2] at hkl
      · rw [Array.setIfInBounds_comm _ _ e]; exact h3

/-- The walk in one order: 0: yields where C holds; 1: where C and D hold, and g waits for it; 2: does more, g yet to come; 3: does more, g come up. -/
def SeqV (P : Program) (ops : Array Oper) (Q : Exit → Act → World → Prop) (C D : World → Prop) : List (Nat × Nat) → Act → World → Prop
  | [], a, w => Q .normal a w
  | (i, 0) :: is, a, w => ∃ o v, ops[i]? = some o ∧ YieldsIf P ops C o v a ∧ SeqV P ops Q C D is (a.put o.dst v) w
  | (i, 1) :: is, a, w => ∃ o v, ops[i]? = some o ∧ YieldsIf P ops (fun w => C w ∧ D w) o v a ∧ SeqV P ops Q C D is (a.put o.dst v) w
  | (i, 2) :: is, a, w => wpOp P ops Q i (fun a' w' => (C w' ∧ D w') ∧ SeqV P ops Q C D is a' w') a w
  | (i, _) :: is, a, w => wpOp P ops Q i (fun a' w' => C w' ∧ SeqV P ops Q C D is a' w') a w
def okV (md : Region.Mode) (ops : Array Oper) (g : Nat) : List (Nat × Nat) → Array Bool → Bool
  | [], l => (Region.ready md ops l).isEmpty
  | (i, k) :: is, l => (match k with
      | 0 => (Region.ready md ops l).contains i && Region.free md ops l i && i != g
      | 1 => (Region.ready md ops l).contains i && Region.free md ops l i && i != g && waits md ops g i
      | 2 => Region.ready md ops l == [i]
      | _ => Region.ready md ops l == [i] && (l.setIfInBounds i true).getD g true) && okV md ops g is (l.setIfInBounds i true)


theorem anyV_of_seq (hsel : Region.noSelect ops = true) (hQ : ∀ c t v a w, Q (.panic c) (a.put (some t) v) w → Q (.panic c) a w) :
    ∀ (order : List (Nat × Nat)) (l : Array Bool) (a : Act) (w : World), okV md ops g order l = true → WF md ops l → StV C D g l w → SeqV P ops Q C D order a w → AnyV P md ops Q C D g order.length l a w
  | [], l, a, w, h, _, _, hs => ⟨by simpa [okV] using h, hs⟩
  | (i, 0) :: is, l, a, w, h, hwf, hS, ⟨o, v, ho, hy, hs⟩ => by
    simp only [okV, Bool.and_eq_true, bne_iff_ne] at h
    have hm : i ∈ Region.ready md ops l := by simpa using h.1.1.1
    refine AnyV.first (E := C) ho (Region.noSelect_spec hsel) (fun c a w h9 => ?_) h.1.2 (fun l w _ _ hS => hS.1) _ l a w hwf (Region.free_spec ho h.1.1.2) hm hy hS (anyV_of_seq hsel hQ is _ _ w h.2 (hwf.set hm) (hS.more i) hs)
    cases hd : o.dst with
    | none => rw [hd] at h9; exact h9
    | some t => rw [hd] at h9; exact hQ c t v a w h9
  | (i, 1) :: is, l, a, w, h, hwf, hS, ⟨o, v, ho, hy, hs⟩ => by
    simp only [okV, Bool.and_eq_true, bne_iff_ne] at h
    have hm : i ∈ Region.ready md ops l := by simpa using h.1.1.1.1
    refine AnyV.first (E := fun w => C w ∧ D w) ho (Region.noSelect_spec hsel) (fun c a w h9 => ?_) h.1.1.2 (fun l w hwf hr hS => ⟨hS.1, hS.2 (unlisted_of_waits h.1.2 hwf hr)⟩) _ l a w hwf (Region.free_spec ho h.1.1.1.2) hm hy hS (anyV_of_seq hsel hQ is _ _ w h.2 (hwf.set hm) (hS.more i) hs)
    cases hd : o.dst with
    | none => rw [hd] at h9; exact h9
    | some t => rw [hd] at h9; exact hQ c t v a w h9
  | (i, 2) :: is, l, a, w, h, hwf, hS, hs => by
    simp only [okV, Bool.and_eq_true, beq_iff_eq] at h
    have hm : i ∈ Region.ready md ops l := by rw [h.1]; simp
    refine ⟨fun h0 => (by rw [h0] at hm; cases hm), fun j hj => ?_⟩
    rw [h.1] at hj
    simp only [List.mem_singleton] at hj
    subst hj
    refine wpOp_mono (fun a' w' h' => ?_) hs
    have hS' : StV C D g (l.setIfInBounds j true) w' := ⟨h'.1.1, fun _ => h'.1.2⟩
    exact ⟨hS', anyV_of_seq hsel hQ is _ a' w' h.2 (hwf.set hm) hS' h'.2⟩
  | (i, k + 3) :: is, l, a, w, h, hwf, hS, hs => by
    simp only [okV, Bool.and_eq_true, beq_iff_eq] at h
    have hm : i ∈ Region.ready md ops l := by rw [h.1.1]; simp
    refine ⟨fun h0 => (by rw [h0] at hm; cases hm), fun j hj => ?_⟩
    rw [h.1.1] at hj
    simp only [List.mem_singleton] at hj
    subst hj
    refine wpOp_mono (fun a' w' h' => ?_) hs
    have hS' : StV C D g (l.setIfInBounds j true) w' := ⟨h'.1, fun h9 => by rw [h.1.2] at h9; cases h9⟩
    exact ⟨hS', anyV_of_seq hsel hQ is _ a' w' h.2 (hwf.set hm) hS' h'.2⟩

theorem drawn_until {id : Nat} {a : Act} {w : World} (C D : World → Prop) (g : Nat) (order : List (Nat × Nat)) (hm : P.follows .mixedOrders = true) (hn : (order.length == ops.size) = true) (hsel : Region.noSelect ops = true)
    (hok : okV .any ops g order (Array.replicate ops.size false) = true) (hQ : ∀ c t v a w, Q (.panic c) (a.put (some t) v) w → Q (.panic c) a w) (hC : C w.drew) (hD : D w.drew) (h : SeqV P ops Q C D order a w.drew) : (Code.region id ops true).wp P Q a w := by
  have h1 := anyV_of_seq (g := g) hsel hQ order _ a w.drew hok WF.start ⟨hC, fun _ => hD⟩ h
  rw [beq_iff_eq.1 hn] at h1
  exact wp_region_any hm (AnyV.plain _ _ _ _ h1)

variable {i : Nat} {is : List (Nat × Nat)} {o : Oper} {v : Value} {a : Act} {w : World}
theorem v_take (ho : ops[i]? = some o) (hw : Region.wanted o (yielded ops a.tmps) = true) (hv : ∀ w, C w → (execOp a.eval o).run P w = .ok (.value v) w) (h : SeqV P ops Q C D is (a.put o.dst v) w) : SeqV P ops Q C D ((i, 0) :: is) a w :=
  ⟨o, v, ho, .inl ⟨hw, hv⟩, h⟩
theorem v_takeD (ho : ops[i]? = some o) (hw : Region.wanted o (yielded ops a.tmps) = true) (hv : ∀ w, C w ∧ D w → (execOp a.eval o).run P w = .ok (.value v) w) (h : SeqV P ops Q C D is (a.put o.dst v) w) : SeqV P ops Q C D ((i, 1) :: is) a w :=
  ⟨o, v, ho, .inl ⟨hw, hv⟩, h⟩
theorem v_do2 (ho : ops[i]? = some o) (hw : Region.wanted o (yielded ops a.tmps) = true)
    (h : ∀ K' : Act → World → Prop, Hid (∀ a w, C w → D w → SeqV P ops Q C D is a w → K' a w) → Oper.wp P o a w K' Q) : SeqV P ops Q C D ((i, 2) :: is) a w :=
  wpOp_step ho fun K' hK => by rw [if_pos hw]; exact h K' (hide fun a w h1 h2 h3 => hK a w ⟨⟨h1, h2⟩, h3⟩)
theorem v_do3 (ho : ops[i]? = some o) (hw : Region.wanted o (yielded ops a.tmps) = true)
    (h : ∀ K' : Act → World → Prop, Hid (∀ a w, C w → SeqV P ops Q C D is a w → K' a w) → Oper.wp P o a w K' Q) : SeqV P ops Q C D ((i, 3) :: is) a w :=
  wpOp_step ho fun K' hK => by rw [if_pos hw]; exact h K' (hide fun a w h1 h3 => hK a w ⟨h1, h3⟩)
theorem v_done (h : Q .normal a w) : SeqV P ops Q C D [] a w := h
end
end Go.Proofs.YtneecjikdghchaaDoor
