/- A region that draws its order and changes, at its end, what it has read; walked by a tree of orders. Nothing of the program. -/
import Derived.Test.YtneecjikdghchaaDoorDraw2
set_option linter.unusedSimpArgs false
set_option linter.unusedVariables false
namespace Go.Proofs.YtneecjikdghchaaDoor
open Go.RowKit

inductive TrV where
  | done
  | take (i : Nat) (t : TrV)
  | takeD (i : Nat) (t : TrV)
  | one (i : Nat) (t : TrV)
  | last (i : Nat) (t : TrV)
  | two (i : Nat) (t : TrV) (j : Nat) (u : TrV)
def lenV : TrV → Nat
  | .done => 0
  | .take _ t => lenV t + 1
  | .takeD _ t => lenV t + 1
  | .one _ t => lenV t + 1
  | .last _ t => lenV t + 1
  | .two _ t _ _ => lenV t + 1
section
variable {P : Program} {ops : Array Oper} {Q : Exit → Act → World → Prop} {C D : World → Prop} {g : Nat} {md : Region.Mode}
def okW (md : Region.Mode) (ops : Array Oper) (g : Nat) : TrV → Array Bool → Bool
  | .done, l => (Region.ready md ops l).isEmpty
  | .take i t, l => ((Region.ready md ops l).contains i && Region.free md ops l i && i != g) && okW md ops g t (l.setIfInBounds i true)
  | .takeD i t, l => ((Region.ready md ops l).contains i && Region.free md ops l i && i != g && waits md ops g i) && okW md ops g t (l.setIfInBounds i true)
  | .one i t, l => (Region.ready md ops l == [i]) && okW md ops g t (l.setIfInBounds i true)
  | .last i t, l => (Region.ready md ops l == [i] && (l.setIfInBounds i true).getD g true) && okW md ops g t (l.setIfInBounds i true)
  | .two i t j u, l => (Region.ready md ops l == [i, j] || Region.ready md ops l == [j, i]) && (lenV t == lenV u) && okW md ops g t (l.setIfInBounds i true) && okW md ops g u (l.setIfInBounds j true)
def SeqW (P : Program) (ops : Array Oper) (Q : Exit → Act → World → Prop) (C D : World → Prop) : TrV → Act → World → Prop
  | .done, a, w => Q .normal a w
  | .take i t, a, w => ∃ o v, ops[i]? = some o ∧ YieldsIf P ops C o v a ∧ SeqW P ops Q C D t (a.put o.dst v) w
  | .takeD i t, a, w => ∃ o v, ops[i]? = some o ∧ YieldsIf P ops (fun w => C w ∧ D w) o v a ∧ SeqW P ops Q C D t (a.put o.dst v) w
  | .one i t, a, w => wpOp P ops Q i (fun a' w' => (C w' ∧ D w') ∧ SeqW P ops Q C D t a' w') a w
  | .last i t, a, w => wpOp P ops Q i (fun a' w' => C w' ∧ SeqW P ops Q C D t a' w') a w
  | .two i t j u, a, w => wpOp P ops Q i (fun a' w' => (C w' ∧ D w') ∧ SeqW P ops Q C D t a' w') a w ∧ wpOp P ops Q j (fun a' w' => (C w' ∧ D w') ∧ SeqW P ops Q C D u a' w') a w

theorem anyV_of_tree (hsel : Region.noSelect ops = true) (hQ : ∀ c t v a w, Q (.panic c) (a.put (some t) v) w → Q (.panic c) a w) :
    ∀ (t : TrV) (l : Array Bool) (a : Act) (w : World), okW md ops g t l = true → WF md ops l → StV C D g l w → SeqW P ops Q C D t a w → AnyV P md ops Q C D g (lenV t) l a w
  | .done, l, a, w, h, _, _, hs => ⟨by simpa [okW] using h, hs⟩
  | .take i t, l, a, w, h, hwf, hS, ⟨o, v, ho, hy, hs⟩ => by
    simp only [okW, Bool.and_eq_true, bne_iff_ne] at h
    have hm : i ∈ Region.ready md ops l := by simpa using h.1.1.1
    refine AnyV.first (E := C) ho (Region.noSelect_spec hsel) (fun c a w h9 => ?_) h.1.2 (fun l w _ _ hS => hS.1) _ l a w hwf (Region.free_spec ho h.1.1.2) hm hy hS (anyV_of_tree hsel hQ t _ _ w h.2 (hwf.set hm) (hS.more i) hs)
    cases hd : o.dst with
    | none => rw [hd] at h9; exact h9
    | some t => rw [hd] at h9; exact hQ c t v a w h9
  | .takeD i t, l, a, w, h, hwf, hS, ⟨o, v, ho, hy, hs⟩ => by
    simp only [okW, Bool.and_eq_true, bne_iff_ne] at h
    have hm : i ∈ Region.ready md ops l := by simpa using h.1.1.1.1
    refine AnyV.first (E := fun w => C w ∧ D w) ho (Region.noSelect_spec hsel) (fun c a w h9 => ?_) h.1.1.2 (fun l w hwf hr hS => ⟨hS.1, hS.2 (unlisted_of_waits h.1.2 hwf hr)⟩) _ l a w hwf (Region.free_spec ho h.1.1.1.2) hm hy hS (anyV_of_tree hsel hQ t _ _ w h.2 (hwf.set hm) (hS.more i) hs)
    cases hd : o.dst with
    | none => rw [hd] at h9; exact h9
    | some t => rw [hd] at h9; exact hQ c t v a w h9
  | .one i t, l, a, w, h, hwf, hS, hs => by
    simp only [okW, Bool.and_eq_true, beq_iff_eq] at h
    simp only [SeqW] at hs
    have hm : i ∈ Region.ready md ops l := by rw [h.1]; simp
    refine ⟨fun h0 => (by rw [h0] at hm; cases hm), fun j hj => ?_⟩
    rw [h.1] at hj
    simp only [List.mem_singleton] at hj
    subst hj
    refine wpOp_mono (fun a' w' h' => ?_) hs
    have hS' : StV C D g (l.setIfInBounds j true) w' := ⟨h'.1.1, fun _ => h'.1.2⟩
    exact ⟨hS', anyV_of_tree hsel hQ t _ a' w' h.2 (hwf.set hm) hS' h'.2⟩
  | .last i t, l, a, w, h, hwf, hS, hs => by
    simp only [okW, Bool.and_eq_true, beq_iff_eq] at h
    simp only [SeqW] at hs
    have hm : i ∈ Region.ready md ops l := by rw [h.1.1]; simp
    refine ⟨fun h0 => (by rw [h0] at hm; cases hm), fun j hj => ?_⟩
    rw [h.1.1] at hj
    simp only [List.mem_singleton] at hj
    subst hj
    refine wpOp_mono (fun a' w' h' => ?_) hs
    have hS' : StV C D g (l.setIfInBounds j true) w' := ⟨h'.1, fun h9 => by rw [h.1.2] at h9; cases h9⟩
    exact ⟨hS', anyV_of_tree hsel hQ t _ a' w' h.2 (hwf.set hm) hS' h'.2⟩
  | .two i t j u, l, a, w, h, hwf, hS, hs => by
    simp only [okW, Bool.and_eq_true, Bool.or_eq_true, beq_iff_eq] at h
    simp only [SeqW] at hs
    have hij : i ∈ Region.ready md ops l ∧ j ∈ Region.ready md ops l ∧ ∀ k ∈ Region.ready md ops l, k = i ∨ k = j := by
      rcases h.1.1.1 with h1 | h1
      · rw [h1]; simp
      · rw [h1]; simp
    refine ⟨fun h0 => (by rw [h0] at hij; cases hij.1), fun k hk => ?_⟩
    rcases hij.2.2 k hk with rfl | rfl
    · refine wpOp_mono (fun a' w' h' => ?_) hs.1
      have hS' : StV C D g (l.setIfInBounds k true) w' := ⟨h'.1.1, fun _ => h'.1.2⟩
      exact ⟨hS', anyV_of_tree hsel hQ t _ a' w' h.1.2 (hwf.set hk) hS' h'.2⟩
    · refine wpOp_mono (fun a' w' h' => ?_) hs.2
      have hS' : StV C D g (l.setIfInBounds k true) w' := ⟨h'.1.1, fun _ => h'.1.2⟩
      have := anyV_of_tree hsel hQ u _ a' w' h.2 (hwf.set hk) hS' h'.2
      rw [← h.1.1.2] at this
      exact ⟨hS', this⟩

theorem drawn_late {id : Nat} {a : Act} {w : World} (C D : World → Prop) (g : Nat) (t : TrV) (hm : P.follows .mixedOrders = true) (hn : (lenV t == ops.size) = true) (hsel : Region.noSelect ops = true)
    (hok : okW .any ops g t (Array.replicate ops.size false) = true) (hQ : ∀ c t v a w, Q (.panic c) (a.put (some t) v) w → Q (.panic c) a w) (hC : C w.drew) (hD : D w.drew) (h : SeqW P ops Q C D t a w.drew) : (Code.region id ops true).wp P Q a w := by
  have h1 := anyV_of_tree (g := g) hsel hQ t _ a w.drew hok WF.start ⟨hC, fun _ => hD⟩ h
  rw [beq_iff_eq.1 hn] at h1
  exact wp_region_any hm (AnyV.plain _ _ _ _ h1)

variable {os : List Oper} {i j : Nat} {t u : TrV} {o o2 : Oper} {v : Value} {a : Act} {w : World}
theorem w_take (ho : os[i]? = some o) (hw : Region.wanted o (yielded os.toArray a.tmps) = true) (hv : ∀ w, C w → (execOp a.eval o).run P w = .ok (.value v) w) (h : SeqW P os.toArray Q C D t (a.put o.dst v) w) : SeqW P os.toArray Q C D (.take i t) a w :=
  ⟨o, v, by simpa using ho, .inl ⟨hw, hv⟩, h⟩
theorem w_takeD (ho : os[i]? = some o) (hw : Region.wanted o (yielded os.toArray a.tmps) = true) (hv : ∀ w, C w ∧ D w → (execOp a.eval o).run P w = .ok (.value v) w) (h : SeqW P os.toArray Q C D t (a.put o.dst v) w) : SeqW P os.toArray Q C D (.takeD i t) a w :=
  ⟨o, v, by simpa using ho, .inl ⟨hw, hv⟩, h⟩
theorem w_one (ho : os[i]? = some o) (hw : Region.wanted o (yielded os.toArray a.tmps) = true)
    (h : ∀ K' : Act → World → Prop, Hid (∀ a w, C w → D w → SeqW P os.toArray Q C D t a w → K' a w) → Oper.wp P o a w K' Q) : SeqW P os.toArray Q C D (.one i t) a w := by
  simp only [SeqW]
  exact wpOp_step (ops := os.toArray) (o := o) (by simpa using ho) fun K' hK => by rw [if_pos hw]; exact h K' (hide fun a w h1 h2 h3 => hK a w ⟨⟨h1, h2⟩, h3⟩)
theorem w_last (ho : os[i]? = some o) (hw : Region.wanted o (yielded os.toArray a.tmps) = true)
    (h : ∀ K' : Act → World → Prop, Hid (∀ a w, C w → SeqW P os.toArray Q C D t a w → K' a w) → Oper.wp P o a w K' Q) : SeqW P os.toArray Q C D (.last i t) a w := by
  simp only [SeqW]
  exact wpOp_step (ops := os.toArray) (o := o) (by simpa using ho) fun K' hK => by rw [if_pos hw]; exact h K' (hide fun a w h1 h3 => hK a w ⟨h1, h3⟩)
theorem w_two (ho : os[i]? = some o) (ho2 : os[j]? = some o2) (hw : Region.wanted o (yielded os.toArray a.tmps) = true) (hw2 : Region.wanted o2 (yielded os.toArray a.tmps) = true)
    (h : ∀ K' : Act → World → Prop, Hid (∀ a w, C w → D w → SeqW P os.toArray Q C D t a w → K' a w) → Oper.wp P o a w K' Q)
    (h2 : ∀ K' : Act → World → Prop, Hid (∀ a w, C w → D w → SeqW P os.toArray Q C D u a w → K' a w) → Oper.wp P o2 a w K' Q) : SeqW P os.toArray Q C D (.two i t j u) a w := by
  simp only [SeqW]
  exact ⟨wpOp_step (ops := os.toArray) (o := o) (by simpa using ho) fun K' hK => by rw [if_pos hw]; exact h K' (hide fun a w h1 h2 h3 => hK a w ⟨⟨h1, h2⟩, h3⟩),
    wpOp_step (ops := os.toArray) (o := o2) (by simpa using ho2) fun K' hK => by rw [if_pos hw2]; exact h2 K' (hide fun a w h1 h2 h3 => hK a w ⟨⟨h1, h2⟩, h3⟩)⟩
theorem w_done (h : Q .normal a w) : SeqW P os.toArray Q C D .done a w := h
end
end Go.Proofs.YtneecjikdghchaaDoor
