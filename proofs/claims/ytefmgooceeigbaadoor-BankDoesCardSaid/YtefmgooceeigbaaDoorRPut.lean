/- (*elenchusref06.Bank).put, walked. -/
import Derived.Test.YtefmgooceeigbaaDoorBank4
import Derived.Test.YtefmgooceeigbaaDoorDraw2
import Derived.Test.YtefmgooceeigbaaDoorRBk
import Derived.Test.YtefmgooceeigbaaDoorRCopy
set_option linter.unusedSimpArgs false
set_option linter.unusedVariables false
namespace Go.Proofs.YtefmgooceeigbaaDoor
section
open Go.RowKit
theorem rputT_eq (L : List Tm) (t : Tm) : rputT L t = match rfind L t with
    | some i => (L, some i)
    | none => match rputL L t.args with
      | (L1, false) => (L1, none)
      | (L1, true) => if 4096 ≤ L1.length then (L1, none) else (L1 ++ [t], some L1.length) := by
  cases t with
  | node h l => rw [rputT]; rfl
theorem rputL_snoc : ∀ (a : List Tm) (L : List Tm) (t : Tm), rputL L (a ++ [t]) = match rputL L a with
    | (L1, false) => (L1, false)
    | (L1, true) => match rputT L1 t with
      | (L2, none) => (L2, false)
      | (L2, some _) => (L2, true)
  | [], L, t => by
    simp only [List.nil_append, rputL]
    rcases rputT L t with ⟨L1, _ | n⟩ <;> rfl
  | u :: a, L, t => by
    simp only [List.cons_append, rputL]
    rcases rputT L u with ⟨L1, _ | n⟩
    · rfl
    · simp only [rputL_snoc a L1 t]
theorem rputL_stop : ∀ (a b : List Tm) (L L1 : List Tm), rputL L a = (L1, false) → rputL L (a ++ b) = (L1, false)
  | [], b, L, L1, h => by simp [rputL] at h
  | u :: a, b, L, L1, h => by
    simp only [List.cons_append, rputL] at h ⊢
    rcases hp : rputT L u with ⟨L2, _ | n⟩
    · rw [hp] at h; exact h
    · rw [hp] at h
      simp only at h ⊢
      exact rputL_stop a b L2 L1 h
theorem rputL_at {L L1 : List Tm} {l : List Tm} {j : Nat} (h : j < l.length) (hp : rputL L (l.take j) = (L1, true)) :
    (∀ L2 n, rputT L1 l[j] = (L2, some n) → rputL L (l.take (j + 1)) = (L2, true)) ∧ (∀ L2, rputT L1 l[j] = (L2, none) → rputL L l = (L2, false)) := by
  have h1 := rputL_snoc (l.take j) L l[j]
  rw [← List.take_succ_eq_append_getElem h, hp] at h1
  simp only at h1
  refine ⟨fun L2 n h2 => by rw [h1, h2], fun L2 h2 => ?_⟩
  rw [h2] at h1
  have := rputL_stop _ (l.drop (j + 1)) L L2 h1
  rwa [List.take_append_drop] at this
def LOk (L : List Tm) (m : Nat) : Prop := (∀ u, u ∈ L → u.size ≤ m) ∧ L.length ≤ 4096
theorem LOk.nil (m : Nat) : LOk [] m := ⟨by simp, by simp⟩
mutual
theorem rputT_ok {m : Nat} : ∀ (t : Tm) (L : List Tm), LOk L m → t.size ≤ m → LOk (rputT L t).1 m
  | .node h l, L, hl, ht => by
    rw [rputT]
    cases hr : rfind L (.node h l) with
    | some i => exact hl
    | none =>
      have := rputL_ok l L hl (by simp only [Tm.size] at ht; omega)
      rcases hp : rputL L l with ⟨L1, _ | _⟩
      · rw [hp] at this; exact this
      · rw [hp] at this
        simp only
        split
        · exact this
        · next h4 =>
          refine ⟨fun u hu => ?_, ?_⟩
          · rcases List.mem_append.1 hu with hu | hu
            · exact this.1 u hu
            · simp only [List.mem_singleton] at hu; rw [hu]; exact ht
          · simp; omega
theorem rputL_ok {m : Nat} : ∀ (l : List Tm) (L : List Tm), LOk L m → Tm.sizes l ≤ m → LOk (rputL L l).1 m
  | [], L, hl, _ => by rw [rputL]; exact hl
  | t :: ts, L, hl, ht => by
    rw [rputL]
    simp only [Tm.sizes] at ht
    have := rputT_ok t L hl (by omega)
    rcases hp : rputT L t with ⟨L1, _ | n⟩
    · rw [hp] at this; exact this
    · rw [hp] at this; exact rputL_ok ts L1 this (by omega)
end
end
section
open Go.RowKit

inductive TrX where
  | done
  | take (i : Nat) (t : TrX)
  | takeD (i : Nat) (t : TrX)
  | one (i : Nat) (t : TrX)
  | last (i : Nat) (t : TrX)
  | two (i : Nat) (t : TrX) (j : Nat) (u : TrX)
  | pair (i : Nat) (t : TrX) (j : Nat) (u : TrX)
def lenX : TrX → Nat
  | .done => 0
  | .take _ t => lenX t + 1
  | .takeD _ t => lenX t + 1
  | .one _ t => lenX t + 1
  | .last _ t => lenX t + 1
  | .two _ t _ _ => lenX t + 1
  | .pair _ t _ _ => lenX t + 1
section
variable {P : Program} {ops : Array Oper} {Q : Exit → Act → World → Prop} {C D : World → Prop} {g : Nat} {md : Region.Mode}
def okX (md : Region.Mode) (ops : Array Oper) (g : Nat) : TrX → Array Bool → Bool
  | .done, l => (Region.ready md ops l).isEmpty
  | .take i t, l => ((Region.ready md ops l).contains i && Region.free md ops l i && i != g) && okX md ops g t (l.setIfInBounds i true)
  | .takeD i t, l => ((Region.ready md ops l).contains i && Region.free md ops l i && i != g && waits md ops g i) && okX md ops g t (l.setIfInBounds i true)
  | .one i t, l => (Region.ready md ops l == [i]) && okX md ops g t (l.setIfInBounds i true)
  | .last i t, l => (Region.ready md ops l == [i] && (l.setIfInBounds i true).getD g true) && okX md ops g t (l.setIfInBounds i true)
  | .two i t j u, l => (Region.ready md ops l == [i, j] || Region.ready md ops l == [j, i]) && (lenX t == lenX u) && okX md ops g t (l.setIfInBounds i true) && okX md ops g u (l.setIfInBounds j true)
  | .pair i t j u, l => (Region.ready md ops l == [i, j] || Region.ready md ops l == [j, i]) && (lenX t == lenX u) && okX md ops g t (l.setIfInBounds i true) && okX md ops g u (l.setIfInBounds j true) && (l.setIfInBounds i true).getD g true && (l.setIfInBounds j true).getD g true
def SeqX (P : Program) (ops : Array Oper) (Q : Exit → Act → World → Prop) (C D : World → Prop) : TrX → Act → World → Prop
  | .done, a, w => Q .normal a w
  | .take i t, a, w => ∃ o v, ops[i]? = some o ∧ YieldsIf P ops C o v a ∧ SeqX P ops Q C D t (a.put o.dst v) w
  | .takeD i t, a, w => ∃ o v, ops[i]? = some o ∧ YieldsIf P ops (fun w => C w ∧ D w) o v a ∧ SeqX P ops Q C D t (a.put o.dst v) w
  | .one i t, a, w => wpOp P ops Q i (fun a' w' => (C w' ∧ D w') ∧ SeqX P ops Q C D t a' w') a w
  | .last i t, a, w => wpOp P ops Q i (fun a' w' => C w' ∧ SeqX P ops Q C D t a' w') a w
  | .two i t j u, a, w => wpOp P ops Q i (fun a' w' => (C w' ∧ D w') ∧ SeqX P ops Q C D t a' w') a w ∧ wpOp P ops Q j (fun a' w' => (C w' ∧ D w') ∧ SeqX P ops Q C D u a' w') a w
  | .pair i t j u, a, w => wpOp P ops Q i (fun a' w' => C w' ∧ SeqX P ops Q C D t a' w') a w ∧ wpOp P ops Q j (fun a' w' => C w' ∧ SeqX P ops Q C D u a' w') a w

theorem anyV_of_treeX (hsel : Region.noSelect ops = true) (hQ : ∀ c t v a w, Q (.panic c) (a.put (some t) v) w → Q (.panic c) a w) :
    ∀ (t : TrX) (l : Array Bool) (a : Act) (w : World), okX md ops g t l = true → WF md ops l → StV C D g l w → SeqX P ops Q C D t a w → AnyV P md ops Q C D g (lenX t) l a w
  | .done, l, a, w, h, _, _, hs => ⟨by simpa [okX] using h, hs⟩
  | .take i t, l, a, w, h, hwf, hS, ⟨o, v, ho, hy, hs⟩ => by
    simp only [okX, Bool.and_eq_true, bne_iff_ne] at h
    have hm : i ∈ Region.ready md ops l := by simpa using h.1.1.1
    refine AnyV.first (E := C) ho (Region.noSelect_spec hsel) (fun c a w h9 => ?_) h.1.2 (fun l w _ _ hS => hS.1) _ l a w hwf (Region.free_spec ho h.1.1.2) hm hy hS (anyV_of_treeX hsel hQ t _ _ w h.2 (hwf.set hm) (hS.more i) hs)
    cases hd : o.dst with
    | none => rw [hd] at h9; exact h9
    | some t => rw [hd] at h9; exact hQ c t v a w h9
  | .takeD i t, l, a, w, h, hwf, hS, ⟨o, v, ho, hy, hs⟩ => by
    simp only [okX, Bool.and_eq_true, bne_iff_ne] at h
    have hm : i ∈ Region.ready md ops l := by simpa using h.1.1.1.1
    refine AnyV.first (E := fun w => C w ∧ D w) ho (Region.noSelect_spec hsel) (fun c a w h9 => ?_) h.1.1.2 (fun l w hwf hr hS => ⟨hS.1, hS.2 (unlisted_of_waits h.1.2 hwf hr)⟩) _ l a w hwf (Region.free_spec ho h.1.1.1.2) hm hy hS (anyV_of_treeX hsel hQ t _ _ w h.2 (hwf.set hm) (hS.more i) hs)
    cases hd : o.dst with
    | none => rw [hd] at h9; exact h9
    | some t => rw [hd] at h9; exact hQ c t v a w h9
  | .one i t, l, a, w, h, hwf, hS, hs => by
    simp only [okX, Bool.and_eq_true, beq_iff_eq] at h
    simp only [SeqX] at hs
    have hm : i ∈ Region.ready md ops l := by rw [h.1]; simp
    refine ⟨fun h0 => (by rw [h0] at hm; cases hm), fun j hj => ?_⟩
    rw [h.1] at hj
    simp only [List.mem_singleton] at hj
    subst hj
    refine wpOp_mono (fun a' w' h' => ?_) hs
    have hS' : StV C D g (l.setIfInBounds j true) w' := ⟨h'.1.1, fun _ => h'.1.2⟩
    exact ⟨hS', anyV_of_treeX hsel hQ t _ a' w' h.2 (hwf.set hm) hS' h'.2⟩
  | .last i t, l, a, w, h, hwf, hS, hs => by
    simp only [okX, Bool.and_eq_true, beq_iff_eq] at h
    simp only [SeqX] at hs
    have hm : i ∈ Region.ready md ops l := by rw [h.1.1]; simp
    refine ⟨fun h0 => (by rw [h0] at hm; cases hm), fun j hj => ?_⟩
    rw [h.1.1] at hj
    simp only [List.mem_singleton] at hj
    subst hj
    refine wpOp_mono (fun a' w' h' => ?_) hs
    have hS' : StV C D g (l.setIfInBounds j true) w' := ⟨h'.1, fun h9 => by rw [h.1.2] at h9; cases h9⟩
    exact ⟨hS', anyV_of_treeX hsel hQ t _ a' w' h.2 (hwf.set hm) hS' h'.2⟩
  | .two i t j u, l, a, w, h, hwf, hS, hs => by
    simp only [okX, Bool.and_eq_true, Bool.or_eq_true, beq_iff_eq] at h
    simp only [SeqX] at hs
    have hij : i ∈ Region.ready md ops l ∧ j ∈ Region.ready md ops l ∧ ∀ k ∈ Region.ready md ops l, k = i ∨ k = j := by
      rcases h.1.1.1 with h1 | h1
      · rw [h1]; simp
      · rw [h1]; simp
    refine ⟨fun h0 => (by rw [h0] at hij; cases hij.1), fun k hk => ?_⟩
    rcases hij.2.2 k hk with rfl | rfl
    · refine wpOp_mono (fun a' w' h' => ?_) hs.1
      have hS' : StV C D g (l.setIfInBounds k true) w' := ⟨h'.1.1, fun _ => h'.1.2⟩
      exact ⟨hS', anyV_of_treeX hsel hQ t _ a' w' h.1.2 (hwf.set hk) hS' h'.2⟩
    · refine wpOp_mono (fun a' w' h' => ?_) hs.2
      have hS' : StV C D g (l.setIfInBounds k true) w' := ⟨h'.1.1, fun _ => h'.1.2⟩
      have := anyV_of_treeX hsel hQ u _ a' w' h.2 (hwf.set hk) hS' h'.2
      rw [← h.1.1.2] at this
      exact ⟨hS', this⟩
  | .pair i t j u, l, a, w, h, hwf, hS, hs => by
    simp only [okX, Bool.and_eq_true, Bool.or_eq_true, beq_iff_eq] at h
    simp only [SeqX] at hs
    have hij : i ∈ Region.ready md ops l ∧ j ∈ Region.ready md ops l ∧ ∀ k ∈ Region.ready md ops l, k = i ∨ k = j := by
      rcases h.1.1.1.1.1 with h1 | h1
      · rw [h1]; simp
      · rw [h1]; simp
    refine ⟨fun h0 => (by rw [h0] at hij; cases hij.1), fun k hk => ?_⟩
    rcases hij.2.2 k hk with rfl | rfl
    · refine wpOp_mono (fun a' w' h' => ?_) hs.1
      have hS' : StV C D g (l.setIfInBounds k true) w' := ⟨h'.1, fun h9 => by rw [h.1.2] at h9; cases h9⟩
      exact ⟨hS', anyV_of_treeX hsel hQ t _ a' w' h.1.1.1.2 (hwf.set hk) hS' h'.2⟩
    · refine wpOp_mono (fun a' w' h' => ?_) hs.2
      have hS' : StV C D g (l.setIfInBounds k true) w' := ⟨h'.1, fun h9 => by rw [h.2] at h9; cases h9⟩
      have := anyV_of_treeX hsel hQ u _ a' w' h.1.1.2 (hwf.set hk) hS' h'.2
      rw [← h.1.1.1.1.2] at this
      exact ⟨hS', this⟩

theorem drawn_pair {id : Nat} {a : Act} {w : World} (C D : World → Prop) (g : Nat) (t : TrX) (hm : P.follows .mixedOrders = true) (hn : (lenX t == ops.size) = true) (hsel : Region.noSelect ops = true)
    (hok : okX .any ops g t (Array.replicate ops.size false) = true) (hQ : ∀ c t v a w, Q (.panic c) (a.put (some t) v) w → Q (.panic c) a w) (hC : C w.drew) (hD : D w.drew) (h : SeqX P ops Q C D t a w.drew) : (Code.region id ops true).wp P Q a w := by
  have h1 := anyV_of_treeX (g := g) hsel hQ t _ a w.drew hok WF.start ⟨hC, fun _ => hD⟩ h
  rw [beq_iff_eq.1 hn] at h1
  exact wp_region_any hm (AnyV.plain _ _ _ _ h1)

variable {os : List Oper} {i j : Nat} {t u : TrX} {o o2 : Oper} {v : Value} {a : Act} {w : World}
theorem x_take (ho : os[i]? = some o) (hw : Region.wanted o (yielded os.toArray a.tmps) = true) (hv : ∀ w, C w → (execOp a.eval o).run P w = .ok (.value v) w) (h : SeqX P os.toArray Q C D t (a.put o.dst v) w) : SeqX P os.toArray Q C D (.take i t) a w :=
  ⟨o, v, by simpa using ho, .inl ⟨hw, hv⟩, h⟩
theorem x_takeD (ho : os[i]? = some o) (hw : Region.wanted o (yielded os.toArray a.tmps) = true) (hv : ∀ w, C w ∧ D w → (execOp a.eval o).run P w = .ok (.value v) w) (h : SeqX P os.toArray Q C D t (a.put o.dst v) w) : SeqX P os.toArray Q C D (.takeD i t) a w :=
  ⟨o, v, by simpa using ho, .inl ⟨hw, hv⟩, h⟩
theorem x_one (ho : os[i]? = some o) (hw : Region.wanted o (yielded os.toArray a.tmps) = true)
    (h : ∀ K' : Act → World → Prop, Hid (∀ a w, C w → D w → SeqX P os.toArray Q C D t a w → K' a w) → Oper.wp P o a w K' Q) : SeqX P os.toArray Q C D (.one i t) a w := by
  simp only [SeqX]
  exact wpOp_step (ops := os.toArray) (o := o) (by simpa using ho) fun K' hK => by rw [if_pos hw]; exact h K' (hide fun a w h1 h2 h3 => hK a w ⟨⟨h1, h2⟩, h3⟩)
theorem x_last (ho : os[i]? = some o) (hw : Region.wanted o (yielded os.toArray a.tmps) = true)
    (h : ∀ K' : Act → World → Prop, Hid (∀ a w, C w → SeqX P os.toArray Q C D t a w → K' a w) → Oper.wp P o a w K' Q) : SeqX P os.toArray Q C D (.last i t) a w := by
  simp only [SeqX]
  exact wpOp_step (ops := os.toArray) (o := o) (by simpa using ho) fun K' hK => by rw [if_pos hw]; exact h K' (hide fun a w h1 h3 => hK a w ⟨h1, h3⟩)
theorem x_two (ho : os[i]? = some o) (ho2 : os[j]? = some o2) (hw : Region.wanted o (yielded os.toArray a.tmps) = true) (hw2 : Region.wanted o2 (yielded os.toArray a.tmps) = true)
    (h : ∀ K' : Act → World → Prop, Hid (∀ a w, C w → D w → SeqX P os.toArray Q C D t a w → K' a w) → Oper.wp P o a w K' Q)
    (h2 : ∀ K' : Act → World → Prop, Hid (∀ a w, C w → D w → SeqX P os.toArray Q C D u a w → K' a w) → Oper.wp P o2 a w K' Q) : SeqX P os.toArray Q C D (.two i t j u) a w := by
  simp only [SeqX]
  exact ⟨wpOp_step (ops := os.toArray) (o := o) (by simpa using ho) fun K' hK => by rw [if_pos hw]; exact h K' (hide fun a w h1 h2 h3 => hK a w ⟨⟨h1, h2⟩, h3⟩),
    wpOp_step (ops := os.toArray) (o := o2) (by simpa using ho2) fun K' hK => by rw [if_pos hw2]; exact h2 K' (hide fun a w h1 h2 h3 => hK a w ⟨⟨h1, h2⟩, h3⟩)⟩
theorem x_pair (ho : os[i]? = some o) (ho2 : os[j]? = some o2) (hw : Region.wanted o (yielded os.toArray a.tmps) = true) (hw2 : Region.wanted o2 (yielded os.toArray a.tmps) = true)
    (h : ∀ K' : Act → World → Prop, Hid (∀ a w, C w → SeqX P os.toArray Q C D t a w → K' a w) → Oper.wp P o a w K' Q)
    (h2 : ∀ K' : Act → World → Prop, Hid (∀ a w, C w → SeqX P os.toArray Q C D u a w → K' a w) → Oper.wp P o2 a w K' Q) : SeqX P os.toArray Q C D (.pair i t j u) a w := by
  simp only [SeqX]
  exact ⟨wpOp_step (ops := os.toArray) (o := o) (by simpa using ho) fun K' hK => by rw [if_pos hw]; exact h K' (hide fun a w h1 h3 => hK a w ⟨h1, h3⟩),
    wpOp_step (ops := os.toArray) (o := o2) (by simpa using ho2) fun K' hK => by rw [if_pos hw2]; exact h2 K' (hide fun a w h1 h3 => hK a w ⟨h1, h3⟩)⟩
theorem x_done (h : Q .normal a w) : SeqX P os.toArray Q C D .done a w := h
end
end
open Go.RowKit

section
variable {P : Program} {W : World} {o : Oper} {a : Act} {K : Act → World → Prop} {Q : Exit → Act → World → Prop} {A : Nat → Prop}
theorem app_op2 (s x : Operand) (t : TypeId) (ho : o.op = .call { callee := .builtin .append, args := #[s, x], argTypes := #[t, t] }) (base : Nat) (e : TypeId) (z : Value) (bytes : Nat)
    (ht : P.underlying t = some (.slice e)) (hinfo : (P.info? e).map (fun i => (i.zero, i.size, i.bytes)) = some (some z, 2, bytes)) (hzs : z.cells.size = 2)
    {v : Value} {ds : List D} {d : D} {c1 c2 : Value} (hs : a.eval s = v) (hx : a.eval x = .slice (some ⟨W.heap.size, 0, none⟩) 1 1) (hown : OwnD A W base e 2 v ds) (hd : RepD (fun b => A b ∨ v.ownBlock = some b) W d [c1, c2])
    (h1 : c1.oneCell' = true) (h2 : c2.oneCell' = true) (hn : ds.length + 1 ≤ maxLen) (hbytes : (ds.length + 1) * bytes ≤ 140737488355328) (hbase : base ≤ W.heap.size)
    (h : ∀ g cap w', OwnD A w' base e 2 (.slice (some ⟨g, 0, none⟩) (ds.length + 1) cap) (ds ++ [d]) → Keep (fun b => v.ownBlock ≠ some b) W w' → (v.ownBlock = some g ∨ W.heap.size ≤ g) → w'.cell? ⟨g, ds.length * 2, none⟩ = some c1 ∧ w'.cell? ⟨g, ds.length * 2 + 1, none⟩ = some c2 ∧ w'.frozen? ⟨g, ds.length * 2, none⟩ = false ∧ w'.frozen? ⟨g, ds.length * 2 + 1, none⟩ = false → K (a.put o.dst (.slice (some ⟨g, 0, none⟩) (ds.length + 1) cap)) w') :
    Oper.wp P o a (W.alloc (.cells #[c1, c2] e)) K Q := by
  obtain ⟨i, hi, hz⟩ := Option.map_eq_some_iff.1 hinfo
  simp only [Prod.mk.injEq] at hz
  obtain ⟨hz0, hz1, hz2⟩ := hz
  obtain ⟨css, g1, g2, g3⟩ := hown
  refine wp_append_lies _ s x t ho base e i z 2 bytes ht hi hz0 hz1 hz2 hzs (by omega) v ds.length css.flatten hs (g1.alloc _) ⟨W.heap.size, 0, none⟩ 1 1 [c1, c2] hx rfl
    (World.news_of_block (cs := #[c1, c2]) (World.alloc_heap_new _ _)) (by simp [h1, h2]) (by omega) hn hbytes (by simp; omega) (W.heap.size + 1) (by simp) ?_
  intro g cap w' r1 r2 r3 r4
  have hk : Keep (fun b => v.ownBlock ≠ some b) W w' := ((Keep.refl _ _).alloc _).grown r2 (fun k hk h => h hk)
  have hf : ∀ c d, RepD (fun b => A b ∨ v.ownBlock = some b) W d c → RepD (fun b => A b ∨ (Value.slice (some ⟨g, 0, none⟩) (ds.length + 1) cap).ownBlock = some b) w' d c := fun c d h => h.frame (fun b hb hlt => hk.block b hlt (fun h => hb (.inr h))) (fun b hb h => by
    rcases h with h | h
    · exact .inl h
    · have e1 : g = b := by simpa [Value.ownBlock] using h
      rcases r3 with r3 | r3
      · exact .inr (by rw [r3, e1])
      · omega)
  have hfl : css.flatten.length = ds.length * 2 := by rw [flat_length g2, g3.length]
  refine h g cap w' ⟨css ++ [[c1, c2]], by simpa using r1, fun c hc => ?_, (g3.imp hf).append (.cons (hf _ _ hd) .nil)⟩ hk (by
    rcases r3 with r3 | r3
    · exact .inl r3
    · exact .inr (by omega)) ⟨?_, ?_, r1.frozenAt _, r1.frozenAt _⟩
  · rcases List.mem_append.1 hc with h | h
    · exact g2 c h
    · simp at h; rw [h]; rfl
  · rw [r1.cellAt _ (by omega), List.getElem?_append_right (by omega), hfl]; simp
  · rw [r1.cellAt _ (by omega), List.getElem?_append_right (by omega), hfl]; simp
end
theorem Moved.weak {Z Z' X : Nat → Prop} {w w' : World} (h : Moved Z Z' w w') (hX : ∀ b, Z b → X b) : Keep (fun b => ¬ X b) w w' := h.1.mono fun b _ hz hb => hz (hX b hb)
/-- Behind j arguments. -/
def RPutInv (A : Nat → Prop) (yb base : Nat) (w : World) (L : List Tm) (lv : Value) (t : Tm) (a : Option Addr) (c : Nat) (wr : World) (j : Nat) : Prop :=
  ∃ L1 lv1, rputL L (t.args.take j) = (L1, true) ∧ RBk wr (fun b => A b ∨ b = w.heap.size) yb L1 lv1 base ∧ Moved (RZ yb lv) (RZ yb lv1) w wr ∧ LOk L1 1000000 ∧ Terms (RZ yb lv1) wr (.slice a t.args.length c) t.args ∧ wr.heap[w.heap.size]? = some (.cells #[.int .i64 t.h, .slice a t.args.length c] 26 (0, 0))

set_option maxHeartbeats 8000000 in
set_option maxRecDepth 100000 in
theorem rbput_calls (yb base : Nat) (n0 : Nat) : ∀ (A : Nat → Prop) (t : Tm) (L : List Tm) (lv : Value) (h : Int) (s : Value) (w : World), t.size ≤ n0 → t.size ≤ 1000000 → LOk L 1000000 → RBk w A yb L lv base → IsTm (RZ yb lv) w h s t →
    Calls Tryd.prog 33 #[.pointer (some ⟨yb, 0, none⟩), .agg #[.int .i64 h, s]] w fun e w' => e = .returned (.tuple #[.int .i64 (numV (rputT L t).2), .int .i64 (errV (rputT L t).2)]) ∧ ∃ lv', RBk w' A yb (rputT L t).1 lv' base ∧ Moved (RZ yb lv) (RZ yb lv') w w' := by
  induction n0 with
  | zero => intro _ t _ _ _ _ _ ht; have := t.size_eq; omega
  | succ n0 ih =>
    rintro A t L lv h s w ht hm hlo hx hs
    obtain ⟨rfl, a, c, rfl, hlc, hc⟩ := hs.shape
    have HSZ := hide t.size_eq
    have h0 : Below w.heap.size w (w.alloc (.cells #[.int .i64 t.h, .slice a t.args.length c] 26)) := (Below.refl _ _).alloc (Nat.le_refl _) _
    have k0 := World.alloc_heap_new w (.cells #[.int .i64 t.h, .slice a t.args.length c] 26)
    have HX := hide (hx.below h0)
    have HLT := hide hx.lt
    have HLA := hide hx.la
    have HS := hide (hs.2.below h0)
    have HS0 := hide hs.2
    have HB := hide h0
    have HX0 := hide hx
    have HM := hide hm
    have HLO := hide hlo
    have HPE := hide (rputT_eq L t)
    clear hx hs hm hlo
    go_enter Tryd.func33, Tryd.ntmps33
    go_wp2_with fail
    generalize w.alloc (.cells #[.int .i64 t.h, .slice a t.args.length c] 26) = W at *
    refine (rfind_calls A _ yb L lv base t _ _ W (fun u hu => by have := HLO.out.1 u hu; omega) (by have := HM.out; omega) (by have := HLO.out.2; omega) HX.out ⟨rfl, HS.out⟩).mono ?_
    rintro e w1 ⟨rfl, b1⟩
    have k1 := (b1.block _ (Array.getElem?_eq_some_iff.1 k0).1).trans k0
    have HB1 := hide (more_below HB.out b1)
    cases hrf : rfind L t with
    | some i =>
      simp only [numV, Option.getD_some, Option.isSome_some]
      have hpe := HPE.out
      rw [hrf] at hpe
      simp only at hpe
      have HP := hide hpe
      have HX1 := hide (HX.out.below b1)
      clear hpe hrf b1 HX HS
      go_wp2
      go_ret2
      rw [HP.out]
      exact ⟨rfl, lv, HX1.out, Moved.of_below HB1.out⟩
    | none =>
      simp only [numV, Option.getD_none, Option.isSome_none, Int.natCast_zero]
      have hpe := HPE.out
      rw [hrf] at hpe
      simp only at hpe
      have HP := hide hpe
      have HI := hide (show RPutInv A yb base w L lv t a c w1 0 from
        ⟨L, lv, by simp [rputL], HX0.out.step ⟨Keep.of_below HB1.out, fun b h => by
          rcases h with h | h
          · exact .inl h
          · exact .inr (by omega)⟩ (fun b h => by
          have := HB1.out.size
          have hk := (Array.getElem?_eq_some_iff.1 k1).1
          rcases h with h | h
          · have := HX0.out.la b h; omega
          · omega), Moved.of_below HB1.out, HLO.out, HS0.out.below HB1.out, k1⟩)
      obtain ⟨-, z0, z1, -, -⟩ := box2 k1
      clear hpe hrf b1 HX HS HPE k0 k1 HX0 HS0 HLO h0
      go_wp2
      go_loopw [8] (fun i wr => ∃ j : Nat, j ≤ t.args.length ∧ i = .int .i64 j ∧ Hid (RPutInv A yb base w L lv t a c wr j)) (fun i _ => t.args.length - (intOf i).toNat)
      case atStart => exact ⟨0, by omega, rfl, HI⟩
      case round =>
        obtain ⟨j, hj, rfl, hinv⟩ := hrel
        obtain ⟨L1, lv1, hp, hx, hmv, hlo, hts, hbx⟩ := hinv.out
        obtain ⟨-, z0, z1, -, -⟩ := box2 hbx
        by_cases hlt : j < t.args.length
        · obtain ⟨b, off, a', c', rfl, hbs, hbA, g0, g1, gt⟩ := hts.get j hlt
          have hk2' := Tm.size_get t.args j hlt
          have hn : t.args[j].size ≤ n0 := by have := HSZ.out; omega
          have hmj : t.args[j].size ≤ 1000000 := by have := HSZ.out; have := HM.out; omega
          have HPA := hide (rputL_at hlt hp)
          have HX1 := hide hx
          have HG1 := hide gt
          have HT1 := hide hts
          have HM1 := hide hmv
          have HB1 := hide hbx
          have HL1 := hide hlo
          have HNA := hide (show ¬ RZ yb lv1 w.heap.size from fun hz => hx.na _ hz (.inr rfl))
          clear hinv hp hx hmv hts hbx gt hk2' hlo
          go_wp2_with fail
          refine (ih _ t.args[j] L1 lv1 _ _ wr hn hmj HL1.out HX1.out ⟨rfl, HG1.out⟩).mono ?_
          rintro e w4 ⟨rfl, lv4, hx4, hm4⟩
          have HM4 := hide (HM1.out.trans hm4)
          have HTS4 := hide (hm4.terms HT1.out)
          have HB4 := hide (hm4.obj HNA.out HB1.out).1
          have HL4 := hide (rputT_ok t.args[j] L1 HL1.out hmj)
          obtain ⟨-, z0, z1, -, -⟩ := box2 HB4.out
          rcases hpt : rputT L1 t.args[j] with ⟨L4, o⟩
          rw [hpt] at hx4 HL4
          simp only at hx4 HL4
          have HX4 := hide hx4
          clear hx4 hm4 HX1 HG1 HT1 HM1 HB1 HNA HL1 ih
          cases o with
          | none =>
            simp only [numV, errV, Option.getD_none, Option.isSome_none, Bool.false_eq_true, if_false, Int.natCast_zero]
            have hp2 := HPA.out.2 L4 hpt
            have hp3 := HP.out
            rw [hp2] at hp3
            have HPZ := hide hp3
            clear hpt HPA hp2 hp3
            go_wp2
            go_ret2
            rw [HPZ.out]
            exact ⟨rfl, lv4, HX4.out.bar fun b h => .inl h, HM4.out⟩
          | some n =>
            simp only [numV, errV, Option.getD_some, Option.isSome_some, if_true]
            have HI2 := hide (show RPutInv A yb base w L lv t (some ⟨b, off, none⟩) c w4 (j + 1) from ⟨L4, lv4, HPA.out.1 L4 n hpt, HX4.out, HM4.out, HL4.out, HTS4.out, HB4.out⟩)
            clear hpt HPA HX4 HM4 HTS4 HB4 HL4
            go_wp2
            go_roundw
            case rel => exact ⟨j + 1, by omega, by go_num, HI2⟩
            case measure => simp [intOf]; omega
        · obtain rfl : j = t.args.length := by omega
          rw [List.take_length] at hp
          have hp3 := HP.out
          rw [hp] at hp3
          simp only at hp3
          have HP3 := hide hp3
          have HX1 := hide hx
          have HM1 := hide hmv
          have HT1 := hide hts
          have HB1 := hide hbx
          have HL1 := hide hlo
          obtain ⟨la, lc, hlv, -⟩ := hx.row
          obtain ⟨y9, y0, -⟩ := box1 hx.x
          rw [hlv] at y0
          by_cases hfl : 4096 ≤ L1.length
          · have hd : decide ((L1.length : Int) ≥ 4096) = true := by simp; omega
            have HPZ := hide (show rputT L t = (L1, none) by rw [HP3.out, if_pos hfl])
            clear hinv hp hx hmv hts hbx hlo hp3 ih
            go_wp2
            go_ret2
            rw [HPZ.out]
            exact ⟨rfl, lv1, HX1.out.bar fun b h => .inl h, HM1.out⟩
          · have hd : decide ((L1.length : Int) ≥ 4096) = false := by simp; omega
            have HPZ := hide (show rputT L t = (L1 ++ [t], some L1.length) by rw [HP3.out, if_neg hfl])
            clear hinv hp hx hmv hts hbx hlo hp3 ih
            go_wp2_with fail
            refine (rcopy_calls t.size t _ (fun b => (A b ∨ b = w.heap.size) ∨ RZ yb lv1 b) _ _ wr (Nat.le_refl _) HM.out (fun b hb => ?_) ⟨rfl, HT1.out⟩).mono ?_
            · rcases hb with hb | hb
              · exact HX1.out.la b hb
              · exact (HX1.out.lt b hb).2
            rintro e w2 ⟨s2, rfl, hT2, b2⟩
            obtain ⟨ta, tc, rfl, -, -⟩ := hT2.shape
            have hb3 : Below w2.heap.size w2 (w2.alloc (.cells #[.int .i64 t.h, .slice ta t.args.length tc] 26)) := (Below.refl _ _).alloc (Nat.le_refl _) _
            have HK3 := hide (World.alloc_heap_new w2 (.cells #[.int .i64 t.h, .slice ta t.args.length tc] 26))
            have HW3 := hide (more_below b2 hb3)
            have HT3 := hide (hT2.below hb3)
            have HX3 := hide ((HX1.out.below b2).below hb3)
            have HM3 := hide ((HM1.out.trans (Moved.of_below (Z := RZ yb lv1) b2)).trans (Moved.of_below (Z := RZ yb lv1) hb3))
            have HCB := hide (show wr.heap.size ≤ w2.heap.size from b2.size)
            have HLT1 := hide HX1.out.lt
            have HL4 := hide (show L1.length < 4096 by omega)
            have hl4 : L1.length < 4096 := by omega
            clear hb3 b2 hT2 HT1 HX1 HM1 z0 z1 y0 HB1
            go_wp2
            generalize w2.alloc (.cells #[.int .i64 t.h, .slice ta t.args.length tc] 26) = w3 at *
            generalize w2.heap.size = cb at *
            subst hlv
            have g3 := (Below.refl w3.heap.size w3).drew
            have HX4 := hide (HX3.out.below g3)
            have HK4 := hide ((g3.block _ (Array.getElem?_eq_some_iff.1 HK3.out).1).trans HK3.out)
            have HT4 := hide (HT3.out.below g3)
            have HM4 := hide (HM3.out.trans (Moved.of_below (Z := RZ yb (.slice la L1.length lc)) g3))
            obtain ⟨-, y0, -⟩ := box1 HX4.out.x
            obtain ⟨hcb, z0, z1, -, -⟩ := box2 HK4.out
            refine drawn_pair (fun W' => W'.cell? ⟨cb, 0, none⟩ = some (.int .i64 t.h) ∧ W'.cell? ⟨cb, 1, none⟩ = some (.slice ta t.args.length tc)) (fun W' => W'.cell? ⟨yb, 0, none⟩ = some (.slice la L1.length lc)) 7 (.take 0 (.take 1 (.take 2 (.takeD 3 (.take 4 (.take 5 (.one 6 (.last 7 (.take 8 (.take 10 (.take 11 (.pair 9 (.last 12 .done) 12 (.last 9 .done))))))))))))) (by kernel_rfl) (by kernel_rfl) (by kernel_rfl) (by kernel_rfl) (fun _ _ _ _ _ h => h) ⟨z0, z1⟩ y0 ?_
            clear HX3 HK3 HT3 HM3 g3 y0 z0 z1
            generalize w3.drew = w5 at *
            iterate 3 (refine x_take (v := ?_) rfl (by rfl) ?_ ?_; rotate_left; (intro w hS; obtain ⟨hS1, hS2⟩ := hS; go_simp; try with_reducible rfl); simp only [Act.put, List.setIfInBounds_toArray, List.set_cons_zero, List.set_cons_succ])
            iterate 1 (refine x_takeD (v := ?_) rfl (by rfl) ?_ ?_; rotate_left; (intro w hS; obtain ⟨-, hS1⟩ := hS; go_simp; try with_reducible rfl); simp only [Act.put, List.setIfInBounds_toArray, List.set_cons_zero, List.set_cons_succ])
            iterate 2 (refine x_take (v := ?_) rfl (by rfl) ?_ ?_; rotate_left; (intro w hS; obtain ⟨hS1, hS2⟩ := hS; go_simp; try with_reducible rfl); simp only [Act.put, List.setIfInBounds_toArray, List.set_cons_zero, List.set_cons_succ])
            obtain ⟨hyl, y0, -⟩ := box1 HX4.out.x
            obtain ⟨-, z0, z1, -, -⟩ := box2 HK4.out
            refine x_one rfl (by rfl) ?_
            intro K hK
            go_simp
            refine hK.out _ _ ⟨(World.cell?_alloc_lt _ _ _ hcb).trans z0, (World.cell?_alloc_lt _ _ _ hcb).trans z1⟩ ((World.cell?_alloc_lt _ _ _ hyl).trans y0) ?_
            clear hK K
            refine x_last rfl (by rfl) ?_
            intro K hK
            have HLK := hide (show (L1.map Tm.d).length = L1.length by simp)
            refine app_op2 (.tmp 51) (.tmp 54) 24 rfl base 26 (.agg #[.int .i64 0, .slice none 0 0]) 32 Tryd.underlying24 (by kernel_rfl) rfl (v := .slice la L1.length lc) (d := (Tm.node 0 []).d) rfl rfl HX4.out.r (repTm.2 ⟨_, rfl, Terms.nil _ _⟩) rfl rfl (by rw [HLK.out]; unfold maxLen; omega) (by rw [HLK.out]; omega) (by have := (HX4.out.lt yb (.inl rfl)); omega) ?_
            intro g cap w6 o1 k1 hg hcells
            rw [HLK.out] at o1 hcells ⊢
            obtain ⟨c0, c1, c2, c3⟩ := hcells
            have hgl : g < w6.heap.size := World.block_lt_of_cell? _ _ c0
            have hgcb : cb ≠ g := by
              rintro rfl
              rcases hg with hg | hg
              · have := (HLT1.out _ (.inr hg)).2; have := HCB.out; omega
              · omega
            have hgy : yb ≠ g := by
              rintro rfl
              rcases hg with hg | hg
              · exact HX4.out.ne hg
              · omega
            have hycb : cb ≠ yb := by rintro rfl; have := (HLT1.out _ (.inl rfl)).2; have := HCB.out; omega
            have HK6 := hide (k1.obj (fun e => by have := (HLT1.out _ (.inr e)).2; have := HCB.out; omega) HK4.out)
            have HY6 := hide (k1.obj HX4.out.ne HX4.out.x)
            obtain ⟨-, z0, z1, -, -⟩ := box2 HK6.out
            refine hK.out _ _ ⟨z0, z1⟩ ?_
            clear hK K
            have hmap : L1.map Tm.d ++ [t.d] = (L1 ++ [t]).map Tm.d := by rw [List.map_append]; rfl
            have HD6 := hide (show RepD (fun b => ((A b ∨ b = w.heap.size) ∨ b = yb) ∨ b = g) w6 t.d [.int .i64 t.h, .slice ta t.args.length tc] from
              (show RepD (fun b => (A b ∨ b = w.heap.size) ∨ RZ yb (.slice la L1.length lc) b) w5 t.d [.int .i64 t.h, .slice ta t.args.length tc] from repTm.2 ⟨_, rfl, HT4.out⟩).frame (fun b hb hlt => k1.block b hlt fun h => hb (.inr (.inr h))) fun b hlt hb => by
                rcases hb with (hb | hb) | hb
                · exact .inl hb
                · exact .inr (.inl hb)
                · rcases hg with hg | hg
                  · exact .inr (.inr (hb ▸ hg))
                  · omega)
            have HEND := hide (show ∀ w8, OwnD (fun b => (A b ∨ b = w.heap.size) ∨ b = yb) w8 base 26 2 (.slice (some ⟨g, 0, none⟩) (L1.length + 1) cap) (L1.map Tm.d ++ [t.d]) → w8.heap[yb]? = some (.cells #[(.slice (some ⟨g, 0, none⟩) (L1.length + 1) cap)] 45 (0, 0)) → Keep (fun b => b ≠ g ∧ b ≠ yb) w6 w8 → RBk w8 A yb (L1 ++ [t]) (.slice (some ⟨g, 0, none⟩) (L1.length + 1) cap) base ∧ Moved (RZ yb lv) (RZ yb (.slice (some ⟨g, 0, none⟩) (L1.length + 1) cap)) w w8 from fun w8 h1 h2 h3 =>
              ⟨{ x := h2
                 r := by
                  rw [← hmap]
                  exact h1.bar fun b _ hb => by
                    rcases hb with hb | hb
                    · exact .inl (.inl hb)
                    · exact .inr hb
                 yb0 := HX4.out.yb0
                 ne := fun e => hgy (by simpa [Value.ownBlock] using e.symm)
                 na := fun b hb hz => by
                  rcases hb with rfl | hb
                  · exact HX4.out.na _ (.inl rfl) (.inl hz)
                  · simp only [Value.ownBlock, Option.some.injEq] at hb
                    subst hb
                    rcases hg with hg | hg
                    · exact HX4.out.na _ (.inr hg) (.inl hz)
                    · have := HX4.out.la _ (.inl hz); omega
                 la := fun b hb => by have := HX4.out.la b (.inl hb); have := k1.size; have := h3.size; omega }, HM4.out.trans ⟨⟨h3.os.trans k1.os, h3.tape.trans k1.tape, h3.output.trans k1.output, Nat.le_trans k1.size h3.size, fun b hb hn => by
                  have hbg : b ≠ g := by
                    rintro rfl
                    rcases hg with hg | hg
                    · exact hn (.inr hg)
                    · omega
                  exact (h3.block b (Nat.lt_of_lt_of_le hb k1.size) ⟨hbg, fun e => hn (.inl e)⟩).trans (k1.block b hb fun h => hn (.inr h))⟩, fun b hb => by
                  rcases hb with hb | hb
                  · exact .inl (.inl hb)
                  · simp only [Value.ownBlock, Option.some.injEq] at hb
                    subst hb
                    rcases hg with hg | hg
                    · exact .inl (.inr hg)
                    · exact .inr hg⟩⟩)
            have HO1 := hide o1
            clear o1 k1 hg HX4 HT4 HM4 HK4 HLA HLT HLT1 hmap
            iterate 1 (refine x_take (v := ?_) rfl (by rfl) ?_ ?_; rotate_left; (intro w hS; obtain ⟨hS1, hS2⟩ := hS; go_simp; rw [if_pos (by omega)]); simp only [Act.put, List.setIfInBounds_toArray, List.set_cons_zero, List.set_cons_succ])
            iterate 2 (refine x_take (v := ?_) rfl (by rfl) ?_ ?_; rotate_left; (intro w hS; obtain ⟨hS1, hS2⟩ := hS; go_simp; try with_reducible rfl); simp only [Act.put, List.setIfInBounds_toArray, List.set_cons_zero, List.set_cons_succ])
            refine x_pair rfl rfl (by rfl) (by rfl) ?_ ?_
            · intro K hK
              go_simp
              have HK7 := hide (show ((w6.setCell ⟨g, L1.length * 2, none⟩ (.int .i64 t.h)).setCell ⟨g, L1.length * 2 + 1, none⟩ (.slice ta t.args.length tc)).heap[cb]? = _ from (Below.heap_setCell _ _ _ _ (by show cb ≠ g; exact hgcb)).trans ((Below.heap_setCell _ _ _ _ (by show cb ≠ g; exact hgcb)).trans HK6.out))
              have HY7 := hide (show ((w6.setCell ⟨g, L1.length * 2, none⟩ (.int .i64 t.h)).setCell ⟨g, L1.length * 2 + 1, none⟩ (.slice ta t.args.length tc)).heap[yb]? = _ from (Below.heap_setCell _ _ _ _ (by show yb ≠ g; exact hgy)).trans ((Below.heap_setCell _ _ _ _ (by show yb ≠ g; exact hgy)).trans HY6.out))
              have HO7 := hide (OwnD.put2 HO1.out HLK.out HD6.out)
              have HK67 := hide (show Keep (fun b => b ≠ g ∧ b ≠ yb) w6 ((w6.setCell ⟨g, L1.length * 2, none⟩ (.int .i64 t.h)).setCell ⟨g, L1.length * 2 + 1, none⟩ (.slice ta t.args.length tc)) from ((Keep.refl _ _).setCell (p := ⟨g, L1.length * 2, none⟩) (by simp) (.int .i64 t.h)).setCell (p := ⟨g, L1.length * 2 + 1, none⟩) (by simp) (.slice ta t.args.length tc))
              obtain ⟨-, z0, z1, -, -⟩ := box2 HK7.out
              refine hK.out _ _ ⟨z0, z1⟩ ?_
              clear hK K c0 c1 c2 c3
              generalize (w6.setCell ⟨g, L1.length * 2, none⟩ (.int .i64 t.h)).setCell ⟨g, L1.length * 2 + 1, none⟩ (.slice ta t.args.length tc) = w7 at *
              obtain ⟨y9, y0, y1⟩ := box1 HY7.out
              refine x_last rfl (by rfl) ?_
              intro K hK
              go_simp
              have HK78 := hide (show Keep (fun b => b ≠ yb) w7 (w7.setCell ⟨yb, 0, none⟩ (.slice (some ⟨g, 0, none⟩) (L1.length + 1) cap)) from (Keep.refl _ _).setCell (p := ⟨yb, 0, none⟩) (by simp) (.slice (some ⟨g, 0, none⟩) (L1.length + 1) cap))
              have HK8 := hide (HK78.out.obj hycb HK7.out)
              have HY8 := hide (box1_set (v := (.slice (some ⟨g, 0, none⟩) (L1.length + 1) cap)) HY7.out)
              obtain ⟨HF, HMF⟩ := HEND.out _ (HO7.out.keep HK78.out (fun b _ hb e => hb (.inr e)) fun b hb e => hgy (by simp only [Value.ownBlock, Option.some.injEq] at hb; rw [hb, e])) HY8.out (HK67.out.trans (HK78.out.mono fun b _ h => h.2))
              have HF := hide HF
              have HMF := hide HMF
              obtain ⟨-, z0, z1, -, -⟩ := box2 HK8.out
              refine hK.out _ _ ⟨z0, z1⟩ ?_
              clear hK K
              refine x_done ?_
              obtain ⟨x9, x0, -⟩ := box1 HY8.out
              clear HY7 HK7 HK8 HY6 HK6 HO7 HD6 HK67 HK78 z0 z1 y0 y1 hgy hgcb hgl HEND HO1 y9 hycb
              generalize w7.setCell ⟨yb, 0, none⟩ (.slice (some ⟨g, 0, none⟩) (L1.length + 1) cap) = w8 at *
              go_wp2
              go_ret2
              rw [HPZ.out]
              exact ⟨by simp [numV, errV]; try go_num, _, HF.out, HMF.out⟩
            · intro K hK
              obtain ⟨y9, y0, y1⟩ := box1 HY6.out
              go_simp
              have HK67 := hide (show Keep (fun b => b ≠ yb) w6 (w6.setCell ⟨yb, 0, none⟩ (.slice (some ⟨g, 0, none⟩) (L1.length + 1) cap)) from (Keep.refl _ _).setCell (p := ⟨yb, 0, none⟩) (by simp) (.slice (some ⟨g, 0, none⟩) (L1.length + 1) cap))
              have HK7 := hide (HK67.out.obj hycb HK6.out)
              have HY7 := hide (box1_set (v := (.slice (some ⟨g, 0, none⟩) (L1.length + 1) cap)) HY6.out)
              have HO7 := hide (HO1.out.keep HK67.out (fun b _ hb e => hb (.inr e)) fun b hb e => hgy (by simp only [Value.ownBlock, Option.some.injEq] at hb; rw [hb, e]))
              have HD7 := hide (HD6.out.keep HK67.out fun b _ hb e => hb (.inl (.inr e)))
              have d0 : (w6.setCell ⟨yb, 0, none⟩ (.slice (some ⟨g, 0, none⟩) (L1.length + 1) cap)).cell? ⟨g, L1.length * 2, none⟩ = _ := HK67.out.cell (p := ⟨g, L1.length * 2, none⟩) (fun e => hgy e.symm) c0
              have d1 : (w6.setCell ⟨yb, 0, none⟩ (.slice (some ⟨g, 0, none⟩) (L1.length + 1) cap)).cell? ⟨g, L1.length * 2 + 1, none⟩ = _ := HK67.out.cell (p := ⟨g, L1.length * 2 + 1, none⟩) (fun e => hgy e.symm) c1
              have d2 : (w6.setCell ⟨yb, 0, none⟩ (.slice (some ⟨g, 0, none⟩) (L1.length + 1) cap)).frozen? ⟨g, L1.length * 2, none⟩ = false := by
                obtain ⟨css, q, -⟩ := HO7.out; rw [show (L1.map Tm.d ++ [(Tm.node 0 []).d]).length = L1.length + 1 by simp] at q; have q2 := q.frozenAt (L1.length * 2); simpa using q2
              have d3 : (w6.setCell ⟨yb, 0, none⟩ (.slice (some ⟨g, 0, none⟩) (L1.length + 1) cap)).frozen? ⟨g, L1.length * 2 + 1, none⟩ = false := by
                obtain ⟨css, q, -⟩ := HO7.out; rw [show (L1.map Tm.d ++ [(Tm.node 0 []).d]).length = L1.length + 1 by simp] at q; have q2 := q.frozenAt (L1.length * 2 + 1); simpa using q2
              obtain ⟨-, z0, z1, -, -⟩ := box2 HK7.out
              refine hK.out _ _ ⟨z0, z1⟩ ?_
              clear hK K c0 c1 c2 c3 y0 y1 y9
              generalize w6.setCell ⟨yb, 0, none⟩ (.slice (some ⟨g, 0, none⟩) (L1.length + 1) cap) = w7 at *
              refine x_last rfl (by rfl) ?_
              intro K hK
              go_simp
              have HK78 := hide (show Keep (fun b => b ≠ g) w7 ((w7.setCell ⟨g, L1.length * 2, none⟩ (.int .i64 t.h)).setCell ⟨g, L1.length * 2 + 1, none⟩ (.slice ta t.args.length tc)) from ((Keep.refl _ _).setCell (p := ⟨g, L1.length * 2, none⟩) (by simp) (.int .i64 t.h)).setCell (p := ⟨g, L1.length * 2 + 1, none⟩) (by simp) (.slice ta t.args.length tc))
              have HK8 := hide (HK78.out.obj hgcb HK7.out)
              have HY8 := hide (HK78.out.obj hgy HY7.out)
              obtain ⟨HF, HMF⟩ := HEND.out _ (OwnD.put2 HO7.out HLK.out HD7.out) HY8.out ((HK67.out.mono fun b _ h => h.2).trans (HK78.out.mono fun b _ h => h.1))
              have HF := hide HF
              have HMF := hide HMF
              obtain ⟨-, z0, z1, -, -⟩ := box2 HK8.out
              refine hK.out _ _ ⟨z0, z1⟩ ?_
              clear hK K d0 d1 d2 d3
              refine x_done ?_
              obtain ⟨x9, x0, -⟩ := box1 HY8.out
              clear HY7 HK7 HK8 HY6 HK6 HO7 HD6 HD7 HK67 HK78 z0 z1 hgy hgcb hgl HEND HO1 hycb
              generalize (w7.setCell ⟨g, L1.length * 2, none⟩ (.int .i64 t.h)).setCell ⟨g, L1.length * 2 + 1, none⟩ (.slice ta t.args.length tc) = w8 at *
              go_wp2
              go_ret2
              rw [HPZ.out]
              exact ⟨by simp [numV, errV]; try go_num, _, HF.out, HMF.out⟩
end Go.Proofs.YtefmgooceeigbaaDoor
