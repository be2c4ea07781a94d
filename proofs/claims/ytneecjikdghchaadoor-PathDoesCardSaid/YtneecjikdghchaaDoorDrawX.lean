/- A region that appends a term and fills its place; rows of the call's own written anew. Nothing of the program. -/
import Derived.Laws.OwnMore
import Derived.Test.YtneecjikdghchaaDoorDraw2
import Derived.Test.YtneecjikdghchaaDoorDraw7
import Derived.Test.YtneecjikdghchaaDoorJoin
import Derived.Test.YtneecjikdghchaaDoorPxI
import Derived.Test.YtneecjikdghchaaDoorTSame
set_option linter.unusedSimpArgs false
set_option linter.unusedVariables false
namespace Go.Proofs.YtneecjikdghchaaDoor
section
open Go.RowKit
inductive TrX where
  | done
  | take (i : Nat) (t : TrX)
  | takeD (i : Nat) (t : TrX)
  | one (i : Nat) (t : TrX)
  | last (i : Nat) (t : TrX)
  | two (i : Nat) (t : TrX) (j : Nat) (u : TrX)
  | pair (i : Nat) (t : TrX) (j : Nat) (u : TrX)
def lenX : TrX → Nat
  | .done => 0
  | .take _ t => lenX t + 1
  | .takeD _ t => lenX t + 1
  | .one _ t => lenX t + 1
  | .last _ t => lenX t + 1
  | .two _ t _ _ => lenX t + 1
  | .pair _ t _ _ => lenX t + 1
section
variable {P : Program} {ops : Array Oper} {Q : Exit → Act → World → Prop} {C D : World → Prop} {g : Nat} {md : Region.Mode}
def okX (md : Region.Mode) (ops : Array Oper) (g : Nat) : TrX → Array Bool → Bool
  | .done, l => (Region.ready md ops l).isEmpty
  | .take i t, l => ((Region.ready md ops l).contains i && Region.free md ops l i && i != g) && okX md ops g t (l.setIfInBounds i true)
  | .takeD i t, l => ((Region.ready md ops l).contains i && Region.free md ops l i && i != g && waits md ops g i) && okX md ops g t (l.setIfInBounds i true)
  | .one i t, l => (Region.ready md ops l == [i]) && okX md ops g t (l.setIfInBounds i true)
  | .last i t, l => (Region.ready md ops l == [i] && (l.setIfInBounds i true).getD g true) && okX md ops g t (l.setIfInBounds i true)
  | .two i t j u, l => (Region.ready md ops l == [i, j] || Region.ready md ops l == [j, i]) && (lenX t == lenX u) && okX md ops g t (l.setIfInBounds i true) && okX md ops g u (l.setIfInBounds j true)
  | .pair i t j u, l => (Region.ready md ops l == [i, j] || Region.ready md ops l == [j, i]) && (lenX t == lenX u) && okX md ops g t (l.setIfInBounds i true) && okX md ops g u (l.setIfInBounds j true) && (l.setIfInBounds i true).getD g true && (l.setIfInBounds j true).getD g true
def SeqX (P : Program) (ops : Array Oper) (Q : Exit → Act → World → Prop) (C D : World → Prop) : TrX → Act → World → Prop
  | .done, a, w => Q .normal a w
  | .take i t, a, w => ∃ o v, ops[i]? = some o ∧ YieldsIf P ops C o v a ∧ SeqX P ops Q C D t (a.put o.dst v) w
  | .takeD i t, a, w => ∃ o v, ops[i]? = some o ∧ YieldsIf P ops (fun w => C w ∧ D w) o v a ∧ SeqX P ops Q C D t (a.put o.dst v) w
  | .one i t, a, w => wpOp P ops Q i (fun a' w' => (C w' ∧ D w') ∧ SeqX P ops Q C D t a' w') a w
  | .last i t, a, w => wpOp P ops Q i (fun a' w' => C w' ∧ SeqX P ops Q C D t a' w') a w
  | .two i t j u, a, w => wpOp P ops Q i (fun a' w' => (C w' ∧ D w') ∧ SeqX P ops Q C D t a' w') a w ∧ wpOp P ops Q j (fun a' w' => (C w' ∧ D w') ∧ SeqX P ops Q C D u a' w') a w
  | .pair i t j u, a, w => wpOp P ops Q i (fun a' w' => C w' ∧ SeqX P ops Q C D t a' w') a w ∧ wpOp P ops Q j (fun a' w' => C w' ∧ SeqX P ops Q C D u a' w') a w

theorem anyV_of_treeX (hsel : Region.noSelect ops = true) (hQ : ∀ c t v a w, Q (.panic c) (a.put (some t) v) w → Q (.panic c) a w) :
    ∀ (t : TrX) (l : Array Bool) (a : Act) (w : World), okX md ops g t l = true → WF md ops l → StV C D g l w → SeqX P ops Q C D t a w → AnyV P md ops Q C D g (lenX t) l a w
  | .done, l, a, w, h, _, _, hs => ⟨by simpa [okX] using h, hs⟩
  | .take i t, l, a, w, h, hwf, hS, ⟨o, v, ho, hy, hs⟩ => by
    simp only [okX, Bool.and_eq_true, bne_iff_ne] at h
    have hm : i ∈ Region.ready md ops l := by simpa using h.1.1.1
    refine AnyV.first (E := C) ho (Region.noSelect_spec hsel) (fun c a w h9 => ?_) h.1.2 (fun l w _ _ hS => hS.1) _ l a w hwf (Region.free_spec ho h.1.1.2) hm hy hS (anyV_of_treeX hsel hQ t _ _ w h.2 (hwf.set hm) (hS.more i) hs)
    cases hd : o.dst with
    | none => rw [hd] at h9; exact h9
    | some t => rw [hd] at h9; exact hQ c t v a w h9
  | .takeD i t, l, a, w, h, hwf, hS, ⟨o, v, ho, hy, hs⟩ => by
    simp only [okX, Bool.and_eq_true, bne_iff_ne] at h
    have hm : i ∈ Region.ready md ops l := by simpa using h.1.1.1.1
    refine AnyV.first (E := fun w => C w ∧ D w) ho (Region.noSelect_spec hsel) (fun c a w h9 => ?_) h.1.1.2 (fun l w hwf hr hS => ⟨hS.1, hS.2 (unlisted_of_waits h.1.2 hwf hr)⟩) _ l a w hwf (Region.free_spec ho h.1.1.1.2) hm hy hS (anyV_of_treeX hsel hQ t _ _ w h.2 (hwf.set hm) (hS.more i) hs)
    cases hd : o.dst with
    | none => rw [hd] at h9; exact h9
    | some t => rw [hd] at h9; exact hQ c t v a w h9
  | .one i t, l, a, w, h, hwf, hS, hs => by
    simp only [okX, Bool.and_eq_true, beq_iff_eq] at h
    simp only [SeqX] at hs
    have hm : i ∈ Region.ready md ops l := by rw [h.1]; simp
    refine ⟨fun h0 => (by rw [h0] at hm; cases hm), fun j hj => ?_⟩
    rw [h.1] at hj
    simp only [List.mem_singleton] at hj
    subst hj
    refine wpOp_mono (fun a' w' h' => ?_) hs
    have hS' : StV C D g (l.setIfInBounds j true) w' := ⟨h'.1.1, fun _ => h'.1.2⟩
    exact ⟨hS', anyV_of_treeX hsel hQ t _ a' w' h.2 (hwf.set hm) hS' h'.2⟩
  | .last i t, l, a, w, h, hwf, hS, hs => by
    simp only [okX, Bool.and_eq_true, beq_iff_eq] at h
    simp only [SeqX] at hs
    have hm : i ∈ Region.ready md ops l := by rw [h.1.1]; simp
    refine ⟨fun h0 => (by rw [h0] at hm; cases hm), fun j hj => ?_⟩
    rw [h.1.1] at hj
    simp only [List.mem_singleton] at hj
    subst hj
    refine wpOp_mono (fun a' w' h' => ?_) hs
    have hS' : StV C D g (l.setIfInBounds j true) w' := ⟨h'.1, fun h9 => by rw [h.1.2] at h9; cases h9⟩
    exact ⟨hS', anyV_of_treeX hsel hQ t _ a' w' h.2 (hwf.set hm) hS' h'.2⟩
  | .two i t j u, l, a, w, h, hwf, hS, hs => by
    simp only [okX, Bool.and_eq_true, Bool.or_eq_true, beq_iff_eq] at h
    simp only [SeqX] at hs
    have hij : i ∈ Region.ready md ops l ∧ j ∈ Region.ready md ops l ∧ ∀ k ∈ Region.ready md ops l, k = i ∨ k = j := by
      rcases h.1.1.1 with h1 | h1
      · rw [h1]; simp
      · rw [h1]; simp
    refine ⟨fun h0 => (by rw [h0] at hij; cases hij.1), fun k hk => ?_⟩
    rcases hij.2.2 k hk with rfl | rfl
    · refine wpOp_mono (fun a' w' h' => ?_) hs.1
      have hS' : StV C D g (l.setIfInBounds k true) w' := ⟨h'.1.1, fun _ => h'.1.2⟩
      exact ⟨hS', anyV_of_treeX hsel hQ t _ a' w' h.1.2 (hwf.set hk) hS' h'.2⟩
    · refine wpOp_mono (fun a' w' h' => ?_) hs.2
      have hS' : StV C D g (l.setIfInBounds k true) w' := ⟨h'.1.1, fun _ => h'.1.2⟩
      have := anyV_of_treeX hsel hQ u _ a' w' h.2 (hwf.set hk) hS' h'.2
      rw [← h.1.1.2] at this
      exact ⟨hS', this⟩
  | .pair i t j u, l, a, w, h, hwf, hS, hs => by
    simp only [okX, Bool.and_eq_true, Bool.or_eq_true, beq_iff_eq] at h
    simp only [SeqX] at hs
    have hij : i ∈ Region.ready md ops l ∧ j ∈ Region.ready md ops l ∧ ∀ k ∈ Region.ready md ops l, k = i ∨ k = j := by
      rcases h.1.1.1.1.1 with h1 | h1
      · rw [h1]; simp
      · rw [h1]; simp
    refine ⟨fun h0 => (by rw [h0] at hij; cases hij.1), fun k hk => ?_⟩
    rcases hij.2.2 k hk with rfl | rfl
    · refine wpOp_mono (fun a' w' h' => ?_) hs.1
      have hS' : StV C D g (l.setIfInBounds k true) w' := ⟨h'.1, fun h9 => by rw [h.1.2] at h9; cases h9⟩
      exact ⟨hS', anyV_of_treeX hsel hQ t _ a' w' h.1.1.1.2 (hwf.set hk) hS' h'.2⟩
    · refine wpOp_mono (fun a' w' h' => ?_) hs.2
      have hS' : StV C D g (l.setIfInBounds k true) w' := ⟨h'.1, fun h9 => by rw [h.2] at h9; cases h9⟩
      have := anyV_of_treeX hsel hQ u _ a' w' h.1.1.2 (hwf.set hk) hS' h'.2
      rw [← h.1.1.1.1.2] at this
      exact ⟨hS', this⟩

theorem drawn_pair {id : Nat} {a : Act} {w : World} (C D : World → Prop) (g : Nat) (t : TrX) (hm : P.follows .mixedOrders = true) (hn : (lenX t == ops.size) = true) (hsel : Region.noSelect ops = true)
    (hok : okX .any ops g t (Array.replicate ops.size false) = true) (hQ : ∀ c t v a w, Q (.panic c) (a.put (some t) v) w → Q (.panic c) a w) (hC : C w.drew) (hD : D w.drew) (h : SeqX P ops Q C D t a w.drew) : (Code.region id ops true).wp P Q a w := by
  have h1 := anyV_of_treeX (g := g) hsel hQ t _ a w.drew hok WF.start ⟨hC, fun _ => hD⟩ h
  rw [beq_iff_eq.1 hn] at h1
  exact wp_region_any hm (AnyV.plain _ _ _ _ h1)

variable {os : List Oper} {i j : Nat} {t u : TrX} {o o2 : Oper} {v : Value} {a : Act} {w : World}
theorem x_take (ho : os[i]? = some o) (hw : Region.wanted o (yielded os.toArray a.tmps) = true) (hv : ∀ w, C w → (execOp a.eval o).run P w = .ok (.value v) w) (h : SeqX P os.toArray Q C D t (a.put o.dst v) w) : SeqX P os.toArray Q C D (.take i t) a w :=
  ⟨o, v, by simpa using ho, .inl ⟨hw, hv⟩, h⟩
theorem x_takeD (ho : os[i]? = some o) (hw : Region.wanted o (yielded os.toArray a.tmps) = true) (hv : ∀ w, C w ∧ D w → (execOp a.eval o).run P w = .ok (.value v) w) (h : SeqX P os.toArray Q C D t (a.put o.dst v) w) : SeqX P os.toArray Q C D (.takeD i t) a w :=
  ⟨o, v, by simpa using ho, .inl ⟨hw, hv⟩, h⟩
theorem x_one (ho : os[i]? = some o) (hw : Region.wanted o (yielded os.toArray a.tmps) = true)
    (h : ∀ K' : Act → World → Prop, Hid (∀ a w, C w → D w → SeqX P os.toArray Q C D t a w → K' a w) → Oper.wp P o a w K' Q) : SeqX P os.toArray Q C D (.one i t) a w := by
  simp only [SeqX]
  exact wpOp_step (ops := os.toArray) (o := o) (by simpa using ho) fun K' hK => by rw [if_pos hw]; exact h K' (hide fun a w h1 h2 h3 => hK a w ⟨⟨h1, h2⟩, h3⟩)
theorem x_last (ho : os[i]? = some o) (hw : Region.wanted o (yielded os.toArray a.tmps) = true)
    (h : ∀ K' : Act → World → Prop, Hid (∀ a w, C w → SeqX P os.toArray Q C D t a w → K' a w) → Oper.wp P o a w K' Q) : SeqX P os.toArray Q C D (.last i t) a w := by
  simp only [SeqX]
  exact wpOp_step (ops := os.toArray) (o := o) (by simpa using ho) fun K' hK => by rw [if_pos hw]; exact h K' (hide fun a w h1 h3 => hK a w ⟨h1, h3⟩)
theorem x_two (ho : os[i]? = some o) (ho2 : os[j]? = some o2) (hw : Region.wanted o (yielded os.toArray a.tmps) = true) (hw2 : Region.wanted o2 (yielded os.toArray a.tmps) = true)
    (h : ∀ K' : Act → World → Prop, Hid (∀ a w, C w → D w → SeqX P os.toArray Q C D t a w → K' a w) → Oper.wp P o a w K' Q)
    (h2 : ∀ K' : Act → World → Prop, Hid (∀ a w, C w → D w → SeqX P os.toArray Q C D u a w → K' a w) → Oper.wp P o2 a w K' Q) : SeqX P os.toArray Q C D (.two i t j u) a w := by
  simp only [SeqX]
  exact ⟨wpOp_step (ops := os.toArray) (o := o) (by simpa using ho) fun K' hK => by rw [if_pos hw]; exact h K' (hide fun a w h1 h2 h3 => hK a w ⟨⟨h1, h2⟩, h3⟩),
    wpOp_step (ops := os.toArray) (o := o2) (by simpa using ho2) fun K' hK => by rw [if_pos hw2]; exact h2 K' (hide fun a w h1 h2 h3 => hK a w ⟨⟨h1, h2⟩, h3⟩)⟩
theorem x_pair (ho : os[i]? = some o) (ho2 : os[j]? = some o2) (hw : Region.wanted o (yielded os.toArray a.tmps) = true) (hw2 : Region.wanted o2 (yielded os.toArray a.tmps) = true)
    (h : ∀ K' : Act → World → Prop, Hid (∀ a w, C w → SeqX P os.toArray Q C D t a w → K' a w) → Oper.wp P o a w K' Q)
    (h2 : ∀ K' : Act → World → Prop, Hid (∀ a w, C w → SeqX P os.toArray Q C D u a w → K' a w) → Oper.wp P o2 a w K' Q) : SeqX P os.toArray Q C D (.pair i t j u) a w := by
  simp only [SeqX]
  exact ⟨wpOp_step (ops := os.toArray) (o := o) (by simpa using ho) fun K' hK => by rw [if_pos hw]; exact h K' (hide fun a w h1 h3 => hK a w ⟨h1, h3⟩),
    wpOp_step (ops := os.toArray) (o := o2) (by simpa using ho2) fun K' hK => by rw [if_pos hw2]; exact h2 K' (hide fun a w h1 h3 => hK a w ⟨h1, h3⟩)⟩
theorem x_done (h : Q .normal a w) : SeqX P os.toArray Q C D .done a w := h
end
end
open Go.RowKit
section
variable {P : Program} {W : World} {o : Oper} {a : Act} {K : Act → World → Prop} {Q : Exit → Act → World → Prop} {A : Nat → Prop}
theorem app_op2 (s x : Operand) (t : TypeId) (ho : o.op = .call { callee := .builtin .append, args := #[s, x], argTypes := #[t, t] }) (base : Nat) (e : TypeId) (z : Value) (bytes : Nat)
    (ht : P.underlying t = some (.slice e)) (hinfo : (P.info? e).map (fun i => (i.zero, i.size, i.bytes)) = some (some z, 2, bytes)) (hzs : z.cells.size = 2)
    {v : Value} {ds : List D} {d : D} {c1 c2 : Value} (hs : a.eval s = v) (hx : a.eval x = .slice (some ⟨W.heap.size, 0, none⟩) 1 1) (hown : OwnD A W base e 2 v ds) (hd : RepD (fun b => A b ∨ v.ownBlock = some b) W d [c1, c2])
    (h1 : c1.oneCell' = true) (h2 : c2.oneCell' = true) (hn : ds.length + 1 ≤ maxLen) (hbytes : (ds.length + 1) * bytes ≤ 140737488355328) (hbase : base ≤ W.heap.size)
    (h : ∀ g cap w', OwnD A w' base e 2 (.slice (some ⟨g, 0, none⟩) (ds.length + 1) cap) (ds ++ [d]) → Keep (fun b => v.ownBlock ≠ some b) W w' → (v.ownBlock = some g ∨ W.heap.size ≤ g) → w'.cell? ⟨g, ds.length * 2, none⟩ = some c1 ∧ w'.cell? ⟨g, ds.length * 2 + 1, none⟩ = some c2 ∧ w'.frozen? ⟨g, ds.length * 2, none⟩ = false ∧ w'.frozen? ⟨g, ds.length * 2 + 1, none⟩ = false → K (a.put o.dst (.slice (some ⟨g, 0, none⟩) (ds.length + 1) cap)) w') :
    Oper.wp P o a (W.alloc (.cells #[c1, c2] e)) K Q := by
  obtain ⟨i, hi, hz⟩ := Option.map_eq_some_iff.1 hinfo
  simp only [Prod.mk.injEq] at hz
  obtain ⟨hz0, hz1, hz2⟩ := hz
  obtain ⟨css, g1, g2, g3⟩ := hown
  refine wp_append_lies _ s x t ho base e i z 2 bytes ht hi hz0 hz1 hz2 hzs (by omega) v ds.length css.flatten hs (g1.alloc _) ⟨W.heap.size, 0, none⟩ 1 1 [c1, c2] hx rfl
    (World.news_of_block (cs := #[c1, c2]) (World.alloc_heap_new _ _)) (by simp [h1, h2]) (by omega) hn hbytes (by simp; omega) (W.heap.size + 1) (by simp) ?_
  intro g cap w' r1 r2 r3 r4
  have hk : Keep (fun b => v.ownBlock ≠ some b) W w' := ((Keep.refl _ _).alloc _).grown r2 (fun k hk h => h hk)
  have hf : ∀ c d, RepD (fun b => A b ∨ v.ownBlock = some b) W d c → RepD (fun b => A b ∨ (Value.slice (some ⟨g, 0, none⟩) (ds.length + 1) cap).ownBlock = some b) w' d c := fun c d h => h.frame (fun b hb hlt => hk.block b hlt (fun h => hb (.inr h))) (fun b hb h => by
    rcases h with h | h
    · exact .inl h
    · have e1 : g = b := by simpa [Value.ownBlock] using h
      rcases r3 with r3 | r3
      · exact .inr (by rw [r3, e1])
      · omega)
  have hfl : css.flatten.length = ds.length * 2 := by rw [flat_length g2, g3.length]
  refine h g cap w' ⟨css ++ [[c1, c2]], by simpa using r1, fun c hc => ?_, (g3.imp hf).append (.cons (hf _ _ hd) .nil)⟩ hk (by
    rcases r3 with r3 | r3
    · exact .inl r3
    · exact .inr (by omega)) ⟨?_, ?_, r1.frozenAt _, r1.frozenAt _⟩
  · rcases List.mem_append.1 hc with h | h
    · exact g2 c h
    · simp at h; rw [h]; rfl
  · rw [r1.cellAt _ (by omega), List.getElem?_append_right (by omega), hfl]; simp
  · rw [r1.cellAt _ (by omega), List.getElem?_append_right (by omega), hfl]; simp
end
/-- The last of a row of the call's own, written anew. -/
theorem OwnD.put2 {A : Nat → Prop} {W : World} {base e g n cap : Nat} {ds : List D} {d0 d : D} {c0 c1 : Value} (h : OwnD A W base e 2 (.slice (some ⟨g, 0, none⟩) (n + 1) cap) (ds ++ [d0])) (hn : ds.length = n) (hd : RepD (fun b => A b ∨ b = g) W d [c0, c1]) :
    OwnD A ((W.setCell ⟨g, n * 2, none⟩ c0).setCell ⟨g, n * 2 + 1, none⟩ c1) base e 2 (.slice (some ⟨g, 0, none⟩) (n + 1) cap) (ds ++ [d]) := by
  obtain ⟨css, h1, h2, h3⟩ := h
  obtain ⟨css', cs, rfl, h4, h5⟩ := h3.unsnoc
  have hlen : css'.length = ds.length := h4.length
  have hl' : ∀ c, c ∈ css' → c.length = 2 := fun c hc => h2 c (by simp [hc])
  have hcs : cs.length = 2 := h2 cs (by simp)
  have hfl : css'.flatten.length = n * 2 := by rw [flat_length hl', hlen, hn]
  have hl9 : (ds ++ [d0]).length = n + 1 := by simp [hn]
  rw [hl9] at h1
  have s1 := ((h1.stored (n * 2) c0).1.stored (n * 2 + 1) c1).1
  have hset : ((css' ++ [cs]).flatten.set (n * 2) c0).set (n * 2 + 1) c1 = (css' ++ [[c0, c1]]).flatten := by
    match cs, hcs with
    | [x, y], _ =>
      simp only [List.flatten_append, List.flatten_cons, List.flatten_nil, List.append_nil]
      rw [List.set_append_right _ _ (by omega), List.set_append_right _ _ (by omega), hfl]
      simp
  rw [hset] at s1
  have hk : Keep (fun b => b ≠ g) W ((W.setCell ⟨g, n * 2, none⟩ c0).setCell ⟨g, n * 2 + 1, none⟩ c1) := ((Keep.refl _ _).setCell (p := ⟨g, n * 2, none⟩) (by simp) c0).setCell (p := ⟨g, n * 2 + 1, none⟩) (by simp) c1
  have hf : ∀ c q, RepD (fun b => A b ∨ b = g) W q c → RepD (fun b => A b ∨ (Value.slice (some ⟨g, 0, none⟩) (n + 1) cap).ownBlock = some b) ((W.setCell ⟨g, n * 2, none⟩ c0).setCell ⟨g, n * 2 + 1, none⟩ c1) q c := fun c q h => h.frame (fun b hb hlt => hk.block b hlt fun e => hb (.inr e)) fun b hlt h => by
    rcases h with h | h
    · exact .inl h
    · simp only [Value.ownBlock, Option.some.injEq] at h; exact .inr h.symm
  refine ⟨css' ++ [[c0, c1]], by simpa [hn] using s1, fun c hc => ?_, (h4.imp fun c q h => hf c q (h.bar fun b _ hb => ?_)).append (.cons (hf _ _ hd) .nil)⟩
  · rcases List.mem_append.1 hc with h | h
    · exact hl' c h
    · simp at h; rw [h]; rfl
  · rcases hb with hb | rfl
    · exact .inl hb
    · exact .inr (by simp [Value.ownBlock])

/-- Kept in a later world, barred otherwise. -/
theorem OwnD.step {A B S : Nat → Prop} {w w' : World} {base e k : Nat} {v : Value} {ds : List D} (h : OwnD A w base e k v ds) (hk : Keep S w w') (hS : ∀ b, b < w.heap.size → ¬ A b → S b) (hv : ∀ b, v.ownBlock = some b → S b) (hB : ∀ b, b < w.heap.size → B b → A b) : OwnD B w' base e k v ds := by
  obtain ⟨css, h1, h2, h3⟩ := h
  exact ⟨css, ownsRow_keep h1 hk hv, h2, h3.imp fun cs d hd => hd.frame (fun b hb hlt => hk.block b hlt (hS b hlt (fun h => hb (.inl h)))) (fun b hlt hb => by
    rcases hb with hb | hb
    · exact .inl (hB b hlt hb)
    · exact .inr hb)⟩
/-- A step: what was written is of Z, or new. -/
def Moved (Z Z' : Nat → Prop) (w w' : World) : Prop := Keep (fun b => ¬ Z b) w w' ∧ ∀ b, Z' b → Z b ∨ w.heap.size ≤ b
section
variable {w w' : World} {Z Z' : Nat → Prop}
theorem Moved.of_below (h : Below w.heap.size w w') : Moved Z Z w w' := ⟨Keep.of_below h, fun b h => .inl h⟩
theorem Moved.refl (Z : Nat → Prop) (w : World) : Moved Z Z w w := ⟨Keep.refl _ _, fun b h => .inl h⟩
theorem Moved.trans {Z1 Z2 Z3 : Nat → Prop} {w1 w2 w3 : World} (h : Moved Z1 Z2 w1 w2) (k : Moved Z2 Z3 w2 w3) : Moved Z1 Z3 w1 w3 := by
  refine ⟨⟨k.1.os.trans h.1.os, k.1.tape.trans h.1.tape, k.1.output.trans h.1.output, Nat.le_trans h.1.size k.1.size, fun b hb hn => ?_⟩, fun b hb => ?_⟩
  · refine (k.1.block b (Nat.lt_of_lt_of_le hb h.1.size) fun h9 => ?_).trans (h.1.block b hb hn)
    rcases h.2 b h9 with h9 | h9
    · exact hn h9
    · omega
  · rcases k.2 b hb with h9 | h9
    · exact h.2 b h9
    · exact .inr (Nat.le_trans h.1.size h9)
theorem Moved.rep (h : Moved Z Z' w w') {d : D} {cs : List Value} (hd : RepD Z w d cs) : RepD Z' w' d cs :=
  hd.frame (fun b hb hlt => h.1.block b hlt hb) (fun b hlt hb => by
    rcases h.2 b hb with h9 | h9
    · exact h9
    · omega)
theorem Moved.terms (h : Moved Z Z' w w') {s : Value} {ts : List Tm} (hd : Terms Z w s ts) : Terms Z' w' s ts := h.rep hd
theorem Moved.under {base : Nat} (h : Moved Z Z' w w') (hlt : ∀ b, Z b → base ≤ b) (hb : base ≤ w.heap.size) : Below base w w' :=
  h.1.below (fun b hb' hz => by have := hlt b hz; omega) hb
theorem Moved.obj (h : Moved Z Z' w w') {b : Nat} {o : Obj} (hb : ¬ Z b) (ho : w.heap[b]? = some o) : w'.heap[b]? = some o ∧ ¬ Z' b := by
  refine ⟨h.1.obj hb ho, fun hz => ?_⟩
  rcases h.2 b hz with h9 | h9
  · exact hb h9
  · have := (Array.getElem?_eq_some_iff.1 ho).1; omega
end

theorem Moved.weak {Z Z' X : Nat → Prop} {w w' : World} (h : Moved Z Z' w w') (hX : ∀ b, Z b → X b) : Keep (fun b => ¬ X b) w w' := h.1.mono fun b _ hz hb => hz (hX b hb)

def atG (id : Int) : List Int → Int → Int
  | [], _ => -1
  | y :: r, k => if y = id then k else atG id r (k + 1)
def atI (ids : List Int) (id : Int) : Int := atG id ids 0
theorem atG_drop (ids : List Int) (id : Int) (j : Nat) (h : j < ids.length) : atG id (ids.drop j) j = if ids[j] = id then (j : Int) else atG id (ids.drop (j + 1)) ((j + 1 : Nat) : Int) := by
  rw [List.drop_eq_getElem_cons h, atG]; rfl
theorem take_len {α : Type} (l : List α) (k : Nat) (h : k ≤ l.length) : (l.take k).length = k := by rw [List.length_take]; omega
theorem erase_same {α : Type} (l : List α) (k : Nat) (h : k < l.length) : (l.take (k + 1)).eraseIdx k = (l.take k).eraseIdx k := by
  have h1 := take_len l k (by omega)
  rw [List.take_succ_eq_append_getElem h, List.eraseIdx_append_of_length_le (by omega), List.eraseIdx_of_length_le (l := l.take k) (by omega), h1, Nat.sub_self]
  simp
theorem erase_step {α : Type} (l : List α) (j k : Nat) (h : j < l.length) (hne : j ≠ k) : (l.take (j + 1)).eraseIdx k = (l.take j).eraseIdx k ++ [l[j]] := by
  have h1 := take_len l j (by omega)
  rw [List.take_succ_eq_append_getElem h]
  by_cases hk : k < j
  · rw [List.eraseIdx_append_of_lt_length (by omega)]
  · rw [List.eraseIdx_append_of_length_le (by omega), List.eraseIdx_of_length_le (l := l.take j) (by omega), h1]
    obtain ⟨m, hm⟩ : ∃ m, k - j = m + 1 := ⟨k - j - 1, by omega⟩
    rw [hm]; simp
theorem atG_range (id : Int) : ∀ (l : List Int) (k : Int), 0 ≤ k → atG id l k = -1 ∨ (k ≤ atG id l k ∧ atG id l k < k + l.length)
  | [], k, _ => .inl rfl
  | y :: r, k, h => by
    rw [atG]
    split
    · exact .inr ⟨Int.le_refl _, by simp only [List.length_cons]; omega⟩
    · rcases atG_range id r (k + 1) (by omega) with h1 | h1
      · exact .inl h1
      · exact .inr ⟨by omega, by simp only [List.length_cons]; omega⟩
theorem atI_range (ids : List Int) (id : Int) : atI ids id = -1 ∨ (0 ≤ atI ids id ∧ atI ids id < ids.length) := by
  have := atG_range id ids 0 (Int.le_refl _)
  simpa [atI] using this
theorem ownsRow_base {w : World} {base base' e k n : Nat} {v : Value} {xs : List Value} (h : w.ownsRow base e k v n xs) (hb : base' ≤ base) : w.ownsRow base' e k v n xs := by
  refine ⟨h.1, ?_⟩
  rcases h.2 with h2 | ⟨g, cap, cur, q1, q2, q3⟩
  · exact .inl h2
  · exact .inr ⟨g, cap, cur, q1, by omega, q3⟩
theorem OwnD.base {A : Nat → Prop} {w : World} {base base' e k : Nat} {v : Value} {ds : List D} (h : OwnD A w base e k v ds) (hb : base' ≤ base) : OwnD A w base' e k v ds := by
  obtain ⟨css, h1, h2, h3⟩ := h
  exact ⟨css, ownsRow_base h1 hb, h2, h3⟩
end Go.Proofs.YtneecjikdghchaaDoor
