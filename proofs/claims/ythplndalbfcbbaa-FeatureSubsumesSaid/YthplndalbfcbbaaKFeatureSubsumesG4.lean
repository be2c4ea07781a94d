/- What the proof of the law rests on: contracts of the functions, plain laws, and words. -/
import Derived.Laws.OwnMore
import Derived.Maps.OwnIn
import Derived.Maps.AppendAt
import Derived.Deep.LoopGhost
import Derived.WalkSmall
import Derived.Test.YthplndalbfcbbaaKFeatureSubsumesG2
import Derived.Test.YthplndalbfcbbaaKFeatureSubsumesG3
import Derived.Test.YthplndalbfcbbaaKFeatureSubsumesG0
set_option linter.unusedSimpArgs false
set_option linter.unusedVariables false
namespace Go.Proofs.Ythplndalbfcbbaa
open Go.RowKit
def OneD (d : D) : Prop := ∀ A w cs, RepD A w d cs → ∀ u, u ∈ cs → u.oneCell' = true
theorem Tm.oneD (t : Tm) : OneD t.d := by
  intro A w cs h u hu
  obtain ⟨s, rfl, hs⟩ := repTm.1 h
  obtain ⟨a, c, rfl, _⟩ := hs.shape
  simp at hu
  rcases hu with rfl | rfl <;> rfl
theorem RepR.un {A : Nat → Prop} {w : World} {b k : Nat} : ∀ (ds : List D) (off : Nat), RepR A w b k off ds →
    ∃ css : List (List Value), (∀ cs, cs ∈ css → cs.length = k) ∧ All2 (fun cs d => RepD A w d cs) css ds ∧ ∀ j, j < css.flatten.length → w.cell? ⟨b, off + j, none⟩ = css.flatten[j]?
  | [], off, _ => ⟨[], by simp, .nil, by simp⟩
  | d :: ds, off, h => by
    simp only [RepR] at h
    obtain ⟨⟨cs, h1, h2, h3⟩, h4⟩ := h
    obtain ⟨css, g1, g2, g3⟩ := RepR.un ds (off + k) h4
    refine ⟨cs :: css, fun c hc => ?_, .cons h3 g2, fun j hj => ?_⟩
    · rcases List.mem_cons.1 hc with rfl | hc
      · exact h1
      · exact g1 c hc
    · rw [List.flatten_cons] at hj ⊢
      rw [List.length_append] at hj
      by_cases hk : j < k
      · rw [List.getElem?_append_left (by omega)]; exact h2 j hk
      · rw [List.getElem?_append_right (by omega), h1]
        have := g3 (j - k) (by omega)
        rwa [show off + k + (j - k) = off + j by omega] at this
theorem All2.flat {A : Nat → Prop} {w : World} {css : List (List Value)} {ds : List D} (h : All2 (fun cs d => RepD A w d cs) css ds) (h1 : ∀ d, d ∈ ds → OneD d) : ∀ u, u ∈ css.flatten → u.oneCell' = true := by
  induction h with
  | nil => simp
  | cons h _ ih =>
    intro u hu
    rw [List.flatten_cons] at hu
    rcases List.mem_append.1 hu with hu | hu
    · exact h1 _ (by simp) _ _ _ h u hu
    · exact ih (fun d hd => h1 d (by simp [hd])) u hu
theorem flat_length {css : List (List Value)} {k : Nat} (h : ∀ cs, cs ∈ css → cs.length = k) : css.flatten.length = css.length * k := by
  induction css with
  | nil => simp
  | cons c css ih => rw [List.flatten_cons, List.length_append, h c (by simp), ih (fun cs hc => h cs (by simp [hc])), List.length_cons, Nat.succ_mul]; omega
section
variable {P : Program} {W : World}
theorem run_append_nothing (base : Nat) (t ty e : TypeId) (i : TypeInfo) (size : Nat) (ht : P.underlying t = some (.slice e)) (hi : P.info? e = some i)
    (v : Value) (n : Nat) (xs : List Value) (hown : W.ownsRow base e size v n xs) (c : Nat) :
    (Builtin.append_ #[t, t] ty #[v, .slice none 0 c]).run P W = .ok v W := by
  rcases hown.2 with ⟨rfl, rfl⟩ | ⟨g, cap, cur, rfl, _, _, hnc, _⟩
  · simp [Builtin.append_, run_underlying ht, sizeOf, typeInfo, hi, Builtin.lenOf, Builtin.firstCells]
  · simp [Builtin.append_, run_underlying ht, sizeOf, typeInfo, hi, Builtin.lenOf, Builtin.firstCells, hnc, storeCells]
theorem run_app_all (t ty : TypeId) (base : Nat) (e : TypeId) (z : Value) (k bytes : Nat)
    (ht : P.underlying t = some (.slice e)) (hinfo : (P.info? e).map (fun i => (i.zero, i.size, i.bytes)) = some (some z, k, bytes)) (hzs : z.cells.size = k) (hk : 0 < k)
    {A : Nat → Prop} {v x : Value} {ds ds2 : List D} (hown : OwnD A W base e k v ds) (hd : RepD (fun b => A b ∨ v.ownBlock = some b) W (.row k ds2) [x])
    (h1 : ∀ d, d ∈ ds2 → OneD d) (hn : ds.length + ds2.length ≤ maxLen) (hbytes : (ds.length + ds2.length) * bytes ≤ 140737488355328) (hbase : base ≤ W.heap.size) :
    ∃ v' w', (Builtin.append_ #[t, t] ty #[v, x]).run P W = .ok v' w' ∧ OwnD A w' base e k v' (ds ++ ds2) ∧ Keep (fun b => v.ownBlock ≠ some b) W w' ∧
      (∀ b, v'.ownBlock = some b → v.ownBlock = some b ∨ b = W.heap.size) ∧ (∃ ad cap, v' = .slice ad (ds.length + ds2.length) cap) := by
  obtain ⟨i, hi, hz⟩ := Option.map_eq_some_iff.1 hinfo
  simp only [Prod.mk.injEq] at hz
  obtain ⟨hz0, hz1, hz2⟩ := hz
  obtain ⟨css, g1, g2, g3⟩ := hown
  simp only [RepD] at hd
  obtain ⟨a, n, c, hx, rfl, _, _, hr⟩ := hd
  simp only [List.cons.injEq, and_true] at hx
  subst hx
  -- the source
  have hsrc : (a = none ∧ ds2 = []) ∨ ∃ ad css2, a = some ad ∧ (∀ cs, cs ∈ css2 → cs.length = k) ∧ All2 (fun cs d => RepD (fun b => A b ∨ v.ownBlock = some b) W d cs) css2 ds2 ∧ ∀ j u, css2.flatten[j]? = some u → W.cell? (ad.add j) = some u := by
    rcases Nat.eq_zero_or_pos ds2.length with h0 | h0
    · have hd0 : ds2 = [] := List.eq_nil_of_length_eq_zero h0
      subst hd0
      cases a with
      | none => exact .inl ⟨rfl, rfl⟩
      | some ad => exact .inr ⟨ad, [], rfl, by simp, .nil, by simp⟩
    · obtain ⟨b, off, ha, hs, hb, hr⟩ := hr h0
      obtain ⟨css2, k1, k2, k3⟩ := RepR.un _ _ hr
      refine .inr ⟨_, css2, ha, k1, k2, fun j u hj => ?_⟩
      have hj' : j < css2.flatten.length := (List.getElem?_eq_some_iff.1 hj).1
      have e1 : (⟨b, off, none⟩ : Addr).add j = ⟨b, off + j, none⟩ := by unfold Addr.add; split <;> simp_all
      rw [e1, k3 j hj', hj]
  rcases hsrc with ⟨rfl, rfl⟩ | ⟨ad, css2, rfl, k1, k2, k3⟩
  · have hr := run_append_nothing (P := P) base t ty e i k ht hi v ds.length css.flatten g1 c
    refine ⟨v, W, hr, ?_, Keep.refl _ _, fun b hb => .inl hb, ?_⟩
    · rw [List.append_nil]; exact ⟨css, g1, g2, g3⟩
    · exact OwnD.shape (A := A) ⟨css, g1, g2, g3⟩
  · have hl2 : css2.flatten.length = ds2.length * k := by rw [flat_length k1, k2.length]
    obtain ⟨v', w', hr, r1, r2, _, r4⟩ := run_append_own_at (P := P) W base t ty e i z k bytes ht hi hz0 hz1 hz2 hzs hk v ds.length css.flatten g1 ad ds2.length c css2.flatten hl2 k3 (k2.flat h1) hn hbytes hbase
    have hkp : Keep (fun b => v.ownBlock ≠ some b) W w' := (Keep.refl _ _).grown r2 (fun k hk h => h hk)
    have r4' : ∀ b, v'.ownBlock = some b → v.ownBlock = some b ∨ b = W.heap.size := fun b hb => by
      rcases r4 with h | h
      · exact .inl (by rw [← h]; exact hb)
      · rw [h] at hb; cases hb; exact .inr rfl
    have hf : ∀ c d, RepD (fun b => A b ∨ v.ownBlock = some b) W d c → RepD (fun b => A b ∨ v'.ownBlock = some b) w' d c := fun c d h => h.frame (fun b hb hlt => hkp.block b hlt (fun h => hb (.inr h))) (fun b hb h => by
      rcases h with h | h
      · exact .inl h
      · rcases r4' b h with h | h
        · exact .inr h
        · omega)
    have ho : OwnD A w' base e k v' (ds ++ ds2) := by
      refine ⟨css ++ css2, by simpa using r1, fun c hc => ?_, (g3.imp hf).append (k2.imp hf)⟩
      rcases List.mem_append.1 hc with h | h
      · exact g2 c h
      · exact k1 c h
    exact ⟨v', w', hr, ho, hkp, r4', by have := ho.shape; simpa using this⟩
variable {o : Oper} {a : Act} {K : Act → World → Prop} {Q : Exit → Act → World → Prop}
theorem wp_app_all (s x : Operand) (t : TypeId) (ho : o.op = .call { callee := .builtin .append, args := #[s, x], argTypes := #[t, t] }) (base : Nat) (e : TypeId) (z : Value) (k bytes : Nat)
    (ht : P.underlying t = some (.slice e)) (hinfo : (P.info? e).map (fun i => (i.zero, i.size, i.bytes)) = some (some z, k, bytes)) (hzs : z.cells.size = k) (hk : 0 < k)
    {A : Nat → Prop} {v xv : Value} {ds ds2 : List D} (hs : a.eval s = v) (hx : a.eval x = xv) (hown : OwnD A W base e k v ds) (hd : RepD (fun b => A b ∨ v.ownBlock = some b) W (.row k ds2) [xv])
    (h1 : ∀ d, d ∈ ds2 → OneD d) (hn : ds.length + ds2.length ≤ maxLen) (hbytes : (ds.length + ds2.length) * bytes ≤ 140737488355328) (hbase : base ≤ W.heap.size)
    (h : ∀ v' w', OwnD A w' base e k v' (ds ++ ds2) → Keep (fun b => v.ownBlock ≠ some b) W w' → (∀ b, v'.ownBlock = some b → v.ownBlock = some b ∨ b = W.heap.size) → (∃ ad cap, v' = .slice ad (ds.length + ds2.length) cap) → K (a.put o.dst v') w') :
    Oper.wp P o a W K Q := by
  obtain ⟨v', w', hr, q1, q2, q3, q4⟩ := run_app_all (P := P) t o.type base e z k bytes ht hinfo hzs hk hown hd h1 hn hbytes hbase
  unfold Oper.wp execOp
  simp only [ho, resolve, invoke, builtin, Sem.run_bind, Sem.run_pure, Result.andThen_ok, List.map_toArray, List.map_cons, List.map_nil, hs, hx, hr]
  exact h v' w' q1 q2 q3 q4
theorem app_all_pl {ops : Array Oper} {rest : List Oper} (hgd : o.guard = none) (s x : Operand) (t : TypeId) (ho : o.op = .call { callee := .builtin .append, args := #[s, x], argTypes := #[t, t] }) (base : Nat) (e : TypeId) (z : Value) (k bytes : Nat)
    (ht : P.underlying t = some (.slice e)) (hinfo : (P.info? e).map (fun i => (i.zero, i.size, i.bytes)) = some (some z, k, bytes)) (hzs : z.cells.size = k) (hk : 0 < k)
    {A : Nat → Prop} {v xv : Value} {ds ds2 : List D} (hs : a.eval s = v) (hx : a.eval x = xv) (hown : OwnD A W base e k v ds) (hd : RepD (fun b => A b ∨ v.ownBlock = some b) W (.row k ds2) [xv])
    (h1 : ∀ d, d ∈ ds2 → OneD d) (hn : ds.length + ds2.length ≤ maxLen) (hbytes : (ds.length + ds2.length) * bytes ≤ 140737488355328) (hbase : base ≤ W.heap.size)
    (h : ∀ v' w', OwnD A w' base e k v' (ds ++ ds2) → Keep (fun b => v.ownBlock ≠ some b) W w' → (∀ b, v'.ownBlock = some b → v.ownBlock = some b ∨ b = W.heap.size) → (∃ ad cap, v' = .slice ad (ds.length + ds2.length) cap) → wpList P ops Q rest (a.put o.dst v') w') :
    wpList P ops Q (o :: rest) a W :=
  wpList_plain hgd fun _ hK => wp_app_all s x t ho base e z k bytes ht hinfo hzs hk hs hx hown hd h1 hn hbytes hbase fun v' w' q1 q2 q3 q4 => hK _ _ (h v' w' q1 q2 q3 q4)
end
end Go.Proofs.Ythplndalbfcbbaa
set_option linter.unusedSimpArgs false
set_option linter.unusedVariables false
namespace Go.Proofs.Ythplndalbfcbbaa
open Go.RowKit
theorem terms_block {A : Nat → Prop} {W : World} {b : Nat} {T : TypeId} {cs : List (List Value)} {ts : List Tm} (hb : W.heap[b]? = some (.cells cs.flatten.toArray T (0, 0))) (hA : ¬ A b) (hl : cs.length = ts.length) (hm : ts.length ≤ 1000000)
    (h : All2 (fun c t => ∃ s, c = [Value.int .i64 t.h, s] ∧ Terms A W s t.args) cs ts) : Terms A W (.slice (some ⟨b, 0, none⟩) ts.length ts.length) ts := by
  rw [Terms, Tm.ds_eq]
  simp only [RepD]
  refine ⟨_, _, _, rfl, by simp, Nat.le_refl _, by omega, fun h0 => ⟨b, 0, rfl, (Array.getElem?_eq_some_iff.1 hb).1, hA, ?_⟩⟩
  refine RepR.of cs _ 0 (fun c hc => ?_) (fun j hj => ?_) ?_
  · obtain ⟨t, _, s, rfl, _⟩ := h.mem c hc; rfl
  · rw [Nat.zero_add]; simp only [World.cell?, hb]; simp
  · clear hb hl hm h0
    induction h with
    | nil => exact .nil
    | cons h _ ih =>
      obtain ⟨s, rfl, hs⟩ := h
      exact .cons (repTm.2 ⟨s, rfl, hs⟩) ih
theorem terms1 {A : Nat → Prop} {W : World} {b : Nat} {T : TypeId} {s : Value} {t : Tm} (hb : W.heap[b]? = some (.cells #[.int .i64 t.h, s] T (0, 0))) (hA : ¬ A b) (h : Terms A W s t.args) : Terms A W (.slice (some ⟨b, 0, none⟩) 1 1) [t] :=
  terms_block (cs := [[.int .i64 t.h, s]]) (ts := [t]) hb hA rfl (by simp) (.cons ⟨s, rfl, h⟩ .nil)
end Go.Proofs.Ythplndalbfcbbaa
set_option linter.unusedSimpArgs false
set_option linter.unusedVariables false
namespace Go.Proofs.Ythplndalbfcbbaa
open Go.RowKit
inductive Stp where
  | take (i : Nat)
  | one (i : Nat)
  | two (i j : Nat)
def lenP : List Stp → Nat
  | [] => 0
  | .take _ :: is => lenP is + 1
  | .one _ :: is => lenP is + 1
  | .two _ _ :: is => lenP is + 2
section
variable {P : Program} {ops : Array Oper} {Q : Exit → Act → World → Prop} {S : World → Prop}
def SeqP (P : Program) (ops : Array Oper) (Q : Exit → Act → World → Prop) (S : World → Prop) : List Stp → Act → World → Prop
  | [], a, w => Q .normal a w
  | .take i :: is, a, w => ∃ o v, ops[i]? = some o ∧ YieldsIf P ops S o v a ∧ SeqP P ops Q S is (a.put o.dst v) w
  | .one i :: is, a, w => wpOp P ops Q i (fun a' w' => S w' ∧ SeqP P ops Q S is a' w') a w
  | .two i j :: is, a, w => wpOp P ops Q i (fun a' w' => S w' ∧ wpOp P ops Q j (fun a' w' => S w' ∧ SeqP P ops Q S is a' w') a' w') a w ∧ wpOp P ops Q j (fun a' w' => S w' ∧ wpOp P ops Q i (fun a' w' => S w' ∧ SeqP P ops Q S is a' w') a' w') a w
def okTwo (md : Region.Mode) (ops : Array Oper) : List Stp → Array Bool → Bool
  | [], l => (Region.ready md ops l).isEmpty
  | .take i :: is, l => ((Region.ready md ops l).contains i && Region.free md ops l i) && okTwo md ops is (l.setIfInBounds i true)
  | .one i :: is, l => (Region.ready md ops l == [i]) && okTwo md ops is (l.setIfInBounds i true)
  | .two i j :: is, l => (Region.ready md ops l == [i, j]) && (Region.ready md ops (l.setIfInBounds i true) == [j]) && (Region.ready md ops (l.setIfInBounds j true) == [i]) &&
      ((l.setIfInBounds j true).setIfInBounds i true == (l.setIfInBounds i true).setIfInBounds j true) && okTwo md ops is ((l.setIfInBounds i true).setIfInBounds j true)
theorem anyH_of_seqP {md : Region.Mode} (hsel : Region.noSelect ops = true) (hQ : ∀ c t v a w, Q (.panic c) (a.put (some t) v) w → Q (.panic c) a w) :
    ∀ (order : List Stp) (l : Array Bool) (a : Act) (w : World), okTwo md ops order l = true → S w → SeqP P ops Q S order a w → wpAnyH P md ops Q S (lenP order) l a w
  | [], l, a, w, h, _, hs => by
    have h' : Region.ready md ops l = [] := by simpa [okTwo] using h
    exact wpAnyH_done h' hs 0
  | .one i :: is, l, a, w, h, hS, hs => by
    simp only [okTwo, Bool.and_eq_true, beq_iff_eq] at h
    refine wpAnyH_all h.1 (by simp) fun j hj => ?_
    simp only [List.mem_singleton] at hj
    subst hj
    exact wpOp_mono (fun a' w' h' => ⟨h'.1, anyH_of_seqP hsel hQ is _ a' w' h.2 h'.1 h'.2⟩) hs
  | .two i j :: is, l, a, w, h, hS, hs => by
    simp only [okTwo, Bool.and_eq_true, beq_iff_eq] at h
    obtain ⟨⟨⟨⟨h1, h2⟩, h3⟩, h4⟩, h5⟩ := h
    refine wpAnyH_all h1 (by simp) fun k hk => ?_
    simp only [List.mem_cons, List.not_mem_nil, or_false] at hk
    rcases hk with rfl | rfl
    · refine wpOp_mono (fun a' w' h' => ⟨h'.1, ?_⟩) hs.1
      refine wpAnyH_all h2 (by simp) fun m hm => ?_
      simp only [List.mem_singleton] at hm
      subst hm
      exact wpOp_mono (fun a' w' h' => ⟨h'.1, anyH_of_seqP hsel hQ is _ a' w' h5 h'.1 h'.2⟩) h'.2
    · refine wpOp_mono (fun a' w' h' => ⟨h'.1, ?_⟩) hs.2
      refine wpAnyH_all h3 (by simp) fun m hm => ?_
      simp only [List.mem_singleton] at hm
      subst hm
      exact wpOp_mono (fun a' w' h' => ⟨h'.1, by rw [h4]; exact anyH_of_seqP hsel hQ is _ a' w' h5 h'.1 h'.2⟩) h'.2
  | .take i :: is, l, a, w, h, hS, ⟨o, v, ho, hy, hs⟩ => by
    simp only [okTwo, Bool.and_eq_true] at h
    exact wpAnyH_take ho hsel h.1.2 h.1.1 (fun c a w h9 => by
      cases hd : o.dst with
      | none => rw [hd] at h9; exact h9
      | some t => rw [hd] at h9; exact hQ c t v a w h9) hy hS (anyH_of_seqP hsel hQ is _ _ w h.2 hS hs)
theorem drawn_two {id : Nat} {a : Act} {w : World} (S : World → Prop) (order : List Stp) (hm : P.follows .mixedOrders = true) (hn : (lenP order == ops.size) = true) (hsel : Region.noSelect ops = true)
    (hok : okTwo .any ops order (Array.replicate ops.size false) = true) (hQ : ∀ c t v a w, Q (.panic c) (a.put (some t) v) w → Q (.panic c) a w) (hS : S w.drew) (h : SeqP P ops Q S order a w.drew) : (Code.region id ops true).wp P Q a w := by
  refine wp_region_held (S := S) hm ?_
  have := anyH_of_seqP hsel hQ order _ a w.drew hok hS h
  rw [beq_iff_eq.1 hn] at this
  exact this
variable {os : List Oper} {i j : Nat} {is : List Stp} {o o2 : Oper} {v : Value} {a : Act} {w : World}
theorem p_take (ho : os[i]? = some o) (hw : Region.wanted o (yielded os.toArray a.tmps) = true) (hv : ∀ w, S w → (execOp a.eval o).run P w = .ok (.value v) w) (h : SeqP P os.toArray Q S is (a.put o.dst v) w) : SeqP P os.toArray Q S (.take i :: is) a w :=
  ⟨o, v, by simpa using ho, .inl ⟨hw, hv⟩, h⟩
theorem p_one (ho : os[i]? = some o) (hw : Region.wanted o (yielded os.toArray a.tmps) = true)
    (h : ∀ K' : Act → World → Prop, Hid (∀ a w, S w → SeqP P os.toArray Q S is a w → K' a w) → Oper.wp P o a w K' Q) : SeqP P os.toArray Q S (.one i :: is) a w :=
  wpOp_step (ops := os.toArray) (o := o) (by simpa using ho) fun K' hK => by rw [if_pos hw]; exact h K' (hide fun a w h1 h2 => hK a w ⟨h1, h2⟩)
def Then1 (P : Program) (ops : Array Oper) (Q : Exit → Act → World → Prop) (S : World → Prop) (j : Nat) (is : List Stp) (a : Act) (w : World) : Prop := wpOp P ops Q j (fun a' w' => S w' ∧ SeqP P ops Q S is a' w') a w
theorem p_two (ho : os[i]? = some o) (ho2 : os[j]? = some o2) (hw : Region.wanted o (yielded os.toArray a.tmps) = true) (hw2 : Region.wanted o2 (yielded os.toArray a.tmps) = true)
    (h : ∀ K' : Act → World → Prop, Hid (∀ a w, S w → Then1 P os.toArray Q S j is a w → K' a w) → Oper.wp P o a w K' Q) (h2 : ∀ K' : Act → World → Prop, Hid (∀ a w, S w → Then1 P os.toArray Q S i is a w → K' a w) → Oper.wp P o2 a w K' Q) : SeqP P os.toArray Q S (.two i j :: is) a w :=
  ⟨wpOp_step (ops := os.toArray) (o := o) (by simpa using ho) fun K' hK => by rw [if_pos hw]; exact h K' (hide fun a w h1 h2 => hK a w ⟨h1, h2⟩), wpOp_step (ops := os.toArray) (o := o2) (by simpa using ho2) fun K' hK => by rw [if_pos hw2]; exact h2 K' (hide fun a w h1 h2 => hK a w ⟨h1, h2⟩)⟩
theorem p_then (ho : os[j]? = some o) (hw : Region.wanted o (yielded os.toArray a.tmps) = true)
    (h : ∀ K' : Act → World → Prop, Hid (∀ a w, S w → SeqP P os.toArray Q S is a w → K' a w) → Oper.wp P o a w K' Q) : Then1 P os.toArray Q S j is a w :=
  wpOp_step (ops := os.toArray) (o := o) (by simpa using ho) fun K' hK => by rw [if_pos hw]; exact h K' (hide fun a w h1 h2 => hK a w ⟨h1, h2⟩)
theorem cut_cap {P : Program} {c : Code} {K : Act → World → Prop} {Q : Exit → Act → World → Prop} {a : Act} {w : World} (R : Act → Act → World → Prop)
    (h : c.wp P (Exit.then (R a) (fun _ _ _ => False)) a w) (k : ∀ a' w', R a a' w' → K a' w') : c.wp P (Exit.then K Q) a w := by
  refine wp_mono h ?_
  intro e a' w' hq
  cases e <;> first | exact k _ _ hq | exact hq.elim
theorem p_done (h : Q .normal a w) : SeqP P os.toArray Q S [] a w := h
end
end Go.Proofs.Ythplndalbfcbbaa
set_option linter.unusedSimpArgs false
set_option linter.unusedVariables false
namespace Go.Proofs.Ythplndalbfcbbaa
open Go.RowKit
section
variable {A : Nat → Prop} {W : World} {base e k : Nat}
theorem OwnD.lit2 {b : Nat} {x y : Value} {d : D} (hb : W.heap[b]? = some (.cells #[x, y] e (0, 0))) (hbase : base ≤ b) (hd : RepD (fun c => A c ∨ c = b) W d [x, y]) : OwnD A W base e 2 (.slice (some ⟨b, 0, none⟩) 1 1) [d] := by
  refine ⟨[[x, y]], ⟨by simp, .inr ⟨b, 1, #[x, y], rfl, hbase, hb, Nat.le_refl _, by simp [maxLen], rfl, by simp⟩⟩, by simp, .cons ?_ .nil⟩
  refine hd.bar fun c _ h => ?_
  rcases h with h | h
  · exact .inl h
  · exact .inr (by simpa [Value.ownBlock] using h.symm)
theorem All2.unsnoc {β γ : Type} {R : β → γ → Prop} {a : List β} {c : List γ} {y : γ} (h : All2 R a (c ++ [y])) : ∃ a' x, a = a' ++ [x] ∧ All2 R a' c ∧ R x y := by
  induction c generalizing a with
  | nil =>
    cases h with
    | cons h1 h2 => cases h2; exact ⟨[], _, rfl, .nil, h1⟩
  | cons z c ih =>
    cases h with
    | cons h1 h2 =>
      obtain ⟨a', x, rfl, h3, h4⟩ := ih h2
      exact ⟨_ :: a', x, rfl, .cons h1 h3, h4⟩
theorem OwnD.last {v : Value} {ds : List D} {d : D} (hk : 0 < k) (h : OwnD A W base e k v (ds ++ [d])) : ∃ g cap cs, v = .slice (some ⟨g, 0, none⟩) (ds.length + 1) cap ∧ base ≤ g ∧ g < W.heap.size ∧ ds.length + 1 ≤ cap ∧ cap ≤ 9223372036854775807 ∧ cs.length = k ∧ (∀ j, j < k → W.cell? ⟨g, ds.length * k + j, none⟩ = cs[j]?) ∧
    RepD (fun b => A b ∨ b = g) W d cs ∧ OwnD A W base e k (.slice (some ⟨g, 0, none⟩) ds.length cap) ds := by
  obtain ⟨css, h1, h2, h3⟩ := h
  obtain ⟨css', cs, rfl, h4, h5⟩ := h3.unsnoc
  have hlen : css'.length = ds.length := h4.length
  have hl' : ∀ c, c ∈ css' → c.length = k := fun c hc => h2 c (by simp [hc])
  have hcs : cs.length = k := h2 cs (by simp)
  have hfl : css'.flatten.length = ds.length * k := by rw [flat_length hl', hlen]
  have h1' := h1
  rcases h1.2 with ⟨_, h0⟩ | ⟨g, cap, cur, rfl, hg, hh, hn, hm, hs, ht⟩
  · simp at h0
  · rw [List.length_append, List.length_singleton] at hn
    refine ⟨g, cap, cs, by simp, hg, (Array.getElem?_eq_some_iff.1 hh).1, hn, by simpa [maxLen] using hm, hcs, fun j hj => ?_, ?_, ?_⟩
    · have := h1'.cells (g := g) rfl (ds.length * k + j) (cs[j]) (by simp [List.getElem?_append_right, hfl])
      rw [add_plain] at this
      rw [this]; simp
    · exact h5.bar fun b _ h => by
        rcases h with h | h
        · exact .inl h
        · exact .inr (by simp [Value.ownBlock, h])
    · refine ⟨css', ownsRow_pop (last := cs) hfl (by simpa using h1'), hl', h4.imp fun c d hd => hd.bar fun b _ h => ?_⟩
      rcases h with h | h
      · exact .inl h
      · exact .inr (by simpa [Value.ownBlock] using h)
end
theorem unsnoc {α : Type} (l : List α) : l = [] ∨ ∃ a x, l = a ++ [x] := by
  rcases List.eq_nil_or_concat l with h | ⟨a, x, h⟩
  · exact .inl h
  · exact .inr ⟨a, x, by rw [h, List.concat_eq_append]⟩
theorem cut_end {P : Program} {c : Code} {Q : Exit → Act → World → Prop} {a : Act} {w : World} (R : Act → World → Prop)
    (h : c.wp P (Exit.then R (fun _ _ _ => False)) a w) (k : ∀ a' w', R a' w' → Q .normal a' w') : c.wp P Q a w := by
  refine wp_mono h ?_
  intro e a' w' hq
  cases e <;> first | exact k _ _ hq | exact hq.elim
def Apart (v u : Value) : Prop := ∀ b, v.ownBlock = some b → u.ownBlock ≠ some b
structure Stk (w W : World) (v u : Value) (ls rs : List Tm) : Prop where
  below : Below w.heap.size w W
  left : OwnD (fun b => w.heap.size ≤ b) W w.heap.size 25 2 v (ls.map Tm.d)
  right : OwnD (fun b => w.heap.size ≤ b) W w.heap.size 25 2 u (rs.map Tm.d)
  apart : Apart v u
  len : ls.length = rs.length
  size : Tm.sizes ls ≤ 1000000000
set_option maxHeartbeats 4000000 in
set_option maxRecDepth 100000 in
theorem tsame_calls (t u : Tm) (A A2 : Nat → Prop) (h h2 : Int) (s s2 : Value) (w : World) (ht : t.size ≤ 1000000000) (hs : IsTm A w h s t) (hu : IsTm A2 w h2 s2 u) :
    Calls Try.prog 38 #[.agg #[.int .i64 h, s], .agg #[.int .i64 h2, s2]] w fun e w' => e = .returned (.bool (sameB t u)) ∧ Below w.heap.size w w' := by
  obtain ⟨rfl, a, c, rfl, hlc, hc⟩ := hs.shape
  obtain ⟨rfl, a2, c2, rfl, hlc2, hc2⟩ := hu.shape
  go_enter Try.func38, Try.ntmps38
  go_wp2
  refine cut_pl (fun a' w' => ∃ b1 b2 u10 u11 u12 u13, a' = { tmps := #[.agg #[.int .i64 t.h, .slice a t.args.length c], .agg #[.int .i64 u.h, .slice a2 u.args.length c2], .pointer (some ⟨w.heap.size, 0, none⟩), .pointer (some ⟨w.heap.size + 1, 0, none⟩), .bool false, .slice (some ⟨b1, 0, none⟩) 1 1, .slice (some ⟨b2, 0, none⟩) 1 1, undef, undef, undef, u10, u11, u12, u13, undef, undef, undef, undef, undef, undef, undef, undef, undef, undef, undef, undef, undef, undef, undef, undef, undef, undef, undef, undef, undef, undef, undef, undef, undef, undef, undef, undef, undef, undef, undef, undef, undef, undef, undef, undef, undef, undef, undef, undef, undef, undef], defers := [] } ∧ w.heap.size ≤ b1 ∧ w.heap.size ≤ b2 ∧ b1 ≠ b2 ∧ w'.heap[b1]? = some (.cells #[.int .i64 t.h, .slice a t.args.length c] 25 (0, 0)) ∧ w'.heap[b2]? = some (.cells #[.int .i64 u.h, .slice a2 u.args.length c2] 25 (0, 0)) ∧ Below w.heap.size w w') ?_ ?_
  · go_region
    · have hWa : ∀ k o, [Obj.cells #[.int .i64 t.h, .slice a t.args.length c] 25, .cells #[.int .i64 u.h, .slice a2 u.args.length c2] 25, .cells #[.int .i64 t.h, .slice a t.args.length c] 25, .cells #[.int .i64 u.h, .slice a2 u.args.length c2] 25][k]? = some o → _ := fun k o h => allocs_get w _ k o h
      exact ⟨_, _, _, _, _, _, rfl, by omega, by omega, by omega, hWa 2 _ rfl, hWa 3 _ rfl, (allocs_below w [Obj.cells #[.int .i64 t.h, .slice a t.args.length c] 25, .cells #[.int .i64 u.h, .slice a2 u.args.length c2] 25, .cells #[.int .i64 t.h, .slice a t.args.length c] 25, .cells #[.int .i64 u.h, .slice a2 u.args.length c2] 25]).drew⟩
    · have hWa : ∀ k o, [Obj.cells #[.int .i64 t.h, .slice a t.args.length c] 25, .cells #[.int .i64 u.h, .slice a2 u.args.length c2] 25, .cells #[.int .i64 u.h, .slice a2 u.args.length c2] 25, .cells #[.int .i64 t.h, .slice a t.args.length c] 25][k]? = some o → _ := fun k o h => allocs_get w _ k o h
      exact ⟨_, _, _, _, _, _, rfl, by omega, by omega, by omega, hWa 3 _ rfl, hWa 2 _ rfl, (allocs_below w [Obj.cells #[.int .i64 t.h, .slice a t.args.length c] 25, .cells #[.int .i64 u.h, .slice a2 u.args.length c2] 25, .cells #[.int .i64 u.h, .slice a2 u.args.length c2] 25, .cells #[.int .i64 t.h, .slice a t.args.length c] 25]).drew⟩
  rintro _ W ⟨b1, b2, u10, u11, u12, u13, rfl, hb1, hb2, hne, k1, k2, hB⟩
  have hb : Below w.heap.size w W := hB
  have T1 : Terms (fun b => w.heap.size ≤ b) W (.slice a t.args.length c) t.args := RepD.frame (fun b hb hlt => hB.block b hlt) (fun b hb h => by omega) _ _ hs.2
  have T2 : Terms (fun b => w.heap.size ≤ b) W (.slice a2 u.args.length c2) u.args := RepD.frame (fun b hb hlt => hB.block b hlt) (fun b hb h => by omega) _ _ hu.2
  have O1 : OwnD (fun b => w.heap.size ≤ b) W w.heap.size 25 2 (.slice (some ⟨b1, 0, none⟩) 1 1) [t.d] := OwnD.lit2 k1 hb1 (repTm.2 ⟨_, rfl, T1.bar fun b _ h => by omega⟩)
  have O2 : OwnD (fun b => w.heap.size ≤ b) W w.heap.size 25 2 (.slice (some ⟨b2, 0, none⟩) 1 1) [u.d] := OwnD.lit2 k2 hb2 (repTm.2 ⟨_, rfl, T2.bar fun b _ h => by omega⟩)
  have HS : Stk w W (.slice (some ⟨b1, 0, none⟩) 1 1) (.slice (some ⟨b2, 0, none⟩) 1 1) [t] [u] := ⟨hB, O1, O2, fun b h1 h2 => by simp [Value.ownBlock] at h1 h2; omega, rfl, by simp [Tm.sizes]; omega⟩
  have HG := hide (show sameB t u = true ↔ [t] = [u] by rw [sameB_iff]; simp)
  clear T1 T2 O1 O2 k1 k2 hb hB hs hu
  go_wp2
  go_loopg [5, 6] (t.size + 1) (fun k v x wr => ∃ ls rs, k = Tm.sizes ls + 1 ∧ Stk w wr v x ls rs ∧ Hid (sameB t u = true ↔ ls = rs))
  case atStart => exact ⟨[t], [u], by simp [Tm.sizes], HS, HG⟩
  case round =>
    obtain ⟨ls, rs, rfl, hst, hg⟩ := hrel
    rcases unsnoc ls with rfl | ⟨ls, x, rfl⟩
    · obtain ⟨ad, cp, rfl⟩ := hst.left.shape
      have hr0 : rs = [] := List.eq_nil_of_length_eq_zero (by have := hst.len; simpa using this.symm)
      have HX := hide (show sameB t u = true by rw [hg.out]; exact hr0.symm)
      have hB := hst.below
      clear hg hst hr0 HS HG
      go_wp2
      go_ret
      rw [HX.out]
      exact ⟨rfl, hB⟩
    · rcases unsnoc rs with rfl | ⟨rs, y, rfl⟩
      · exact absurd hst.len (by simp)
      have hlen : ls.length = rs.length := by have := hst.len; simpa using this
      have hszs := hst.size
      rw [Tm.sizes_append] at hszs
      have hx1 := x.size_eq
      simp only [Tm.sizes] at hszs
      have hls : ls.length ≤ 1000000000 := by have := Tm.sizes_length ls; omega
      have hO1 := hst.left
      have hO2 := hst.right
      have hap := hst.apart
      have hB := hst.below
      rw [List.map_append, List.map_cons, List.map_nil] at hO1 hO2
      obtain ⟨g1, cap1, cs1, rfl, hg1, hg1', hc1, hc1', hk1, e1, d1, P1⟩ := hO1.last (by omega)
      obtain ⟨g2, cap2, cs2, rfl, hg2, hg2', hc2', hc2'', hk2, e2, d2, P2⟩ := hO2.last (by omega)
      simp only [List.length_map] at hc1 hc2' e1 e2 P1 P2 hst hap ⊢
      simp only [← hlen] at hc2' e2 P2 hst hap ⊢
      obtain ⟨sx, rfl, tx⟩ := repTm.1 d1
      obtain ⟨sy, rfl, ty⟩ := repTm.1 d2
      obtain ⟨ax, cx, rfl, hcx, hcx'⟩ := tx.shape
      obtain ⟨ay, cy, rfl, hcy, hcy'⟩ := ty.shape
      have p0 := e1 0 (by omega)
      have p1 := e1 1 (by omega)
      have q0 := e2 0 (by omega)
      have q1 := e2 1 (by omega)
      simp only [Nat.add_zero, List.getElem?_cons_zero, List.getElem?_cons_succ] at p0 p1 q0 q1
      clear e1 e2 d1 d2 hO1 hO2 HS HG
      have HST := hide hst
      clear hst
      have HLEN := hide hlen
      clear hlen
      have HAP := hide hap
      clear hap
      have HP1 := hide P1
      have HP2 := hide P2
      clear P1 P2
      have HX1 := hide hx1
      clear hx1
      go_wp2
      refine cut_pl (fun a' w' => ∃ B1 B2 u14 u15 u16 u17 u18 u19 u20 u21 u22 u23 u24 u25 u26 u27 u28 u29 u30 u31 u32 u33 u34 u35 u36 u37 u38 u39 u40 u41 u42 u43 u44 u45 u46 u47 u48 u49 u50 u51 u52 u53 u54 u55, a' = { tmps := #[.agg #[.int .i64 t.h, .slice a t.args.length c], .agg #[.int .i64 u.h, .slice a2 u.args.length c2], .pointer (some ⟨w.heap.size, 0, none⟩), .pointer (some ⟨w.heap.size + 1, 0, none⟩), u4, .slice (some ⟨g1, 0, none⟩) (ls.length + 1) cap1, .slice (some ⟨g2, 0, none⟩) (ls.length + 1) cap2, .int .i64 ls.length, .pointer (some ⟨B1, 0, none⟩), .pointer (some ⟨B2, 0, none⟩), u10, u11, u12, u13, u14, u15, u16, u17, u18, u19, u20, u21, u22, u23, u24, u25, u26, u27, u28, u29, u30, u31, u32, u33, u34, u35, u36, u37, u38, u39, u40, u41, u42, u43, u44, u45, u46, u47, u48, u49, u50, u51, u52, u53, u54, u55], defers := [] } ∧ wr.heap.size ≤ B1 ∧ wr.heap.size ≤ B2 ∧ B1 ≠ B2 ∧ w'.heap[B1]? = some (.cells #[.int .i64 x.h, .slice ax x.args.length cx] 25 (0, 0)) ∧ w'.heap[B2]? = some (.cells #[.int .i64 y.h, .slice ay y.args.length cy] 25 (0, 0)) ∧ Below wr.heap.size wr w') ?_ ?_
      · have hS : ∀ W', Below wr.heap.size wr W' → Below wr.heap.size wr W' ∧ W'.cell? ⟨g1, ls.length * 2, none⟩ = some (.int .i64 x.h) ∧ W'.cell? ⟨g1, ls.length * 2 + 1, none⟩ = some (.slice ax x.args.length cx) ∧ W'.cell? ⟨g2, ls.length * 2, none⟩ = some (.int .i64 y.h) ∧ W'.cell? ⟨g2, ls.length * 2 + 1, none⟩ = some (.slice ay y.args.length cy) := fun W' hW =>
          ⟨hW, (hW.cell (p := ⟨g1, ls.length * 2, none⟩) hg1').trans p0, (hW.cell (p := ⟨g1, ls.length * 2 + 1, none⟩) hg1').trans p1, (hW.cell (p := ⟨g2, ls.length * 2, none⟩) hg2').trans q0, (hW.cell (p := ⟨g2, ls.length * 2 + 1, none⟩) hg2').trans q1⟩
        refine drawn_two (fun W' => Below wr.heap.size wr W' ∧ W'.cell? ⟨g1, ls.length * 2, none⟩ = some (.int .i64 x.h) ∧ W'.cell? ⟨g1, ls.length * 2 + 1, none⟩ = some (.slice ax x.args.length cx) ∧ W'.cell? ⟨g2, ls.length * 2, none⟩ = some (.int .i64 y.h) ∧ W'.cell? ⟨g2, ls.length * 2 + 1, none⟩ = some (.slice ay y.args.length cy)) [.take 0, .take 1, .take 2, .take 3, .take 4, .take 5, .take 6, .take 7, .two 8 9, .one 10, .one 11] (by kernel_rfl) (by kernel_rfl) (by kernel_rfl) (by kernel_rfl) (fun _ _ _ _ _ h => h) (hS _ (Below.refl _ _).drew) ?_
        have hi0 : (ls.length : Int) < (ls.length : Int) + 1 := by omega
        iterate 8 (refine p_take (v := ?_) rfl (by rfl) ?_ ?_; rotate_left; (intro w hS; obtain ⟨-, S1, S2, S3, S4⟩ := hS; go_simp; try with_reducible rfl); simp only [Act.put, List.setIfInBounds_toArray, List.set_cons_zero, List.set_cons_succ])
        refine p_two rfl rfl (by rfl) (by rfl) ?_ ?_
        · intro K hK
          go_simp
          refine hK.out _ _ (hS _ ((Below.refl _ _).drew.alloc (Nat.le_refl _) _)) ?_
          refine p_then rfl (by rfl) ?_
          clear hK K
          intro K hK
          go_simp
          have hW3 : Below wr.heap.size wr (((wr.alloc (.cells #[.int .i64 0, .slice none 0 0] 25)).alloc (.cells #[.int .i64 0, .slice none 0 0] 25)).drew) := (((Below.refl wr.heap.size wr).alloc (Nat.le_refl _) (.cells #[.int .i64 0, .slice none 0 0] 25)).alloc (by simp) (.cells #[.int .i64 0, .slice none 0 0] 25)).drew
          refine hK.out _ _ (hS _ hW3) ?_
          clear hK K
          have b0 := World.alloc_heap_new wr (.cells #[.int .i64 0, .slice none 0 0] 25)
          have b9 : (((wr.alloc (.cells #[.int .i64 0, .slice none 0 0] 25)).alloc (.cells #[.int .i64 0, .slice none 0 0] 25)).drew).heap[wr.heap.size + 1]? = some (.cells #[.int .i64 0, .slice none 0 0] 25 (0, 0)) := by
            have h := World.alloc_heap_new (wr.alloc (.cells #[.int .i64 0, .slice none 0 0] 25)) (.cells #[.int .i64 0, .slice none 0 0] 25)
            rw [World.size_alloc] at h
            exact h
          have b8 : (((wr.alloc (.cells #[.int .i64 0, .slice none 0 0] 25)).alloc (.cells #[.int .i64 0, .slice none 0 0] 25)).drew).heap[wr.heap.size]? = some (.cells #[.int .i64 0, .slice none 0 0] 25 (0, 0)) := (Below.heap_alloc (wr.alloc (.cells #[.int .i64 0, .slice none 0 0] 25)) (.cells #[.int .i64 0, .slice none 0 0] 25) _ (by simp)).trans b0
          generalize (((wr.alloc (.cells #[.int .i64 0, .slice none 0 0] 25)).alloc (.cells #[.int .i64 0, .slice none 0 0] 25)).drew) = W3 at *
          clear b0
          obtain ⟨l8, z0, z1, z2, z3⟩ := box2 b8
          obtain ⟨l9, y0, y1, y2, y3⟩ := box2 b9
          refine p_one rfl (by rfl) ?_
          intro K hK
          go_simp
          have hW4 := set2_below (b := wr.heap.size) hW3 (by omega) (.int .i64 x.h) (.slice ax x.args.length cx)
          have c8 := box2_set b8 (.int .i64 x.h) (.slice ax x.args.length cx)
          have c9 := (Keep.refl (fun b => b ≠ wr.heap.size) W3).setCell (p := ⟨wr.heap.size, 0, none⟩) (by simp) (.int .i64 x.h) |>.setCell (p := ⟨wr.heap.size, 1, none⟩) (by simp) (.slice ax x.args.length cx) |>.obj (by omega) b9
          refine hK.out _ _ (hS _ hW4) ?_
          clear hK K
          generalize ((W3.setCell ⟨wr.heap.size, 0, none⟩ (.int .i64 x.h)).setCell ⟨wr.heap.size, 1, none⟩ (.slice ax x.args.length cx)) = W4 at *
          clear l8 l9 z0 z1 z2 z3 y0 y1 y2 y3 b8 b9
          obtain ⟨l9, y0, y1, y2, y3⟩ := box2 c9
          refine p_one rfl (by rfl) ?_
          intro K hK
          go_simp
          have hW5 := set2_below (b := wr.heap.size + 1) hW4 (by omega) (.int .i64 y.h) (.slice ay y.args.length cy)
          have d9 := box2_set c9 (.int .i64 y.h) (.slice ay y.args.length cy)
          have d8 := (Keep.refl (fun b => b ≠ wr.heap.size + 1) W4).setCell (p := ⟨wr.heap.size + 1, 0, none⟩) (by simp) (.int .i64 y.h) |>.setCell (p := ⟨wr.heap.size + 1, 1, none⟩) (by simp) (.slice ay y.args.length cy) |>.obj (by omega) c8
          refine hK.out _ _ (hS _ hW5) ?_
          clear hK K
          refine p_done ?_
          exact ⟨_, _, _, _, _, _, _, _, _, _, _, _, _, _, _, _, _, _, _, _, _, _, _, _, _, _, _, _, _, _, _, _, _, _, _, _, _, _, _, _, _, _, _, _, rfl, by omega, by omega, by omega, d8, d9, hW5⟩
        · intro K hK
          go_simp
          refine hK.out _ _ (hS _ ((Below.refl _ _).drew.alloc (Nat.le_refl _) _)) ?_
          refine p_then rfl (by rfl) ?_
          clear hK K
          intro K hK
          go_simp
          have hW3 : Below wr.heap.size wr (((wr.alloc (.cells #[.int .i64 0, .slice none 0 0] 25)).alloc (.cells #[.int .i64 0, .slice none 0 0] 25)).drew) := (((Below.refl wr.heap.size wr).alloc (Nat.le_refl _) (.cells #[.int .i64 0, .slice none 0 0] 25)).alloc (by simp) (.cells #[.int .i64 0, .slice none 0 0] 25)).drew
          refine hK.out _ _ (hS _ hW3) ?_
          clear hK K
          have b0 := World.alloc_heap_new wr (.cells #[.int .i64 0, .slice none 0 0] 25)
          have b8 : (((wr.alloc (.cells #[.int .i64 0, .slice none 0 0] 25)).alloc (.cells #[.int .i64 0, .slice none 0 0] 25)).drew).heap[wr.heap.size + 1]? = some (.cells #[.int .i64 0, .slice none 0 0] 25 (0, 0)) := by
            have h := World.alloc_heap_new (wr.alloc (.cells #[.int .i64 0, .slice none 0 0] 25)) (.cells #[.int .i64 0, .slice none 0 0] 25)
            rw [World.size_alloc] at h
            exact h
          have b9 : (((wr.alloc (.cells #[.int .i64 0, .slice none 0 0] 25)).alloc (.cells #[.int .i64 0, .slice none 0 0] 25)).drew).heap[wr.heap.size]? = some (.cells #[.int .i64 0, .slice none 0 0] 25 (0, 0)) := (Below.heap_alloc (wr.alloc (.cells #[.int .i64 0, .slice none 0 0] 25)) (.cells #[.int .i64 0, .slice none 0 0] 25) _ (by simp)).trans b0
          generalize (((wr.alloc (.cells #[.int .i64 0, .slice none 0 0] 25)).alloc (.cells #[.int .i64 0, .slice none 0 0] 25)).drew) = W3 at *
          clear b0
          obtain ⟨l8, z0, z1, z2, z3⟩ := box2 b8
          obtain ⟨l9, y0, y1, y2, y3⟩ := box2 b9
          refine p_one rfl (by rfl) ?_
          intro K hK
          go_simp
          have hW4 := set2_below (b := wr.heap.size + 1) hW3 (by omega) (.int .i64 x.h) (.slice ax x.args.length cx)
          have c8 := box2_set b8 (.int .i64 x.h) (.slice ax x.args.length cx)
          have c9 := (Keep.refl (fun b => b ≠ wr.heap.size + 1) W3).setCell (p := ⟨wr.heap.size + 1, 0, none⟩) (by simp) (.int .i64 x.h) |>.setCell (p := ⟨wr.heap.size + 1, 1, none⟩) (by simp) (.slice ax x.args.length cx) |>.obj (by omega) b9
          refine hK.out _ _ (hS _ hW4) ?_
          clear hK K
          generalize ((W3.setCell ⟨wr.heap.size + 1, 0, none⟩ (.int .i64 x.h)).setCell ⟨wr.heap.size + 1, 1, none⟩ (.slice ax x.args.length cx)) = W4 at *
          clear l8 l9 z0 z1 z2 z3 y0 y1 y2 y3 b8 b9
          obtain ⟨l9, y0, y1, y2, y3⟩ := box2 c9
          refine p_one rfl (by rfl) ?_
          intro K hK
          go_simp
          have hW5 := set2_below (b := wr.heap.size) hW4 (by omega) (.int .i64 y.h) (.slice ay y.args.length cy)
          have d9 := box2_set c9 (.int .i64 y.h) (.slice ay y.args.length cy)
          have d8 := (Keep.refl (fun b => b ≠ wr.heap.size) W4).setCell (p := ⟨wr.heap.size, 0, none⟩) (by simp) (.int .i64 y.h) |>.setCell (p := ⟨wr.heap.size, 1, none⟩) (by simp) (.slice ay y.args.length cy) |>.obj (by omega) c8
          refine hK.out _ _ (hS _ hW5) ?_
          clear hK K
          refine p_done ?_
          exact ⟨_, _, _, _, _, _, _, _, _, _, _, _, _, _, _, _, _, _, _, _, _, _, _, _, _, _, _, _, _, _, _, _, _, _, _, _, _, _, _, _, _, _, _, _, rfl, by omega, by omega, by omega, d8, d9, hW5⟩
      rintro _ W2 ⟨B1, B2, u14, u15, u16, u17, u18, u19, u20, u21, u22, u23, u24, u25, u26, u27, u28, u29, u30, u31, u32, u33, u34, u35, u36, u37, u38, u39, u40, u41, u42, u43, u44, u45, u46, u47, u48, u49, u50, u51, u52, u53, u54, u55, rfl, hB1, hB2, hne2, k1, k2, hW2⟩
      go_wp2
      refine cut_pl (fun a' w' => ∃ u14 u15 u16 u17 u18 u19 u20 u21 u22 u23 u24 u25 u26 u27 u28 u29 u30 u31 u32 u33 u34 u35 u36 u37 u38 u39 u40 u41 u42 u43 u44 u45 u46 u47 u48 u49 u50 u51 u52 u53 u54 u55, a' = { tmps := #[.agg #[.int .i64 t.h, .slice a t.args.length c], .agg #[.int .i64 u.h, .slice a2 u.args.length c2], .pointer (some ⟨w.heap.size, 0, none⟩), .pointer (some ⟨w.heap.size + 1, 0, none⟩), u4, .slice (some ⟨g1, 0, none⟩) ls.length cap1, .slice (some ⟨g2, 0, none⟩) ls.length cap2, .int .i64 ls.length, .pointer (some ⟨B1, 0, none⟩), .pointer (some ⟨B2, 0, none⟩), u10, u11, u12, u13, u14, u15, u16, u17, u18, u19, u20, u21, u22, u23, u24, u25, u26, u27, u28, u29, u30, u31, u32, u33, u34, u35, u36, u37, u38, u39, u40, u41, u42, u43, u44, u45, u46, u47, u48, u49, u50, u51, u52, u53, u54, u55], defers := [] } ∧ w' = W2.drew) ?_ ?_
      · refine drawn_two (fun _ => True) [.take 0, .take 1, .take 2, .take 3, .take 4, .take 5, .take 6, .take 7] (by kernel_rfl) (by kernel_rfl) (by kernel_rfl) (by kernel_rfl) (fun _ _ _ _ _ h => h) trivial ?_
        have hi1 : ls.length ≤ cap1 := by omega
        have hi2 : ls.length ≤ cap2 := by omega
        iterate 8 (refine p_take (v := ?_) rfl (by rfl) ?_ ?_; rotate_left; (intro w _; go_simp; try with_reducible rfl); simp only [Act.put, List.setIfInBounds_toArray, List.set_cons_zero, List.set_cons_succ])
        exact p_done ⟨_, _, _, _, _, _, _, _, _, _, _, _, _, _, _, _, _, _, _, _, _, _, _, _, _, _, _, _, _, _, _, _, _, _, _, _, _, _, _, _, _, _, rfl, rfl⟩
      rintro _ _ ⟨u14, u15, u16, u17, u18, u19, u20, u21, u22, u23, u24, u25, u26, u27, u28, u29, u30, u31, u32, u33, u34, u35, u36, u37, u38, u39, u40, u41, u42, u43, u44, u45, u46, u47, u48, u49, u50, u51, u52, u53, u54, u55, rfl, rfl⟩
      have hW3 := hW2.drew
      have k1' : W2.drew.heap[B1]? = _ := k1
      have k2' : W2.drew.heap[B2]? = _ := k2
      generalize W2.drew = W3 at *
      clear k1 k2 hW2 p0 p1 q0 q1
      obtain ⟨-, z0, z1, -, -⟩ := box2 k1'
      obtain ⟨-, y0, y1, -, -⟩ := box2 k2'
      by_cases hh : x.h = y.h ∧ x.args.length = y.args.length
      · obtain ⟨h1, h2⟩ := hh
        have HXY := hide (show x.h = y.h ∧ x.args.length = y.args.length from ⟨h1, h2⟩)
        have hal : x.args.length ≤ Tm.sizes x.args := Tm.sizes_length _
        have hx1 := HX1.out
        have hlls : ls.length ≤ Tm.sizes ls := Tm.sizes_length _
        have hbd : ls.length + x.args.length ≤ 1000000000 := by omega
        clear hx1 hal hlls
        have l1 : x.h ≤ y.h := by omega
        have l2 : y.h ≤ x.h := by omega
        have l3 : x.args.length ≤ y.args.length := by omega
        have l4 : y.args.length ≤ x.args.length := by omega
        clear h1 h2
        go_wp2
        refine cut_end (fun a' w' => ∃ v1 v2 u14 u15 u16 u17 u18 u19 u20 u21 u22 u23 u24 u25 u26 u27 u28 u29 u30 u31 u32 u33 u34 u35 u36 u37 u38 u39 u40 u41 u42 u43 u44 u45 u46 u47 u48 u49 u50 u51 u52 u53 u54 u55, a' = { tmps := #[.agg #[.int .i64 t.h, .slice a t.args.length c], .agg #[.int .i64 u.h, .slice a2 u.args.length c2], .pointer (some ⟨w.heap.size, 0, none⟩), .pointer (some ⟨w.heap.size + 1, 0, none⟩), u4, v1, v2, .int .i64 ls.length, .pointer (some ⟨B1, 0, none⟩), .pointer (some ⟨B2, 0, none⟩), u10, u11, u12, u13, u14, u15, u16, u17, u18, u19, u20, u21, u22, u23, u24, u25, u26, u27, u28, u29, u30, u31, u32, u33, u34, u35, u36, u37, u38, u39, u40, u41, u42, u43, u44, u45, u46, u47, u48, u49, u50, u51, u52, u53, u54, u55], defers := [] } ∧ Stk w w' v1 v2 (ls ++ x.args) (rs ++ y.args)) ?_ ?_
        · have kk1 := (Array.getElem?_eq_some_iff.1 k1').1
          have kk2 := (Array.getElem?_eq_some_iff.1 k2').1
          have hS : ∀ W' : World, W'.heap[B1]? = W3.heap[B1]? → W'.heap[B2]? = W3.heap[B2]? → W'.cell? ⟨B1, 1, none⟩ = some (.slice ax x.args.length cx) ∧ W'.cell? ⟨B2, 1, none⟩ = some (.slice ay y.args.length cy) := fun W' e1 e2 => by
            obtain ⟨-, -, z1, -, -⟩ := box2 (e1.trans k1')
            obtain ⟨-, -, y1, -, -⟩ := box2 (e2.trans k2')
            exact ⟨z1, y1⟩
          refine drawn_two (fun W' => W'.cell? ⟨B1, 1, none⟩ = some (.slice ax x.args.length cx) ∧ W'.cell? ⟨B2, 1, none⟩ = some (.slice ay y.args.length cy)) [.take 0, .take 1, .take 2, .take 4, .take 5, .take 6, .one 3, .one 7, .take 8, .take 9] (by kernel_rfl) (by kernel_rfl) (by kernel_rfl) (by kernel_rfl) (fun _ _ _ _ _ h => h) (hS _ rfl rfl) ?_
          iterate 6 (refine p_take (v := ?_) rfl (by rfl) ?_ ?_; rotate_left; (intro w hS; obtain ⟨S1, S2⟩ := hS; go_simp; try with_reducible rfl); simp only [Act.put, List.setIfInBounds_toArray, List.set_cons_zero, List.set_cons_succ])
          have hWd := hW3.drew
          generalize hV : W3.drew = V at *
          have eB : ∀ b : Nat, V.heap[b]? = W3.heap[b]? := fun b => by rw [← hV]; rfl
          have P1 := HP1.out.below hWd
          have P2 := HP2.out.below hWd
          have hap : g1 ≠ g2 := fun h => HAP.out g1 rfl (by simp [Value.ownBlock, h])
          have tx' : RepD (fun b => w.heap.size ≤ b ∨ (Value.slice (some ⟨g1, 0, none⟩) ls.length cap1).ownBlock = some b) V (.row 2 (x.args.map Tm.d)) [.slice ax x.args.length cx] := by
            have := (tx.below hWd).bar (B := fun b => w.heap.size ≤ b ∨ (Value.slice (some ⟨g1, 0, none⟩) ls.length cap1).ownBlock = some b) fun b _ h => by
              rcases h with h | h
              · exact .inl h
              · exact .inl (by simp [Value.ownBlock] at h; omega)
            simpa only [Terms, Tm.ds_eq] using this
          have ty' : Terms (fun b => w.heap.size ≤ b) V (.slice ay y.args.length cy) y.args := (ty.below hWd).bar fun b _ h => .inl h
          have hVs := hWd.size
          refine p_one rfl (by rfl) ?_
          intro K hK
          refine wp_app_all (.tmp 48) (.tmp 50) 23 rfl w.heap.size 25 (.agg #[.int .i64 0, .slice none 0 0]) 2 32 Try.underlying23 (by kernel_rfl) rfl (by decide) (v := .slice (some ⟨g1, 0, none⟩) ls.length cap1) (xv := .slice ax x.args.length cx) rfl rfl P1 tx' (fun d hd => by obtain ⟨z, -, rfl⟩ := List.mem_map.1 hd; exact Tm.oneD z) (by simp [maxLen]; omega) (by simp; omega) (by omega) ?_
          intro v1 w1 o1 kp1 ob1 ⟨ad1, cp1, hv1⟩
          have nB1 : V.heap.size ≤ w1.heap.size := kp1.size
          have kB1 : ∀ b, b < V.heap.size → b ≠ g1 → w1.heap[b]? = V.heap[b]? := fun b hb hne => kp1.block b hb (by simp [Value.ownBlock]; omega)
          have lt1 := o1.lt
          subst hv1
          have lB1 : B1 < V.heap.size := by rw [← hV]; exact kk1
          have lB2 : B2 < V.heap.size := by rw [← hV]; exact kk2
          refine hK.out _ _ (hS _ ((kB1 _ lB1 (by omega)).trans (eB _)) ((kB1 _ lB2 (by omega)).trans (eB _))) ?_
          clear hK K
          simp only [Act.put, List.setIfInBounds_toArray, List.set_cons_zero, List.set_cons_succ]
          have P2' := P2.keep kp1 (fun b _ hb h => by simp [Value.ownBlock] at h; omega) (fun b hb h => by simp [Value.ownBlock] at h hb; omega)
          have ty2 : RepD (fun b => w.heap.size ≤ b ∨ (Value.slice (some ⟨g2, 0, none⟩) ls.length cap2).ownBlock = some b) w1 (.row 2 (y.args.map Tm.d)) [.slice ay y.args.length cy] := by
            have := (ty'.keep kp1 (fun b _ hb h => by simp [Value.ownBlock] at h; omega)).bar (B := fun b => w.heap.size ≤ b ∨ (Value.slice (some ⟨g2, 0, none⟩) ls.length cap2).ownBlock = some b) fun b _ h => by
              rcases h with h | h
              · exact h
              · simp [Value.ownBlock] at h; omega
            simpa only [Terms, Tm.ds_eq] using this
          refine p_one rfl (by rfl) ?_
          intro K hK
          refine wp_app_all (.tmp 52) (.tmp 54) 23 rfl w.heap.size 25 (.agg #[.int .i64 0, .slice none 0 0]) 2 32 Try.underlying23 (by kernel_rfl) rfl (by decide) (v := .slice (some ⟨g2, 0, none⟩) ls.length cap2) (xv := .slice ay y.args.length cy) rfl rfl P2' ty2 (fun d hd => by obtain ⟨z, -, rfl⟩ := List.mem_map.1 hd; exact Tm.oneD z) (by have := HLEN.out; simp [maxLen]; omega) (by have := HLEN.out; simp; omega) (by omega) ?_
          intro v2 w2 o2 kp2 ob2 ⟨ad2, cp2, hv2⟩
          subst hv2
          have kB2 : ∀ b, b < w1.heap.size → b ≠ g2 → w2.heap[b]? = w1.heap[b]? := fun b hb hne => kp2.block b hb (by simp [Value.ownBlock]; omega)
          refine hK.out _ _ (hS _ ((kB2 _ (by omega) (by omega)).trans ((kB1 _ lB1 (by omega)).trans (eB _))) ((kB2 _ (by omega) (by omega)).trans ((kB1 _ lB2 (by omega)).trans (eB _)))) ?_
          clear hK K
          simp only [Act.put, List.setIfInBounds_toArray, List.set_cons_zero, List.set_cons_succ]
          have hfin : Stk w w2 _ _ (ls ++ x.args) (rs ++ y.args) := {
            below := ((more_below hB hWd).trans (kp1.below (fun b hb h => by simp [Value.ownBlock] at h; omega) (by omega))).trans (kp2.below (fun b hb h => by simp [Value.ownBlock] at h; omega) (by omega))
            left := by
              rw [List.map_append]
              exact o1.keep kp2 (fun b _ hb h => by simp [Value.ownBlock] at h; omega) (fun b hb h => by
                have := ob1 b hb
                have := lt1 b hb
                simp [Value.ownBlock] at h this
                rcases ob1 b hb with h9 | h9
                · simp [Value.ownBlock] at h9; omega
                · omega)
            right := by rw [List.map_append]; exact o2
            apart := fun b hb1 hb2 => by
              have l1 := lt1 b hb1
              rcases ob1 b hb1 with h9 | h9
              · simp [Value.ownBlock] at h9
                rcases ob2 b hb2 with h8 | h8
                · simp [Value.ownBlock] at h8; omega
                · omega
              · rcases ob2 b hb2 with h8 | h8
                · simp [Value.ownBlock] at h8; omega
                · omega
            len := by rw [List.length_append, List.length_append, HLEN.out, HXY.out.2]
            size := by rw [Tm.sizes_append]; have := HX1.out; omega }
          simp only [List.length_map] at hfin
          iterate 2 (refine p_take (v := ?_) rfl (by rfl) ?_ ?_; rotate_left; (intro w hS; obtain ⟨S1, S2⟩ := hS; go_simp; try with_reducible rfl); simp only [Act.put, List.setIfInBounds_toArray, List.set_cons_zero, List.set_cons_succ])
          exact p_done ⟨_, _, _, _, _, _, _, _, _, _, _, _, _, _, _, _, _, _, _, _, _, _, _, _, _, _, _, _, _, _, _, _, _, _, _, _, _, _, _, _, _, _, _, _, rfl, hfin⟩
        rintro _ W5 ⟨v1, v2, u14, u15, u16, u17, u18, u19, u20, u21, u22, u23, u24, u25, u26, u27, u28, u29, u30, u31, u32, u33, u34, u35, u36, u37, u38, u39, u40, u41, u42, u43, u44, u45, u46, u47, u48, u49, u50, u51, u52, u53, u54, u55, rfl, hst5⟩
        have HG5 := hide (show sameB t u = true ↔ ls ++ x.args = rs ++ y.args by
          rw [hg.out]
          have hl9 := HLEN.out
          have hxy := HXY.out
          constructor
          · intro h
            obtain ⟨h3, h4⟩ := List.append_inj h hl9
            simp only [List.cons.injEq, and_true] at h4
            rw [h3, h4]
          · intro h
            obtain ⟨h3, h4⟩ := List.append_inj h hl9
            have : x = y := by
              cases x; cases y
              simp only [Tm.h, Tm.args] at hxy h4
              rw [hxy.1, h4]
            rw [h3, this])
        go_wp2
        go_roundg (Tm.sizes (ls ++ x.args) + 1)
        case measure => rw [Tm.sizes_append, Tm.sizes_append]; have := HX1.out; simp only [Tm.sizes]; omega
        case rel => exact ⟨_, _, rfl, hst5, HG5⟩
      · have HX := hide (show sameB t u = false by
          cases hb : sameB t u with
          | false => rfl
          | true =>
            have := hg.out.1 hb
            have h9 := List.append_inj_right' this rfl
            simp only [List.cons.injEq, and_true] at h9
            exact absurd (by rw [h9]; exact ⟨rfl, rfl⟩) hh)
        have hB9 := more_below hB hW3
        clear hg
        by_cases h1 : x.h = y.h
        · have h2 : ¬ x.args.length = y.args.length := fun h => hh ⟨h1, h⟩
          clear hh
          go_wp2
          go_ret
          rw [HX.out]
          exact ⟨rfl, hB9⟩
        · clear hh
          go_wp2
          go_ret
          rw [HX.out]
          exact ⟨rfl, hB9⟩
end Go.Proofs.Ythplndalbfcbbaa
set_option linter.unusedSimpArgs false
set_option linter.unusedVariables false
namespace Go.Proofs.Ythplndalbfcbbaa
open Go.RowKit
mutual
def Tm.heads : Tm → List Int
  | .node h l => h :: Tm.headsL l
def Tm.headsL : List Tm → List Int
  | [] => []
  | t :: ts => t.heads ++ Tm.headsL ts
end
theorem Tm.heads_eq (t : Tm) : t.heads = t.h :: Tm.headsL t.args := by cases t; simp [Tm.heads, Tm.h, Tm.args]
def vstep (l : List Int) (h : Int) : List Int := if h < 0 ∧ (-1 - h) ∉ l then l ++ [-1 - h] else l
theorem mem_foldl_vstep : ∀ (hs : List Int) (l : List Int) (v : Int), v ∈ hs.foldl vstep l ↔ v ∈ l ∨ ∃ h, h ∈ hs ∧ h < 0 ∧ v = -1 - h
  | [], l, v => by simp
  | h :: hs, l, v => by
    rw [List.foldl_cons, mem_foldl_vstep hs]
    unfold vstep
    split
    · rename_i hc
      rw [List.mem_append, List.mem_singleton]
      simp only [List.mem_cons (l := hs)]
      constructor
      · rintro ((h1 | h1) | ⟨x, h1, h2⟩)
        · exact .inl h1
        · exact .inr ⟨h, .inl rfl, hc.1, h1⟩
        · exact .inr ⟨x, .inr h1, h2⟩
      · rintro (h1 | ⟨x, rfl | h1, h2, h3⟩)
        · exact .inl (.inl h1)
        · exact .inl (.inr h3)
        · exact .inr ⟨x, h1, h2, h3⟩
    · rename_i hc
      simp only [List.mem_cons]
      constructor
      · rintro (h1 | ⟨x, h1, h2⟩)
        · exact .inl h1
        · exact .inr ⟨x, .inr h1, h2⟩
      · rintro (h1 | ⟨x, rfl | h1, h2, h3⟩)
        · exact .inl h1
        · refine .inl ?_
          by_cases hm : (-1 - x) ∈ l
          · rw [h3]; exact hm
          · exact absurd ⟨h2, hm⟩ hc
        · exact .inr ⟨x, h1, h2, h3⟩
theorem good_ok {h : Int} {l : List Tm} (hg : (Tm.node h l).good = true) : ¬ (h < 0 ∧ 0 < l.length ∨ h < -256 ∨ 1023 < h ∨ 8 < l.length) := by
  simp only [Tm.good, Bool.and_eq_true] at hg
  have h1 : ¬ okP (.node h l) = false := by rw [hg.1]; simp
  rwa [okP_iff] at h1
mutual
theorem good_heads : ∀ t : Tm, t.good = true → ∀ h, h ∈ t.heads → -256 ≤ h ∧ h ≤ 1023
  | .node x l, hg, h, hh => by
    have hk := good_ok hg
    simp only [Tm.good, Bool.and_eq_true] at hg
    simp only [Tm.heads, List.mem_cons] at hh
    rcases hh with rfl | hh
    · omega
    · exact goods_heads l hg.2 h hh
theorem goods_heads : ∀ l : List Tm, Tm.goods l = true → ∀ h, h ∈ Tm.headsL l → -256 ≤ h ∧ h ≤ 1023
  | [], _, h, hh => by simp [Tm.headsL] at hh
  | t :: ts, hg, h, hh => by
    simp only [Tm.goods, Bool.and_eq_true] at hg
    simp only [Tm.headsL, List.mem_append] at hh
    rcases hh with hh | hh
    · exact good_heads t hg.1 h hh
    · exact goods_heads ts hg.2 h hh
end
theorem good_var {h : Int} {l : List Tm} (hg : (Tm.node h l).good = true) (hn : h < 0) : l = [] := by
  have := good_ok hg
  exact List.eq_nil_of_length_eq_zero (by omega)
end Go.Proofs.Ythplndalbfcbbaa
