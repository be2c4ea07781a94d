/- What the proof of the law rests on: contracts of the functions, plain laws, and words. -/
import Derived.Laws.OwnMore
import Derived.Maps.OwnIn
import Derived.Maps.AppendAt
import Derived.Deep.LoopGhost
import Derived.WalkSmall
import Derived.Test.YthplndalbfcbbaaKUnifyShiftedG2
import Derived.Test.YthplndalbfcbbaaKUnifyShiftedG3
import Derived.Test.YthplndalbfcbbaaKUnifyShiftedG0
set_option linter.unusedSimpArgs false
set_option linter.unusedVariables false
namespace Go.Proofs.Ythplndalbfcbbaa
open Go.RowKit
def OneD (d : D) : Prop := ∀ A w cs, RepD A w d cs → ∀ u, u ∈ cs → u.oneCell' = true
theorem Bd.oneD (b : Bd) : OneD b.d := by
  intro A w cs h u hu
  obtain ⟨s, rfl, hs⟩ := repBd.1 h
  obtain ⟨a, c, rfl, _⟩ := hs.shape
  simp at hu
  rcases hu with rfl | rfl | rfl <;> rfl
def intD (n : Int) : D := .lit (.int .i64 n)
theorem RepR.un {A : Nat → Prop} {w : World} {b k : Nat} : ∀ (ds : List D) (off : Nat), RepR A w b k off ds →
    ∃ css : List (List Value), (∀ cs, cs ∈ css → cs.length = k) ∧ All2 (fun cs d => RepD A w d cs) css ds ∧ ∀ j, j < css.flatten.length → w.cell? ⟨b, off + j, none⟩ = css.flatten[j]?
  | [], off, _ => ⟨[], by simp, .nil, by simp⟩
  | d :: ds, off, h => by
    simp only [RepR] at h
    obtain ⟨⟨cs, h1, h2, h3⟩, h4⟩ := h
    obtain ⟨css, g1, g2, g3⟩ := RepR.un ds (off + k) h4
    refine ⟨cs :: css, fun c hc => ?_, .cons h3 g2, fun j hj => ?_⟩
    · rcases List.mem_cons.1 hc with rfl | hc
      · exact h1
      · exact g1 c hc
    · rw [List.flatten_cons] at hj ⊢
      rw [List.length_append] at hj
      by_cases hk : j < k
      · rw [List.getElem?_append_left (by omega)]; exact h2 j hk
      · rw [List.getElem?_append_right (by omega), h1]
        have := g3 (j - k) (by omega)
        rwa [show off + k + (j - k) = off + j by omega] at this
theorem All2.flat {A : Nat → Prop} {w : World} {css : List (List Value)} {ds : List D} (h : All2 (fun cs d => RepD A w d cs) css ds) (h1 : ∀ d, d ∈ ds → OneD d) : ∀ u, u ∈ css.flatten → u.oneCell' = true := by
  induction h with
  | nil => simp
  | cons h _ ih =>
    intro u hu
    rw [List.flatten_cons] at hu
    rcases List.mem_append.1 hu with hu | hu
    · exact h1 _ (by simp) _ _ _ h u hu
    · exact ih (fun d hd => h1 d (by simp [hd])) u hu
theorem flat_length {css : List (List Value)} {k : Nat} (h : ∀ cs, cs ∈ css → cs.length = k) : css.flatten.length = css.length * k := by
  induction css with
  | nil => simp
  | cons c css ih => rw [List.flatten_cons, List.length_append, h c (by simp), ih (fun cs hc => h cs (by simp [hc])), List.length_cons, Nat.succ_mul]; omega
section
variable {P : Program} {W : World}
theorem run_append_nothing (base : Nat) (t ty e : TypeId) (i : TypeInfo) (size : Nat) (ht : P.underlying t = some (.slice e)) (hi : P.info? e = some i)
    (v : Value) (n : Nat) (xs : List Value) (hown : W.ownsRow base e size v n xs) (c : Nat) :
    (Builtin.append_ #[t, t] ty #[v, .slice none 0 c]).run P W = .ok v W := by
  rcases hown.2 with ⟨rfl, rfl⟩ | ⟨g, cap, cur, rfl, _, _, hnc, _⟩
  · simp [Builtin.append_, run_underlying ht, sizeOf, typeInfo, hi, Builtin.lenOf, Builtin.firstCells]
  · simp [Builtin.append_, run_underlying ht, sizeOf, typeInfo, hi, Builtin.lenOf, Builtin.firstCells, hnc, storeCells]
theorem run_app_all (t ty : TypeId) (base : Nat) (e : TypeId) (z : Value) (k bytes : Nat)
    (ht : P.underlying t = some (.slice e)) (hinfo : (P.info? e).map (fun i => (i.zero, i.size, i.bytes)) = some (some z, k, bytes)) (hzs : z.cells.size = k) (hk : 0 < k)
    {A : Nat → Prop} {v x : Value} {ds ds2 : List D} (hown : OwnD A W base e k v ds) (hd : RepD (fun b => A b ∨ v.ownBlock = some b) W (.row k ds2) [x])
    (h1 : ∀ d, d ∈ ds2 → OneD d) (hn : ds.length + ds2.length ≤ maxLen) (hbytes : (ds.length + ds2.length) * bytes ≤ 140737488355328) (hbase : base ≤ W.heap.size) :
    ∃ v' w', (Builtin.append_ #[t, t] ty #[v, x]).run P W = .ok v' w' ∧ OwnD A w' base e k v' (ds ++ ds2) ∧ Keep (fun b => v.ownBlock ≠ some b) W w' ∧
      (∀ b, v'.ownBlock = some b → v.ownBlock = some b ∨ b = W.heap.size) ∧ (∃ ad cap, v' = .slice ad (ds.length + ds2.length) cap) := by
  obtain ⟨i, hi, hz⟩ := Option.map_eq_some_iff.1 hinfo
  simp only [Prod.mk.injEq] at hz
  obtain ⟨hz0, hz1, hz2⟩ := hz
  obtain ⟨css, g1, g2, g3⟩ := hown
  simp only [RepD] at hd
  obtain ⟨a, n, c, hx, rfl, _, _, hr⟩ := hd
  simp only [List.cons.injEq, and_true] at hx
  subst hx
  -- the source
  have hsrc : (a = none ∧ ds2 = []) ∨ ∃ ad css2, a = some ad ∧ (∀ cs, cs ∈ css2 → cs.length = k) ∧ All2 (fun cs d => RepD (fun b => A b ∨ v.ownBlock = some b) W d cs) css2 ds2 ∧ ∀ j u, css2.flatten[j]? = some u → W.cell? (ad.add j) = some u := by
    rcases Nat.eq_zero_or_pos ds2.length with h0 | h0
    · have hd0 : ds2 = [] := List.eq_nil_of_length_eq_zero h0
      subst hd0
      cases a with
      | none => exact .inl ⟨rfl, rfl⟩
      | some ad => exact .inr ⟨ad, [], rfl, by simp, .nil, by simp⟩
    · obtain ⟨b, off, ha, hs, hb, hr⟩ := hr h0
      obtain ⟨css2, k1, k2, k3⟩ := RepR.un _ _ hr
      refine .inr ⟨_, css2, ha, k1, k2, fun j u hj => ?_⟩
      have hj' : j < css2.flatten.length := (List.getElem?_eq_some_iff.1 hj).1
      have e1 : (⟨b, off, none⟩ : Addr).add j = ⟨b, off + j, none⟩ := by unfold Addr.add; split <;> simp_all
      rw [e1, k3 j hj', hj]
  rcases hsrc with ⟨rfl, rfl⟩ | ⟨ad, css2, rfl, k1, k2, k3⟩
  · have hr := run_append_nothing (P := P) base t ty e i k ht hi v ds.length css.flatten g1 c
    refine ⟨v, W, hr, ?_, Keep.refl _ _, fun b hb => .inl hb, ?_⟩
    · rw [List.append_nil]; exact ⟨css, g1, g2, g3⟩
    · exact OwnD.shape (A := A) ⟨css, g1, g2, g3⟩
  · have hl2 : css2.flatten.length = ds2.length * k := by rw [flat_length k1, k2.length]
    obtain ⟨v', w', hr, r1, r2, _, r4⟩ := run_append_own_at (P := P) W base t ty e i z k bytes ht hi hz0 hz1 hz2 hzs hk v ds.length css.flatten g1 ad ds2.length c css2.flatten hl2 k3 (k2.flat h1) hn hbytes hbase
    have hkp : Keep (fun b => v.ownBlock ≠ some b) W w' := (Keep.refl _ _).grown r2 (fun k hk h => h hk)
    have r4' : ∀ b, v'.ownBlock = some b → v.ownBlock = some b ∨ b = W.heap.size := fun b hb => by
      rcases r4 with h | h
      · exact .inl (by rw [← h]; exact hb)
      · rw [h] at hb; cases hb; exact .inr rfl
    have hf : ∀ c d, RepD (fun b => A b ∨ v.ownBlock = some b) W d c → RepD (fun b => A b ∨ v'.ownBlock = some b) w' d c := fun c d h => h.frame (fun b hb hlt => hkp.block b hlt (fun h => hb (.inr h))) (fun b hb h => by
      rcases h with h | h
      · exact .inl h
      · rcases r4' b h with h | h
        · exact .inr h
        · omega)
    have ho : OwnD A w' base e k v' (ds ++ ds2) := by
      refine ⟨css ++ css2, by simpa using r1, fun c hc => ?_, (g3.imp hf).append (k2.imp hf)⟩
      rcases List.mem_append.1 hc with h | h
      · exact g2 c h
      · exact k1 c h
    exact ⟨v', w', hr, ho, hkp, r4', by have := ho.shape; simpa using this⟩
variable {o : Oper} {a : Act} {K : Act → World → Prop} {Q : Exit → Act → World → Prop}
theorem wp_app_all (s x : Operand) (t : TypeId) (ho : o.op = .call { callee := .builtin .append, args := #[s, x], argTypes := #[t, t] }) (base : Nat) (e : TypeId) (z : Value) (k bytes : Nat)
    (ht : P.underlying t = some (.slice e)) (hinfo : (P.info? e).map (fun i => (i.zero, i.size, i.bytes)) = some (some z, k, bytes)) (hzs : z.cells.size = k) (hk : 0 < k)
    {A : Nat → Prop} {v xv : Value} {ds ds2 : List D} (hs : a.eval s = v) (hx : a.eval x = xv) (hown : OwnD A W base e k v ds) (hd : RepD (fun b => A b ∨ v.ownBlock = some b) W (.row k ds2) [xv])
    (h1 : ∀ d, d ∈ ds2 → OneD d) (hn : ds.length + ds2.length ≤ maxLen) (hbytes : (ds.length + ds2.length) * bytes ≤ 140737488355328) (hbase : base ≤ W.heap.size)
    (h : ∀ v' w', OwnD A w' base e k v' (ds ++ ds2) → Keep (fun b => v.ownBlock ≠ some b) W w' → (∀ b, v'.ownBlock = some b → v.ownBlock = some b ∨ b = W.heap.size) → (∃ ad cap, v' = .slice ad (ds.length + ds2.length) cap) → K (a.put o.dst v') w') :
    Oper.wp P o a W K Q := by
  obtain ⟨v', w', hr, q1, q2, q3, q4⟩ := run_app_all (P := P) t o.type base e z k bytes ht hinfo hzs hk hown hd h1 hn hbytes hbase
  unfold Oper.wp execOp
  simp only [ho, resolve, invoke, builtin, Sem.run_bind, Sem.run_pure, Result.andThen_ok, List.map_toArray, List.map_cons, List.map_nil, hs, hx, hr]
  exact h v' w' q1 q2 q3 q4
theorem app_all_pl {ops : Array Oper} {rest : List Oper} (hgd : o.guard = none) (s x : Operand) (t : TypeId) (ho : o.op = .call { callee := .builtin .append, args := #[s, x], argTypes := #[t, t] }) (base : Nat) (e : TypeId) (z : Value) (k bytes : Nat)
    (ht : P.underlying t = some (.slice e)) (hinfo : (P.info? e).map (fun i => (i.zero, i.size, i.bytes)) = some (some z, k, bytes)) (hzs : z.cells.size = k) (hk : 0 < k)
    {A : Nat → Prop} {v xv : Value} {ds ds2 : List D} (hs : a.eval s = v) (hx : a.eval x = xv) (hown : OwnD A W base e k v ds) (hd : RepD (fun b => A b ∨ v.ownBlock = some b) W (.row k ds2) [xv])
    (h1 : ∀ d, d ∈ ds2 → OneD d) (hn : ds.length + ds2.length ≤ maxLen) (hbytes : (ds.length + ds2.length) * bytes ≤ 140737488355328) (hbase : base ≤ W.heap.size)
    (h : ∀ v' w', OwnD A w' base e k v' (ds ++ ds2) → Keep (fun b => v.ownBlock ≠ some b) W w' → (∀ b, v'.ownBlock = some b → v.ownBlock = some b ∨ b = W.heap.size) → (∃ ad cap, v' = .slice ad (ds.length + ds2.length) cap) → wpList P ops Q rest (a.put o.dst v') w') :
    wpList P ops Q (o :: rest) a W :=
  wpList_plain hgd fun _ hK => wp_app_all s x t ho base e z k bytes ht hinfo hzs hk hs hx hown hd h1 hn hbytes hbase fun v' w' q1 q2 q3 q4 => hK _ _ (h v' w' q1 q2 q3 q4)
end
def Ints (A : Nat → Prop) (w : World) (s : Value) (ns : List Int) : Prop := RepD A w (.row 1 (ns.map intD)) [s]
theorem Ints.shape {A : Nat → Prop} {w : World} {s : Value} {ns : List Int} (h : Ints A w s ns) : ∃ a c, s = .slice a ns.length c ∧ ns.length ≤ c ∧ ns.length ≤ 9223372036854775807 := by
  simp only [Ints, RepD] at h
  obtain ⟨a, n, c, h1, h2, h3, h4, h5⟩ := h
  simp only [List.length_map] at h2
  subst h2
  simp only [List.cons.injEq, and_true] at h1
  exact ⟨a, c, h1, h3, h4⟩
theorem Ints.get {A : Nat → Prop} {w : World} {a : Option Addr} {n c : Nat} {ns : List Int} (h : Ints A w (.slice a n c) ns) (i : Nat) (hi : i < ns.length) :
    ∃ b off, a = some ⟨b, off, none⟩ ∧ b < w.heap.size ∧ ¬ A b ∧ w.cell? ⟨b, off + i, none⟩ = some (.int .i64 ns[i]) := by
  simp only [Ints, RepD] at h
  obtain ⟨a, n, c, h1, h2, h3, h4, h5⟩ := h
  simp only [List.cons.injEq, and_true, Value.slice.injEq] at h1
  obtain ⟨rfl, rfl, rfl⟩ := h1
  simp only [List.length_map] at h2
  obtain ⟨b, off, ha, hs, hb, hr⟩ := h5 (by omega)
  obtain ⟨cs, e1, e2, e3⟩ := hr.at i (by simpa using hi)
  simp only [List.getElem_map, intD, RepD] at e3
  subst e3
  exact ⟨b, off, ha, hs, hb, by simpa using e2 0 (by omega)⟩
end Go.Proofs.Ythplndalbfcbbaa
set_option linter.unusedSimpArgs false
set_option linter.unusedVariables false
namespace Go.Proofs.Ythplndalbfcbbaa
open Go.RowKit
mutual
def Tm.heads : Tm → List Int
  | .node h l => h :: Tm.headsL l
def Tm.headsL : List Tm → List Int
  | [] => []
  | t :: ts => t.heads ++ Tm.headsL ts
end
theorem Tm.headsL_mem (l : List Tm) (h : Int) : h ∈ Tm.headsL l ↔ ∃ t, t ∈ l ∧ h ∈ t.heads := by
  induction l with
  | nil => simp [Tm.headsL]
  | cons t ts ih => simp [Tm.headsL, ih]
theorem Tm.heads_eq (t : Tm) : t.heads = t.h :: Tm.headsL t.args := by cases t; simp [Tm.heads, Tm.h, Tm.args]
def vstep (l : List Int) (h : Int) : List Int := if h < 0 ∧ (-1 - h) ∉ l then l ++ [-1 - h] else l
def varsH (hs : List Int) : List Int := hs.foldl vstep []
def varsT (t : Tm) : List Int := varsH t.heads
theorem mem_foldl_vstep : ∀ (hs : List Int) (l : List Int) (v : Int), v ∈ hs.foldl vstep l ↔ v ∈ l ∨ ∃ h, h ∈ hs ∧ h < 0 ∧ v = -1 - h
  | [], l, v => by simp
  | h :: hs, l, v => by
    rw [List.foldl_cons, mem_foldl_vstep hs]
    unfold vstep
    split
    · rename_i hc
      rw [List.mem_append, List.mem_singleton]
      simp only [List.mem_cons (l := hs)]
      constructor
      · rintro ((h1 | h1) | ⟨x, h1, h2⟩)
        · exact .inl h1
        · exact .inr ⟨h, .inl rfl, hc.1, h1⟩
        · exact .inr ⟨x, .inr h1, h2⟩
      · rintro (h1 | ⟨x, rfl | h1, h2, h3⟩)
        · exact .inl (.inl h1)
        · exact .inl (.inr h3)
        · exact .inr ⟨x, h1, h2, h3⟩
    · rename_i hc
      simp only [List.mem_cons]
      constructor
      · rintro (h1 | ⟨x, h1, h2⟩)
        · exact .inl h1
        · exact .inr ⟨x, .inr h1, h2⟩
      · rintro (h1 | ⟨x, rfl | h1, h2, h3⟩)
        · exact .inl h1
        · refine .inl ?_
          by_cases hm : (-1 - x) ∈ l
          · rw [h3]; exact hm
          · exact absurd ⟨h2, hm⟩ hc
        · exact .inr ⟨x, h1, h2, h3⟩
theorem mem_varsT {t : Tm} {v : Int} : v ∈ varsT t ↔ ∃ h, h ∈ t.heads ∧ h < 0 ∧ v = -1 - h := by simp [varsT, varsH, mem_foldl_vstep]
theorem good_ok {h : Int} {l : List Tm} (hg : (Tm.node h l).good = true) : ¬ (h < 0 ∧ 0 < l.length ∨ h < -256 ∨ 1023 < h ∨ 8 < l.length) := by
  simp only [Tm.good, Bool.and_eq_true] at hg
  have h1 : ¬ okP (.node h l) = false := by rw [hg.1]; simp
  rwa [okP_iff] at h1
mutual
theorem good_heads : ∀ t : Tm, t.good = true → ∀ h, h ∈ t.heads → -256 ≤ h ∧ h ≤ 1023
  | .node x l, hg, h, hh => by
    have hk := good_ok hg
    simp only [Tm.good, Bool.and_eq_true] at hg
    simp only [Tm.heads, List.mem_cons] at hh
    rcases hh with rfl | hh
    · omega
    · exact goods_heads l hg.2 h hh
theorem goods_heads : ∀ l : List Tm, Tm.goods l = true → ∀ h, h ∈ Tm.headsL l → -256 ≤ h ∧ h ≤ 1023
  | [], _, h, hh => by simp [Tm.headsL] at hh
  | t :: ts, hg, h, hh => by
    simp only [Tm.goods, Bool.and_eq_true] at hg
    simp only [Tm.headsL, List.mem_append] at hh
    rcases hh with hh | hh
    · exact good_heads t hg.1 h hh
    · exact goods_heads ts hg.2 h hh
end
theorem good_var {h : Int} {l : List Tm} (hg : (Tm.node h l).good = true) (hn : h < 0) : l = [] := by
  have := good_ok hg
  exact List.eq_nil_of_length_eq_zero (by omega)
theorem node_var_good {v : Int} (h0 : 0 ≤ v) (h1 : v ≤ 255) : (Tm.node (-1 - v) []).good = true := by
  have h2 : ¬ okP (.node (-1 - v) []) = false := by rw [okP_iff]; simp only [Tm.h, Tm.args, List.length_nil]; omega
  simp only [Tm.good, Tm.goods, Bool.and_true]
  cases h3 : okP (.node (-1 - v) []) <;> simp_all
theorem right_size {t : Tm} (h : chk t = 0) : t.size ≤ 400 := by
  unfold chk at h
  split at h
  · cases h
  · omega
end Go.Proofs.Ythplndalbfcbbaa
set_option linter.unusedSimpArgs false
set_option linter.unusedVariables false
namespace Go.Proofs.Ythplndalbfcbbaa
open Go.RowKit
inductive Stp where
  | take (i : Nat)
  | one (i : Nat)
  | two (i j : Nat)
def lenP : List Stp → Nat
  | [] => 0
  | .take _ :: is => lenP is + 1
  | .one _ :: is => lenP is + 1
  | .two _ _ :: is => lenP is + 2
section
variable {P : Program} {ops : Array Oper} {Q : Exit → Act → World → Prop} {S : World → Prop}
def SeqP (P : Program) (ops : Array Oper) (Q : Exit → Act → World → Prop) (S : World → Prop) : List Stp → Act → World → Prop
  | [], a, w => Q .normal a w
  | .take i :: is, a, w => ∃ o v, ops[i]? = some o ∧ YieldsIf P ops S o v a ∧ SeqP P ops Q S is (a.put o.dst v) w
  | .one i :: is, a, w => wpOp P ops Q i (fun a' w' => S w' ∧ SeqP P ops Q S is a' w') a w
  | .two i j :: is, a, w => wpOp P ops Q i (fun a' w' => S w' ∧ wpOp P ops Q j (fun a' w' => S w' ∧ SeqP P ops Q S is a' w') a' w') a w ∧ wpOp P ops Q j (fun a' w' => S w' ∧ wpOp P ops Q i (fun a' w' => S w' ∧ SeqP P ops Q S is a' w') a' w') a w
def okTwo (md : Region.Mode) (ops : Array Oper) : List Stp → Array Bool → Bool
  | [], l => (Region.ready md ops l).isEmpty
  | .take i :: is, l => ((Region.ready md ops l).contains i && Region.free md ops l i) && okTwo md ops is (l.setIfInBounds i true)
  | .one i :: is, l => (Region.ready md ops l == [i]) && okTwo md ops is (l.setIfInBounds i true)
  | .two i j :: is, l => (Region.ready md ops l == [i, j]) && (Region.ready md ops (l.setIfInBounds i true) == [j]) && (Region.ready md ops (l.setIfInBounds j true) == [i]) &&
      ((l.setIfInBounds j true).setIfInBounds i true == (l.setIfInBounds i true).setIfInBounds j true) && okTwo md ops is ((l.setIfInBounds i true).setIfInBounds j true)
theorem anyH_of_seqP {md : Region.Mode} (hsel : Region.noSelect ops = true) (hQ : ∀ c t v a w, Q (.panic c) (a.put (some t) v) w → Q (.panic c) a w) :
    ∀ (order : List Stp) (l : Array Bool) (a : Act) (w : World), okTwo md ops order l = true → S w → SeqP P ops Q S order a w → wpAnyH P md ops Q S (lenP order) l a w
  | [], l, a, w, h, _, hs => by
    have h' : Region.ready md ops l = [] := by simpa [okTwo] using h
    exact wpAnyH_done h' hs 0
  | .one i :: is, l, a, w, h, hS, hs => by
    simp only [okTwo, Bool.and_eq_true, beq_iff_eq] at h
    refine wpAnyH_all h.1 (by simp) fun j hj => ?_
    simp only [List.mem_singleton] at hj
    subst hj
    exact wpOp_mono (fun a' w' h' => ⟨h'.1, anyH_of_seqP hsel hQ is _ a' w' h.2 h'.1 h'.2⟩) hs
  | .two i j :: is, l, a, w, h, hS, hs => by
    simp only [okTwo, Bool.and_eq_true, beq_iff_eq] at h
    obtain ⟨⟨⟨⟨h1, h2⟩, h3⟩, h4⟩, h5⟩ := h
    refine wpAnyH_all h1 (by simp) fun k hk => ?_
    simp only [List.mem_cons, List.not_mem_nil, or_false] at hk
    rcases hk with rfl | rfl
    · refine wpOp_mono (fun a' w' h' => ⟨h'.1, ?_⟩) hs.1
      refine wpAnyH_all h2 (by simp) fun m hm => ?_
      simp only [List.mem_singleton] at hm
      subst hm
      exact wpOp_mono (fun a' w' h' => ⟨h'.1, anyH_of_seqP hsel hQ is _ a' w' h5 h'.1 h'.2⟩) h'.2
    · refine wpOp_mono (fun a' w' h' => ⟨h'.1, ?_⟩) hs.2
      refine wpAnyH_all h3 (by simp) fun m hm => ?_
      simp only [List.mem_singleton] at hm
      subst hm
      exact wpOp_mono (fun a' w' h' => ⟨h'.1, by rw [h4]; exact anyH_of_seqP hsel hQ is _ a' w' h5 h'.1 h'.2⟩) h'.2
  | .take i :: is, l, a, w, h, hS, ⟨o, v, ho, hy, hs⟩ => by
    simp only [okTwo, Bool.and_eq_true] at h
    exact wpAnyH_take ho hsel h.1.2 h.1.1 (fun c a w h9 => by
      cases hd : o.dst with
      | none => rw [hd] at h9; exact h9
      | some t => rw [hd] at h9; exact hQ c t v a w h9) hy hS (anyH_of_seqP hsel hQ is _ _ w h.2 hS hs)
theorem drawn_two {id : Nat} {a : Act} {w : World} (S : World → Prop) (order : List Stp) (hm : P.follows .mixedOrders = true) (hn : (lenP order == ops.size) = true) (hsel : Region.noSelect ops = true)
    (hok : okTwo .any ops order (Array.replicate ops.size false) = true) (hQ : ∀ c t v a w, Q (.panic c) (a.put (some t) v) w → Q (.panic c) a w) (hS : S w.drew) (h : SeqP P ops Q S order a w.drew) : (Code.region id ops true).wp P Q a w := by
  refine wp_region_held (S := S) hm ?_
  have := anyH_of_seqP hsel hQ order _ a w.drew hok hS h
  rw [beq_iff_eq.1 hn] at this
  exact this
variable {os : List Oper} {i j : Nat} {is : List Stp} {o o2 : Oper} {v : Value} {a : Act} {w : World}
theorem p_take (ho : os[i]? = some o) (hw : Region.wanted o (yielded os.toArray a.tmps) = true) (hv : ∀ w, S w → (execOp a.eval o).run P w = .ok (.value v) w) (h : SeqP P os.toArray Q S is (a.put o.dst v) w) : SeqP P os.toArray Q S (.take i :: is) a w :=
  ⟨o, v, by simpa using ho, .inl ⟨hw, hv⟩, h⟩
theorem p_one (ho : os[i]? = some o) (hw : Region.wanted o (yielded os.toArray a.tmps) = true)
    (h : ∀ K' : Act → World → Prop, Hid (∀ a w, S w → SeqP P os.toArray Q S is a w → K' a w) → Oper.wp P o a w K' Q) : SeqP P os.toArray Q S (.one i :: is) a w :=
  wpOp_step (ops := os.toArray) (o := o) (by simpa using ho) fun K' hK => by rw [if_pos hw]; exact h K' (hide fun a w h1 h2 => hK a w ⟨h1, h2⟩)
theorem cut_cap {P : Program} {c : Code} {K : Act → World → Prop} {Q : Exit → Act → World → Prop} {a : Act} {w : World} (R : Act → Act → World → Prop)
    (h : c.wp P (Exit.then (R a) (fun _ _ _ => False)) a w) (k : ∀ a' w', R a a' w' → K a' w') : c.wp P (Exit.then K Q) a w := by
  refine wp_mono h ?_
  intro e a' w' hq
  cases e <;> first | exact k _ _ hq | exact hq.elim
theorem p_done (h : Q .normal a w) : SeqP P os.toArray Q S [] a w := h
end
end Go.Proofs.Ythplndalbfcbbaa
set_option linter.unusedSimpArgs false
set_option linter.unusedVariables false
namespace Go.Proofs.Ythplndalbfcbbaa
open Go.RowKit
section
variable {A : Nat → Prop} {W : World} {base e k : Nat}
theorem All2.unsnoc {β γ : Type} {R : β → γ → Prop} {a : List β} {c : List γ} {y : γ} (h : All2 R a (c ++ [y])) : ∃ a' x, a = a' ++ [x] ∧ All2 R a' c ∧ R x y := by
  induction c generalizing a with
  | nil =>
    cases h with
    | cons h1 h2 => cases h2; exact ⟨[], _, rfl, .nil, h1⟩
  | cons z c ih =>
    cases h with
    | cons h1 h2 =>
      obtain ⟨a', x, rfl, h3, h4⟩ := ih h2
      exact ⟨_ :: a', x, rfl, .cons h1 h3, h4⟩
theorem OwnD.last {v : Value} {ds : List D} {d : D} (hk : 0 < k) (h : OwnD A W base e k v (ds ++ [d])) : ∃ g cap cs, v = .slice (some ⟨g, 0, none⟩) (ds.length + 1) cap ∧ base ≤ g ∧ g < W.heap.size ∧ ds.length + 1 ≤ cap ∧ cap ≤ 9223372036854775807 ∧ cs.length = k ∧ (∀ j, j < k → W.cell? ⟨g, ds.length * k + j, none⟩ = cs[j]?) ∧
    RepD (fun b => A b ∨ b = g) W d cs ∧ OwnD A W base e k (.slice (some ⟨g, 0, none⟩) ds.length cap) ds := by
  obtain ⟨css, h1, h2, h3⟩ := h
  obtain ⟨css', cs, rfl, h4, h5⟩ := h3.unsnoc
  have hlen : css'.length = ds.length := h4.length
  have hl' : ∀ c, c ∈ css' → c.length = k := fun c hc => h2 c (by simp [hc])
  have hcs : cs.length = k := h2 cs (by simp)
  have hfl : css'.flatten.length = ds.length * k := by rw [flat_length hl', hlen]
  have h1' := h1
  rcases h1.2 with ⟨_, h0⟩ | ⟨g, cap, cur, rfl, hg, hh, hn, hm, hs, ht⟩
  · simp at h0
  · rw [List.length_append, List.length_singleton] at hn
    refine ⟨g, cap, cs, by simp, hg, (Array.getElem?_eq_some_iff.1 hh).1, hn, by simpa [maxLen] using hm, hcs, fun j hj => ?_, ?_, ?_⟩
    · have := h1'.cells (g := g) rfl (ds.length * k + j) (cs[j]) (by simp [List.getElem?_append_right, hfl])
      rw [add_plain] at this
      rw [this]; simp
    · exact h5.bar fun b _ h => by
        rcases h with h | h
        · exact .inl h
        · exact .inr (by simp [Value.ownBlock, h])
    · refine ⟨css', ownsRow_pop (last := cs) hfl (by simpa using h1'), hl', h4.imp fun c d hd => hd.bar fun b _ h => ?_⟩
      rcases h with h | h
      · exact .inl h
      · exact .inr (by simpa [Value.ownBlock] using h)
end
end Go.Proofs.Ythplndalbfcbbaa
set_option linter.unusedSimpArgs false
set_option linter.unusedVariables false
namespace Go.Proofs.Ythplndalbfcbbaa
open Go.RowKit
set_option maxHeartbeats 1000000 in
theorem subapply_calls (bs : List Bd) (t : Tm) (m : Nat) (A : Nat → Prop) (h : Int) (s sb : Value) (w : World) (hA : ∀ b, A b → b < w.heap.size) (hrange : ∀ b, b ∈ bs → -9223372036854775808 ≤ b.v ∧ b.v ≤ 9223372036854775807) (hm : 1 ≤ m) (hbm : ∀ b, b ∈ bs → b.t.size ≤ m) (hm9 : m ≤ 1000000000) (ht : t.size * m ≤ 1000000000) (hsb : Binds A w sb bs) (hs : IsTm A w h s t) :
    Calls Try.prog 27 #[sb, .agg #[.int .i64 h, s]] w fun e w' => GivesE A w (applyT bs t) e w' := by
  obtain ⟨rfl, a, c, rfl, hlc, hc⟩ := hs.shape
  obtain ⟨ab, cb, rfl, hlcb, hcb⟩ := hsb.shape
  have ht1 : t.size ≤ 1000000000 := Nat.le_trans (Nat.le_mul_of_pos_right _ (by omega)) ht
  have hput := hide (Nat.le_trans (putT_size bs hm hbm t) ht)
  have hb9 : ∀ b, b ∈ bs → b.t.size ≤ 1000000000 := fun b hb => Nat.le_trans (hbm b hb) hm9
  go_enter Try.func27, Try.ntmps27
  refine seq_cut (fun a' w' => a' = { tmps := #[.slice ab bs.length cb, .agg #[.int .i64 t.h, .slice a t.args.length c], undef, .pointer (some ⟨w.heap.size, 0, none⟩), .pointer (some ⟨w.heap.size + 1, 0, none⟩), .int .i64 0, undef, undef, undef, undef, undef, undef, undef, undef, undef, undef, undef, undef, undef, undef, undef, undef, undef], defers := [] } ∧ w' = (w.alloc (.cells #[.int .i64 t.h, .slice a t.args.length c] 25)).alloc (.cells #[.int .i64 0, .slice none 0 0] 25)) ?_ ?_
  · go_wp2
    first | done | exact ⟨rfl, rfl⟩ | exact ⟨trivial, trivial⟩
  rintro _ W ⟨rfl, HW⟩
  have hWa : W = allocs w [.cells #[.int .i64 t.h, .slice a t.args.length c] 25, .cells #[.int .i64 0, .slice none 0 0] 25] := HW
  have hB : Below w.heap.size w W := by rw [hWa]; exact allocs_below _ _
  have hsW : W.heap.size = w.heap.size + 2 := by rw [hWa]; exact allocs_size _ _
  have b0 : W.heap[w.heap.size]? = some (.cells #[.int .i64 t.h, .slice a t.args.length c] 25 (0, 0)) := by rw [hWa]; exact allocs_get _ _ 0 _ rfl
  have b1 : W.heap[w.heap.size + 1]? = some (.cells #[.int .i64 0, .slice none 0 0] 25 (0, 0)) := by rw [hWa]; exact allocs_get _ _ 1 _ rfl
  clear HW hWa
  have HsW := hide hsW
  clear hsW
  have Later : ∀ W', Below W.heap.size W W' → Below w.heap.size w W' ∧ W'.heap[w.heap.size]? = some (.cells #[.int .i64 t.h, .slice a t.args.length c] 25 (0, 0)) ∧ W'.heap[w.heap.size + 1]? = some (.cells #[.int .i64 0, .slice none 0 0] 25 (0, 0)) :=
    fun W' hW => ⟨more_below hB hW, (hW.block _ (by have := HsW.out; omega)).trans b0, (hW.block _ (by have := HsW.out; omega)).trans b1⟩
  go_wp2_with fail
  refine (subcheck_calls bs A _ _ hb9 (hsb.below hB)).mono ?_
  rintro e w1 ⟨rfl, h1⟩
  obtain ⟨hB1, x0, x1⟩ := Later _ h1
  obtain ⟨-, z0, z1, -, -⟩ := box2 x0
  obtain ⟨-, y0, y1, y2, y3⟩ := box2 x1
  cases hr : rightBs bs
  · have HE := hide (show applyT bs t = (.node 0 [], 1) by simp [applyT, hr])
    obtain ⟨-, q0, q1, -, -⟩ := box2 (box2_set x1 (.int .i64 0) (.slice none 0 0))
    have hBe := set2_below (b := w.heap.size + 1) hB1 (by omega) (.int .i64 0) (.slice none 0 0)
    have HC := hide (show (check3 bs != 0) = true by simp [check3, hr])
    have HC2 := HC.out
    clear hr Later h1
    go_wp2
    exact bodyPost_ret (v := .tuple #[.agg #[.int .i64 0, .slice none 0 0], .int .i64 1]) (by simp [results, Try.results27, go_sem, q0, q1]) rfl (by rw [HE.out]; exact ⟨_, rfl, Terms.nil _ _, hBe⟩)
  · have HR := hide hr
    have HC := hide (show (check3 bs != 0) = false by simp [check3, hr])
    have HC2 := HC.out
    clear hr
    go_wp2_with fail
    refine (check_calls t A _ _ _ (hs.below hB1) ht1).mono ?_
    rintro e w2 ⟨rfl, h2⟩
    have h2' := more_below h1 h2
    clear h1 h2 y0 y1 y2 y3 z0 z1 x0 x1
    obtain ⟨hB2, x0, x1⟩ := Later _ h2'
    obtain ⟨-, z0, z1, -, -⟩ := box2 x0
    obtain ⟨-, y0, y1, y2, y3⟩ := box2 x1
    cases hr2 : rightB t
    · have HE := hide (show applyT bs t = (.node 0 [], 1) by simp [applyT, hr2])
      obtain ⟨-, q0, q1, -, -⟩ := box2 (box2_set x1 (.int .i64 0) (.slice none 0 0))
      have hBe := set2_below (b := w.heap.size + 1) hB2 (by omega) (.int .i64 0) (.slice none 0 0)
      have HD := hide (show (chk t != 0) = true by simpa [rightB] using hr2)
      have HD2 := HD.out
      clear hr2 Later
      go_wp2
      exact bodyPost_ret (v := .tuple #[.agg #[.int .i64 0, .slice none 0 0], .int .i64 1]) (by simp [results, Try.results27, go_sem, q0, q1]) rfl (by rw [HE.out]; exact ⟨_, rfl, Terms.nil _ _, hBe⟩)
    · have HE := hide (show applyT bs t = endT (putT bs t) by simp [applyT, HR.out, hr2])
      have hg := chk_good hr2
      have HD := hide (show (chk t != 0) = false by simpa [rightB] using hr2)
      have HD2 := HD.out
      clear hr2
      go_wp2_with fail
      have hS : ∀ W', Below W.heap.size W W' → Below w.heap.size w W' ∧ W'.cell? ⟨w.heap.size, 0, none⟩ = some (.int .i64 t.h) ∧ W'.cell? ⟨w.heap.size, 1, none⟩ = some (.slice a t.args.length c) := fun W' hW => by
        obtain ⟨-, x0, -⟩ := Later _ hW
        obtain ⟨-, z0, z1, -, -⟩ := box2 x0
        exact ⟨more_below hB hW, z0, z1⟩
      refine drawn_region (fun W' => Below w.heap.size w W' ∧ W'.cell? ⟨w.heap.size, 0, none⟩ = some (.int .i64 t.h) ∧ W'.cell? ⟨w.heap.size, 1, none⟩ = some (.slice a t.args.length c)) [(0, false), (1, false), (2, true), (3, false), (4, true), (5, true), (6, false), (7, false), (8, true), (9, false)] (by kernel_rfl) (by kernel_rfl) (by kernel_rfl) (by kernel_rfl) (fun _ _ _ _ _ h => h) (hS _ h2'.drew) ?_
      iterate 2 (refine seq_take (v := ?_) rfl (by rfl) ?_ ?_; rotate_left; (intro w hS; obtain ⟨-, hS1, hS2⟩ := hS; go_simp; try with_reducible rfl); simp only [Act.put, List.setIfInBounds_toArray, List.set_cons_zero, List.set_cons_succ])
      clear y0 y1 y2 y3 z0 z1 x0 x1
      refine seq_do rfl (by rfl) ?_
      intro K hK
      go_simp
      have hbar : ∀ b, b < w.heap.size → (fun b => A b ∨ b = w.heap.size + 1) b → A b := fun b hb h => by
        rcases h with h | h
        · exact h
        · omega
      refine (open_calls bs (fun b => A b ∨ b = w.heap.size + 1) _ _ hrange ((hsb.bar hbar).below hB2.drew)).mono ?_
      rintro e w3 ⟨rfl, hm3, h3⟩
      have h3' : Below W.heap.size W w3 := more_below h2'.drew h3
      clear h3
      refine hK.out _ _ (hS _ h3') ?_
      clear hK K
      iterate 1 (refine seq_take (v := ?_) rfl (by rfl) ?_ ?_; rotate_left; (intro w hS; obtain ⟨-, hS1, hS2⟩ := hS; go_simp; try with_reducible rfl); simp only [Act.put, List.setIfInBounds_toArray, List.set_cons_zero, List.set_cons_succ])
      refine seq_do rfl (by rfl) ?_
      intro K hK
      go_simp
      have hrb := rbT_put bs t hg
      refine (rebuild_calls (serves_table w2.heap.size bs) _ t (fun b => A b ∨ b = w.heap.size + 1) _ _ _ (Nat.le_refl _) (fun b hb => ?_) hg hm3 (IsTm.below (A := fun b => A b ∨ b = w.heap.size + 1) (hs.bar hbar) (more_below hB h3'))).mono ?_
      · have := h3'.size; have := HsW.out
        rcases hb with hb | hb
        · have := hA b hb; omega
        · omega
      rw [hrb]
      clear hrb
      rintro e w4 ⟨s4, rfl, hT4, h4⟩
      have h4' := more_below h3' h4
      obtain ⟨a4, c4, rfl, -, -⟩ := hT4.shape
      clear h4
      refine hK.out _ _ (hS _ h4') ?_
      clear hK K
      refine seq_do rfl (by rfl) ?_
      intro K hK
      go_simp
      refine (end_calls (putT bs t) (fun b => A b ∨ b = w.heap.size + 1) _ _ _ hput.out ⟨rfl, hT4⟩).mono ?_
      rintro e w5 ⟨s5, rfl, hT5, h5⟩
      have h5' := more_below h4' h5
      obtain ⟨a5, c5, rfl, -, -⟩ := hT5.shape
      obtain ⟨hB5, x0, x1⟩ := Later _ h5'
      obtain ⟨-, y0, y1, y2, y3⟩ := box2 x1
      generalize hR : endT (putT bs t) = R at *
      obtain ⟨rt, re⟩ := R
      clear h5
      refine hK.out _ _ (hS _ h5') ?_
      clear hK K
      iterate 2 (refine seq_take (v := ?_) rfl (by rfl) ?_ ?_; rotate_left; (intro w hS; obtain ⟨-, hS1, hS2⟩ := hS; go_simp; try with_reducible rfl); simp only [Act.put, List.setIfInBounds_toArray, List.set_cons_zero, List.set_cons_succ])
      refine seq_do rfl (by rfl) ?_
      intro K hK
      go_simp
      obtain ⟨-, q0, q1, -, -⟩ := box2 (box2_set x1 (.int .i64 rt.h) (.slice a5 rt.args.length c5))
      have hBe := set2_below (b := w.heap.size + 1) hB5 (by omega) (.int .i64 rt.h) (.slice a5 rt.args.length c5)
      have hkp := ((Keep.refl (fun b => b ≠ w.heap.size + 1) w5).setCell (p := ⟨w.heap.size + 1, 0, none⟩) (by simp) (.int .i64 rt.h)).setCell (p := ⟨w.heap.size + 1, 1, none⟩) (by simp) (.slice a5 rt.args.length c5)
      have hTe := hT5.keep (S := fun b => b ≠ w.heap.size + 1) hkp (fun b _ hb' e => hb' (.inr e))
      obtain ⟨-, p0, p1, -, -⟩ := box2 (hkp.obj (by simp) x0)
      refine hK.out _ _ ⟨hBe, p0, p1⟩ ?_
      clear hK K
      refine seq_take (v := ?_) rfl (by rfl) ?_ ?_
      rotate_left
      · intro w hS
        go_simp
        try with_reducible rfl
      simp only [Act.put, List.setIfInBounds_toArray, List.set_cons_zero, List.set_cons_succ]
      refine seq_done ?_
      go_wp2
      exact bodyPost_ret (v := .tuple #[.agg #[.int .i64 rt.h, .slice a5 rt.args.length c5], .int .i64 re]) (by simp [results, Try.results27, go_sem, q0, q1]) rfl (by rw [HE.out]; exact ⟨_, rfl, hTe.bar (fun _ _ h => .inl h), hBe⟩)
end Go.Proofs.Ythplndalbfcbbaa
set_option linter.unusedSimpArgs false
set_option linter.unusedVariables false
namespace Go.Proofs.Ythplndalbfcbbaa
open Go.RowKit
theorem terms_block {A : Nat → Prop} {W : World} {b : Nat} {T : TypeId} {cs : List (List Value)} {ts : List Tm} (hb : W.heap[b]? = some (.cells cs.flatten.toArray T (0, 0))) (hA : ¬ A b) (hl : cs.length = ts.length) (hm : ts.length ≤ 1000000)
    (h : All2 (fun c t => ∃ s, c = [Value.int .i64 t.h, s] ∧ Terms A W s t.args) cs ts) : Terms A W (.slice (some ⟨b, 0, none⟩) ts.length ts.length) ts := by
  rw [Terms, Tm.ds_eq]
  simp only [RepD]
  refine ⟨_, _, _, rfl, by simp, Nat.le_refl _, by omega, fun h0 => ⟨b, 0, rfl, (Array.getElem?_eq_some_iff.1 hb).1, hA, ?_⟩⟩
  refine RepR.of cs _ 0 (fun c hc => ?_) (fun j hj => ?_) ?_
  · obtain ⟨t, _, s, rfl, _⟩ := h.mem c hc; rfl
  · rw [Nat.zero_add]; simp only [World.cell?, hb]; simp
  · clear hb hl hm h0
    induction h with
    | nil => exact .nil
    | cons h _ ih =>
      obtain ⟨s, rfl, hs⟩ := h
      exact .cons (repTm.2 ⟨s, rfl, hs⟩) ih
theorem terms1 {A : Nat → Prop} {W : World} {b : Nat} {T : TypeId} {s : Value} {t : Tm} (hb : W.heap[b]? = some (.cells #[.int .i64 t.h, s] T (0, 0))) (hA : ¬ A b) (h : Terms A W s t.args) : Terms A W (.slice (some ⟨b, 0, none⟩) 1 1) [t] :=
  terms_block (cs := [[.int .i64 t.h, s]]) (ts := [t]) hb hA rfl (by simp) (.cons ⟨s, rfl, h⟩ .nil)
theorem terms2 {A : Nat → Prop} {W : World} {b : Nat} {T : TypeId} {s1 s2 : Value} {t1 t2 : Tm} (hb : W.heap[b]? = some (.cells #[.int .i64 t1.h, s1, .int .i64 t2.h, s2] T (0, 0))) (hA : ¬ A b) (h1 : Terms A W s1 t1.args) (h2 : Terms A W s2 t2.args) : Terms A W (.slice (some ⟨b, 0, none⟩) 2 2) [t1, t2] :=
  terms_block (cs := [[.int .i64 t1.h, s1], [.int .i64 t2.h, s2]]) (ts := [t1, t2]) hb hA rfl (by simp) (.cons ⟨s1, rfl, h1⟩ (.cons ⟨s2, rfl, h2⟩ .nil))
end Go.Proofs.Ythplndalbfcbbaa
