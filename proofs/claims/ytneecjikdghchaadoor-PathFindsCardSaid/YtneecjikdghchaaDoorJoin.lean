/- append of a whole slice onto a row of the call's own; rows of numbers. -/
import Derived.Laws.OwnMore
import Derived.Maps.OwnIn
import Derived.Maps.AppendAt
import Derived.Test.YtneecjikdghchaaDoorOwn
set_option linter.unusedSimpArgs false
set_option linter.unusedVariables false
namespace Go.Proofs.YtneecjikdghchaaDoor
open Go.RowKit

/-- Each cell of the datum fits one. -/
def OneD (d : D) : Prop := ∀ A w cs, RepD A w d cs → ∀ u, u ∈ cs → u.oneCell' = true
theorem Tm.oneD (t : Tm) : OneD t.d := by
  intro A w cs h u hu
  obtain ⟨s, rfl, hs⟩ := repTm.1 h
  obtain ⟨a, c, rfl, _⟩ := hs.shape
  simp at hu
  rcases hu with rfl | rfl <;> rfl
theorem Bd.oneD (b : Bd) : OneD b.d := by
  intro A w cs h u hu
  obtain ⟨s, rfl, hs⟩ := repBd.1 h
  obtain ⟨a, c, rfl, _⟩ := hs.shape
  simp at hu
  rcases hu with rfl | rfl | rfl <;> rfl
def intD (n : Int) : D := .lit (.int .i64 n)
theorem intD_oneD (n : Int) : OneD (intD n) := by
  intro A w cs h u hu
  simp only [intD, RepD] at h
  subst h
  simp at hu; subst hu; rfl

theorem RepR.un {A : Nat → Prop} {w : World} {b k : Nat} : ∀ (ds : List D) (off : Nat), RepR A w b k off ds →
    ∃ css : List (List Value), (∀ cs, cs ∈ css → cs.length = k) ∧ All2 (fun cs d => RepD A w d cs) css ds ∧ ∀ j, j < css.flatten.length → w.cell? ⟨b, off + j, none⟩ = css.flatten[j]?
  | [], off, _ => ⟨[], by simp, .nil, by simp⟩
  | d :: ds, off, h => by
    simp only [RepR] at h
    obtain ⟨⟨cs, h1, h2, h3⟩, h4⟩ := h
    obtain ⟨css, g1, g2, g3⟩ := RepR.un ds (off + k) h4
    refine ⟨cs :: css, fun c hc => ?_, .cons h3 g2, fun j hj => ?_⟩
    · rcases List.mem_cons.1 hc with rfl | hc
      · exact h1
      · exact g1 c hc
    · rw [List.flatten_cons] at hj ⊢
      rw [List.length_append] at hj
      by_cases hk : j < k
      · rw [List.getElem?_append_left (by omega)]; exact h2 j hk
      · rw [List.getElem?_append_right (by omega), h1]
        have := g3 (j - k) (by omega)
        rwa [show off + k + (j - k) = off + j by omega] at this
theorem All2.flat {A : Nat → Prop} {w : World} {css : List (List Value)} {ds : List D} (h : All2 (fun cs d => RepD A w d cs) css ds) (h1 : ∀ d, d ∈ ds → OneD d) : ∀ u, u ∈ css.flatten → u.oneCell' = true := by
  induction h with
  | nil => simp
  | cons h _ ih =>
    intro u hu
    rw [List.flatten_cons] at hu
    rcases List.mem_append.1 hu with hu | hu
    · exact h1 _ (by simp) _ _ _ h u hu
    · exact ih (fun d hd => h1 d (by simp [hd])) u hu
theorem flat_length {css : List (List Value)} {k : Nat} (h : ∀ cs, cs ∈ css → cs.length = k) : css.flatten.length = css.length * k := by
  induction css with
  | nil => simp
  | cons c css ih => rw [List.flatten_cons, List.length_append, h c (by simp), ih (fun cs hc => h cs (by simp [hc])), List.length_cons, Nat.succ_mul]; omega

section
variable {P : Program} {W : World}
theorem run_append_nothing (base : Nat) (t ty e : TypeId) (i : TypeInfo) (size : Nat) (ht : P.underlying t = some (.slice e)) (hi : P.info? e = some i)
    (v : Value) (n : Nat) (xs : List Value) (hown : W.ownsRow base e size v n xs) (c : Nat) :
    (Builtin.append_ #[t, t] ty #[v, .slice none 0 c]).run P W = .ok v W := by
  rcases hown.2 with ⟨rfl, rfl⟩ | ⟨g, cap, cur, rfl, _, _, hnc, _⟩
  · simp [Builtin.append_, run_underlying ht, sizeOf, typeInfo, hi, Builtin.lenOf, Builtin.firstCells]
  · simp [Builtin.append_, run_underlying ht, sizeOf, typeInfo, hi, Builtin.lenOf, Builtin.firstCells, hnc, storeCells]

theorem run_app_all (t ty : TypeId) (base : Nat) (e : TypeId) (z : Value) (k bytes : Nat)
    (ht : P.underlying t = some (.slice e)) (hinfo : (P.info? e).map (fun i => (i.zero, i.size, i.bytes)) = some (some z, k, bytes)) (hzs : z.cells.size = k) (hk : 0 < k)
    {A : Nat → Prop} {v x : Value} {ds ds2 : List D} (hown : OwnD A W base e k v ds) (hd : RepD (fun b => A b ∨ v.ownBlock = some b) W (.row k ds2) [x])
    (h1 : ∀ d, d ∈ ds2 → OneD d) (hn : ds.length + ds2.length ≤ maxLen) (hbytes : (ds.length + ds2.length) * bytes ≤ 140737488355328) (hbase : base ≤ W.heap.size) :
    ∃ v' w', (Builtin.append_ #[t, t] ty #[v, x]).run P W = .ok v' w' ∧ OwnD A w' base e k v' (ds ++ ds2) ∧ Keep (fun b => v.ownBlock ≠ some b) W w' ∧
      (∀ b, v'.ownBlock = some b → v.ownBlock = some b ∨ b = W.heap.size) ∧ (∃ ad cap, v' = .slice ad (ds.length + ds2.length) cap) := by
  obtain ⟨i, hi, hz⟩ := Option.map_eq_some_iff.1 hinfo
  simp only [Prod.mk.injEq] at hz
  obtain ⟨hz0, hz1, hz2⟩ := hz
  obtain ⟨css, g1, g2, g3⟩ := hown
  simp only [RepD] at hd
  obtain ⟨a, n, c, hx, rfl, _, _, hr⟩ := hd
  simp only [List.cons.injEq, and_true] at hx
  subst hx
  -- the source
  have hsrc : (a = none ∧ ds2 = []) ∨ ∃ ad css2, a = some ad ∧ (∀ cs, cs ∈ css2 → cs.length = k) ∧ All2 (fun cs d => RepD (fun b => A b ∨ v.ownBlock = some b) W d cs) css2 ds2 ∧ ∀ j u, css2.flatten[j]? = some u → W.cell? (ad.add j) = some u := by
    rcases Nat.eq_zero_or_pos ds2.length with h0 | h0
    · have hd0 : ds2 = [] := List.eq_nil_of_length_eq_zero h0
      subst hd0
      cases a with
      | none => exact .inl ⟨rfl, rfl⟩
      | some ad => exact .inr ⟨ad, [], rfl, by simp, .nil, by simp⟩
    · obtain ⟨b, off, ha, hs, hb, hr⟩ := hr h0
      obtain ⟨css2, k1, k2, k3⟩ := RepR.un _ _ hr
      refine .inr ⟨_, css2, ha, k1, k2, fun j u hj => ?_⟩
      have hj' : j < css2.flatten.length := (List.getElem?_eq_some_iff.1 hj).1
      have e1 : (⟨b, off, none⟩ : Addr).add j = ⟨b, off + j, none⟩ := by unfold Addr.add; split <;> simp_all
      rw [e1, k3 j hj', hj]
  rcases hsrc with ⟨rfl, rfl⟩ | ⟨ad, css2, rfl, k1, k2, k3⟩
  · have hr := run_append_nothing (P := P) base t ty e i k ht hi v ds.length css.flatten g1 c
    refine ⟨v, W, hr, ?_, Keep.refl _ _, fun b hb => .inl hb, ?_⟩
    · rw [List.append_nil]; exact ⟨css, g1, g2, g3⟩
    · exact OwnD.shape (A := A) ⟨css, g1, g2, g3⟩
  · have hl2 : css2.flatten.length = ds2.length * k := by rw [flat_length k1, k2.length]
    obtain ⟨v', w', hr, r1, r2, _, r4⟩ := run_append_own_at (P := P) W base t ty e i z k bytes ht hi hz0 hz1 hz2 hzs hk v ds.length css.flatten g1 ad ds2.length c css2.flatten hl2 k3 (k2.flat h1) hn hbytes hbase
    have hkp : Keep (fun b => v.ownBlock ≠ some b) W w' := (Keep.refl _ _).grown r2 (fun k hk h => h hk)
    have r4' : ∀ b, v'.ownBlock = some b → v.ownBlock = some b ∨ b = W.heap.size := fun b hb => by
      rcases r4 with h | h
      · exact .inl (by rw [← h]; exact hb)
      · rw [h] at hb; cases hb; exact .inr rfl
    have hf : ∀ c d, RepD (fun b => A b ∨ v.ownBlock = some b) W d c → RepD (fun b => A b ∨ v'.ownBlock = some b) w' d c := fun c d h => h.frame (fun b hb hlt => hkp.block b hlt (fun h => hb (.inr h))) (fun b hb h => by
      rcases h with h | h
      · exact .inl h
      · rcases r4' b h with h | h
        · exact .inr h
        · omega)
    have ho : OwnD A w' base e k v' (ds ++ ds2) := by
      refine ⟨css ++ css2, by simpa using r1, fun c hc => ?_, (g3.imp hf).append (k2.imp hf)⟩
      rcases List.mem_append.1 hc with h | h
      · exact g2 c h
      · exact k1 c h
    exact ⟨v', w', hr, ho, hkp, r4', by have := ho.shape; simpa using this⟩

variable {o : Oper} {a : Act} {K : Act → World → Prop} {Q : Exit → Act → World → Prop}
theorem wp_app_all (s x : Operand) (t : TypeId) (ho : o.op = .call { callee := .builtin .append, args := #[s, x], argTypes := #[t, t] }) (base : Nat) (e : TypeId) (z : Value) (k bytes : Nat)
    (ht : P.underlying t = some (.slice e)) (hinfo : (P.info? e).map (fun i => (i.zero, i.size, i.bytes)) = some (some z, k, bytes)) (hzs : z.cells.size = k) (hk : 0 < k)
    {A : Nat → Prop} {v xv : Value} {ds ds2 : List D} (hs : a.eval s = v) (hx : a.eval x = xv) (hown : OwnD A W base e k v ds) (hd : RepD (fun b => A b ∨ v.ownBlock = some b) W (.row k ds2) [xv])
    (h1 : ∀ d, d ∈ ds2 → OneD d) (hn : ds.length + ds2.length ≤ maxLen) (hbytes : (ds.length + ds2.length) * bytes ≤ 140737488355328) (hbase : base ≤ W.heap.size)
    (h : ∀ v' w', OwnD A w' base e k v' (ds ++ ds2) → Keep (fun b => v.ownBlock ≠ some b) W w' → (∀ b, v'.ownBlock = some b → v.ownBlock = some b ∨ b = W.heap.size) → (∃ ad cap, v' = .slice ad (ds.length + ds2.length) cap) → K (a.put o.dst v') w') :
    Oper.wp P o a W K Q := by
  obtain ⟨v', w', hr, q1, q2, q3, q4⟩ := run_app_all (P := P) t o.type base e z k bytes ht hinfo hzs hk hown hd h1 hn hbytes hbase
  unfold Oper.wp execOp
  simp only [ho, resolve, invoke, builtin, Sem.run_bind, Sem.run_pure, Result.andThen_ok, List.map_toArray, List.map_cons, List.map_nil, hs, hx, hr]
  exact h v' w' q1 q2 q3 q4
theorem app_all_pl {ops : Array Oper} {rest : List Oper} (hgd : o.guard = none) (s x : Operand) (t : TypeId) (ho : o.op = .call { callee := .builtin .append, args := #[s, x], argTypes := #[t, t] }) (base : Nat) (e : TypeId) (z : Value) (k bytes : Nat)
    (ht : P.underlying t = some (.slice e)) (hinfo : (P.info? e).map (fun i => (i.zero, i.size, i.bytes)) = some (some z, k, bytes)) (hzs : z.cells.size = k) (hk : 0 < k)
    {A : Nat → Prop} {v xv : Value} {ds ds2 : List D} (hs : a.eval s = v) (hx : a.eval x = xv) (hown : OwnD A W base e k v ds) (hd : RepD (fun b => A b ∨ v.ownBlock = some b) W (.row k ds2) [xv])
    (h1 : ∀ d, d ∈ ds2 → OneD d) (hn : ds.length + ds2.length ≤ maxLen) (hbytes : (ds.length + ds2.length) * bytes ≤ 140737488355328) (hbase : base ≤ W.heap.size)
    (h : ∀ v' w', OwnD A w' base e k v' (ds ++ ds2) → Keep (fun b => v.ownBlock ≠ some b) W w' → (∀ b, v'.ownBlock = some b → v.ownBlock = some b ∨ b = W.heap.size) → (∃ ad cap, v' = .slice ad (ds.length + ds2.length) cap) → wpList P ops Q rest (a.put o.dst v') w') :
    wpList P ops Q (o :: rest) a W :=
  wpList_plain hgd fun _ hK => wp_app_all s x t ho base e z k bytes ht hinfo hzs hk hs hx hown hd h1 hn hbytes hbase fun v' w' q1 q2 q3 q4 => hK _ _ (h v' w' q1 q2 q3 q4)
theorem app_all_in {F : Fence} {nF : Nat} {ops : Array Oper} {rest : List Oper} (hgd : o.guard = none) (s x : Operand) (t : TypeId) (ho : o.op = .call { callee := .builtin .append, args := #[s, x], argTypes := #[t, t] }) (base : Nat) (e : TypeId) (z : Value) (k bytes : Nat)
    (ht : P.underlying t = some (.slice e)) (hinfo : (P.info? e).map (fun i => (i.zero, i.size, i.bytes)) = some (some z, k, bytes)) (hzs : z.cells.size = k) (hk : 0 < k)
    {A : Nat → Prop} {v xv : Value} {ds ds2 : List D} (hs : a.eval s = v) (hx : a.eval x = xv) (hown : OwnD A W base e k v ds) (hd : RepD (fun b => A b ∨ v.ownBlock = some b) W (.row k ds2) [xv])
    (h1 : ∀ d, d ∈ ds2 → OneD d) (hn : ds.length + ds2.length ≤ maxLen) (hbytes : (ds.length + ds2.length) * bytes ≤ 140737488355328) (hbase : base ≤ W.heap.size)
    (h : ∀ v' w', OwnD A w' base e k v' (ds ++ ds2) → Keep (fun b => v.ownBlock ≠ some b) W w' → (∀ b, v'.ownBlock = some b → v.ownBlock = some b ∨ b = W.heap.size) → (∃ ad cap, v' = .slice ad (ds.length + ds2.length) cap) → wpListIn F nF P ops Q rest (a.put o.dst v') w') :
    wpListIn F nF P ops Q (o :: rest) a W := by
  refine wpListIn_plain hgd fun K hK => ?_
  obtain ⟨v', w', hr, q1, q2, q3, q4⟩ := run_app_all (P := P) t o.type base e z k bytes ht hinfo hzs hk hown hd h1 hn hbytes hbase
  unfold Oper.wpIn
  refine ⟨by simp [Oper.about, ho, resolve, Target.leads, Sem.run_pure], ?_⟩
  rw [Oper.semAt_plain F _ _ (by rw [ho]; intro c hc'; cases hc')]
  simp [execOp, ho, resolve, invoke, builtin, hs, hx, hr, Result.andThen]
  exact hK _ _ (h v' w' q1 q2 q3 q4)
end

/-! ### Rows of numbers -/
def Ints (A : Nat → Prop) (w : World) (s : Value) (ns : List Int) : Prop := RepD A w (.row 1 (ns.map intD)) [s]
theorem Ints.shape {A : Nat → Prop} {w : World} {s : Value} {ns : List Int} (h : Ints A w s ns) : ∃ a c, s = .slice a ns.length c ∧ ns.length ≤ c ∧ ns.length ≤ 9223372036854775807 := by
  simp only [Ints, RepD] at h
  obtain ⟨a, n, c, h1, h2, h3, h4, h5⟩ := h
  simp only [List.length_map] at h2
  subst h2
  simp only [List.cons.injEq, and_true] at h1
  exact ⟨a, c, h1, h3, h4⟩
theorem Ints.get {A : Nat → Prop} {w : World} {a : Option Addr} {n c : Nat} {ns : List Int} (h : Ints A w (.slice a n c) ns) (i : Nat) (hi : i < ns.length) :
    ∃ b off, a = some ⟨b, off, none⟩ ∧ b < w.heap.size ∧ ¬ A b ∧ w.cell? ⟨b, off + i, none⟩ = some (.int .i64 ns[i]) := by
  simp only [Ints, RepD] at h
  obtain ⟨a, n, c, h1, h2, h3, h4, h5⟩ := h
  simp only [List.cons.injEq, and_true, Value.slice.injEq] at h1
  obtain ⟨rfl, rfl, rfl⟩ := h1
  simp only [List.length_map] at h2
  obtain ⟨b, off, ha, hs, hb, hr⟩ := h5 (by omega)
  obtain ⟨cs, e1, e2, e3⟩ := hr.at i (by simpa using hi)
  simp only [List.getElem_map, intD, RepD] at e3
  subst e3
  exact ⟨b, off, ha, hs, hb, by simpa using e2 0 (by omega)⟩
theorem Ints.below {A : Nat → Prop} {w w' : World} {s : Value} {ns : List Int} (h : Ints A w s ns) (hb : Below w.heap.size w w') : Ints A w' s ns := RepD.below h hb
theorem Ints.bar {A B : Nat → Prop} {w : World} {s : Value} {ns : List Int} (h : Ints A w s ns) (hB : ∀ b, b < w.heap.size → B b → A b) : Ints B w s ns := RepD.bar h hB
theorem Ints.nil (A : Nat → Prop) (w : World) : Ints A w (.slice none 0 0) [] := by
  simp only [Ints, RepD, List.map_nil]
  exact ⟨none, 0, 0, rfl, rfl, by omega, by omega, by omega⟩
theorem OwnD.ints {A : Nat → Prop} {w : World} {base e : Nat} {v : Value} {ns : List Int} (h : OwnD A w base e 1 v (ns.map intD)) (hA : ∀ b, A b → b < base) : Ints A w v ns := h.rep hA
end Go.Proofs.YtneecjikdghchaaDoor
