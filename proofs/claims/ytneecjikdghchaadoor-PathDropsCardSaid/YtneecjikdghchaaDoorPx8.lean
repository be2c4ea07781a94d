/- Going through a map that may be nil; counts. path: what find counts, purely. -/
import Derived.Test.YtneecjikdghchaaDoorPx7
set_option linter.unusedSimpArgs false
set_option linter.unusedVariables false
namespace Go.Proofs.YtneecjikdghchaaDoor
open Go.RowKit Go.MapKept Go.WideShapes Go.ChangeMaps Go.WideElems

theorem RangeAt.some {W : World} {b r : Nat} {f : Int → Option Value} {dn : List Int} (h : RangeAt W b r f dn) : ∀ x ∈ dn, ∃ v, f x = .some v := by
  obtain ⟨es, clock, since, seen, c0, h1, h2, h3, h4, h5, h6, h7, h8, h9, h10, h11, h12⟩ := h
  exact h12
theorem RangeAt.nodup {W : World} {b r : Nat} {f : Int → Option Value} {dn : List Int} (h : RangeAt W b r f dn) : dn.Nodup := by
  obtain ⟨es, clock, since, seen, c0, h1, h2, h3, h4, h5, h6, h7, h8, h9, h10, h11, h12⟩ := h
  exact h11
theorem MapAt.bounds {W : World} {b : Nat} {f : Int → Option Value} (h : MapAt W b f) {x : Int} {v : Value} (hf : f x = some v) : -9223372036854775808 ≤ x ∧ x ≤ 9223372036854775807 := by
  obtain ⟨es, clock, hb, hkeys, huniq, hval, hdom, hst⟩ := h
  obtain ⟨e, he, hk⟩ := hdom x v hf
  obtain ⟨y, hy, h0, h1⟩ := hkeys e he
  rw [hk] at hy; cases hy
  exact ⟨h0, h1⟩
def MapOpt (W : World) (bo : Option Nat) (f : Int → Option Value) : Prop := match bo with
  | none => f = fun _ => none
  | some b => MapAt W b f
def RangeN (W : World) (bo : Option Nat) (r : Nat) (f : Int → Option Value) (dn : List Int) : Prop := match bo with
  | none => W.heap[r]? = some (.mapIter none 0 #[] 0) ∧ (f = fun _ => none) ∧ dn = []
  | some b => RangeAt W b r f dn
def leftN (W : World) (bo : Option Nat) (r : Nat) : Nat := match bo with
  | none => 0
  | some b => W.rangeLeft b r
section
variable {P : Program} {W W' : World} {bo : Option Nat} {r : Nat} {f : Int → Option Value} {dn : List Int} {k e t : TypeId}
theorem MapOpt.range (h : MapOpt W bo f) (ht : P.underlying t = some (.map k e)) :
    ∃ o : Obj, (Instr.range t (.map bo)).run P W = .ok (.pointer (some ⟨W.heap.size, 0, none⟩)) (W.alloc o) ∧ RangeN (W.alloc o) bo W.heap.size f [] := by
  cases bo with
  | none => exact ⟨_, run_range_nilMap W t k e ht, World.alloc_heap_new _ _, h, rfl⟩
  | some b => exact MapAt.range h ht
theorem RangeN.keep {S : Nat → Prop} (h : RangeN W bo r f dn) (hk : Keep S W W') (hb : ∀ b, bo = some b → S b) (hr : S r) : RangeN W' bo r f dn := by
  cases bo with
  | none => exact ⟨hk.obj hr h.1, h.2⟩
  | some b => exact RangeAt.keep h hk (hb b rfl) hr
theorem RangeN.left_keep {S : Nat → Prop} (h : RangeN W bo r f dn) (hk : Keep S W W') (hb : ∀ b, bo = some b → S b) (hr : S r) : leftN W' bo r = leftN W bo r := by
  cases bo with
  | none => rfl
  | some b => exact RangeAt.left_keep h hk (hb b rfl) hr
theorem RangeN.some_of (h : RangeN W bo r f dn) : ∀ x ∈ dn, ∃ v, f x = some v := by
  cases bo with
  | none => rw [h.2.2]; simp
  | some b => exact RangeAt.some h
theorem RangeN.lt (h : RangeN W bo r f dn) : r < W.heap.size := by
  cases bo with
  | none => exact (Array.getElem?_eq_some_iff.1 h.1).1
  | some b =>
    obtain ⟨es, clock, since, seen, c0, h1, h2, h3, h4, h5, h6, h7⟩ := h
    exact (Array.getElem?_eq_some_iff.1 h6).1
theorem RangeN.next (h : RangeN W bo r f dn) (ty : TypeId) :
    ((∀ x v, f x = some v → x ∈ dn) ∧ (Instr.next (.pointer (some ⟨r, 0, none⟩)) false ty).run P W = .ok (.tuple #[.bool false]) W) ∨
    ∃ x v w', f x = some v ∧ x ∉ dn ∧ (Instr.next (.pointer (some ⟨r, 0, none⟩)) false ty).run P W = .ok (.tuple #[.bool true, .int .i64 x, v]) w' ∧ RangeN w' bo r f (x :: dn) ∧ leftN w' bo r < leftN W bo r ∧ Keep (fun c => c ≠ r) W w' ∧
      (Instr.entry (.pointer (some ⟨r, 0, none⟩))).run P w' = .ok (.tuple #[.int .i64 x, v]) w' := by
  cases bo with
  | none =>
    obtain ⟨h1, h2, h3⟩ := h
    refine .inl ⟨fun x v hv => (by rw [h2] at hv; cases hv), ?_⟩
    simp only [Instr.next, getObj, Sem.run_bind, Sem.run, h1, Result.andThen]
    rfl
  | some b =>
    rcases RangeAt.next h ty with h9 | ⟨x, v, w', h1, h2, h3, h4, h5, h6, h7⟩
    · exact .inl h9
    · exact .inr ⟨x, v, w', h1, h2, h3, h4, h5, h6, h7⟩
end
/-! ### Counts -/
def cntF (c : Int → Nat) : Int → Option Value := fun x => if c x = 0 then none else some (.int .i64 (c x : Int))
theorem cnt_get (c : Int → Nat) (x : Int) : (cntF c x).getD (.int .i64 0) = .int .i64 (c x : Int) := by
  unfold cntF
  split
  · next h => rw [h]; rfl
  · rfl
theorem cnt_put (c : Int → Nat) (x : Int) : (fun y => if y = x then some (Value.int .i64 ((c x : Int) + 1)) else cntF c y) = cntF fun y => c y + if y = x then 1 else 0 := by
  funext y
  unfold cntF
  by_cases h : y = x
  · subst h; simp
  · simp [h]
theorem cnt_none : cntF (fun _ => 0) = fun _ => none := by funext y; simp [cntF]
open Classical in
noncomputable def cS (X : List (Int × Tm)) (l : List Spt) (x : Int) : Nat := (l.filter fun s => decide (hasS X s x)).length
open Classical in
noncomputable def cP (X : List (Int × Tm)) (l : List Spt) (x : Int) : Nat := (l.filter fun s => decide (hasP X s.p x)).length
theorem cS_le (X : List (Int × Tm)) (l : List Spt) (x : Int) : cS X l x ≤ l.length := List.length_filter_le _ _
theorem cP_le (X : List (Int × Tm)) (l : List Spt) (x : Int) : cP X l x ≤ l.length := List.length_filter_le _ _
open Classical in
theorem cS_snoc (X : List (Int × Tm)) (l : List Spt) (s : Spt) (dn : List Int) (h : ∀ x, x ∈ dn ↔ hasS X s x) : (fun x => cS X l x + if x ∈ dn then 1 else 0) = cS X (l ++ [s]) := by
  funext x
  unfold cS
  rw [List.filter_append, List.length_append]
  congr 1
  by_cases hx : x ∈ dn
  · rw [if_pos hx, List.filter_cons, if_pos (decide_eq_true ((h x).1 hx))]; rfl
  · rw [if_neg hx, List.filter_cons, if_neg (by rw [decide_eq_true_eq]; exact fun h9 => hx ((h x).2 h9))]; rfl
open Classical in
theorem cP_snoc (X : List (Int × Tm)) (l : List Spt) (s : Spt) (dn : List Int) (h : ∀ x, x ∈ dn ↔ hasP X s.p x) : (fun x => cP X l x + if x ∈ dn then 1 else 0) = cP X (l ++ [s]) := by
  funext x
  unfold cP
  rw [List.filter_append, List.length_append]
  congr 1
  by_cases hx : x ∈ dn
  · rw [if_pos hx, List.filter_cons, if_pos (decide_eq_true ((h x).1 hx))]; rfl
  · rw [if_neg hx, List.filter_cons, if_neg (by rw [decide_eq_true_eq]; exact fun h9 => hx ((h x).2 h9))]; rfl
theorem cnt_more (c : Int → Nat) (x : Int) (dn : List Int) (h : x ∉ dn) : (fun y => (c y + if y ∈ dn then 1 else 0) + if y = x then 1 else 0) = fun y => c y + if y ∈ x :: dn then 1 else 0 := by
  funext y
  by_cases e : y = x
  · subst e; simp [h]
  · simp [e]
theorem filter_len_congr {α : Type} {p q : α → Bool} {l : List α} (h : ∀ a ∈ l, p a = q a) : (l.filter p).length = (l.filter q).length := by
  rw [List.filter_congr h]
open Classical in
theorem cS_have {X : List (Int × Tm)} {x : Int} {u t : Tm} (hn : (X.map (·.1)).Nodup) (hm : (x, u) ∈ X) : cS X (psT [] t) x = cHave t u := by
  unfold cS cHave
  refine filter_len_congr fun s _ => ?_
  rw [decide_eq_decide]
  constructor
  · rintro ⟨v, h1, h2⟩; rw [fst_inj hn hm h1]; exact h2
  · exact fun h => ⟨u, hm, h⟩
open Classical in
theorem cP_any {X : List (Int × Tm)} {x : Int} {u t : Tm} (hn : (X.map (·.1)).Nodup) (hm : (x, u) ∈ X) : cP X (psT [] t) x = cAny t u := by
  unfold cP cAny
  refine filter_len_congr fun s _ => ?_
  rw [Bool.eq_iff_iff, decide_eq_true_eq, Option.isSome_iff_exists]
  constructor
  · rintro ⟨v, h1, s', h2, h3⟩
    rw [fst_inj hn hm h1]
    rw [← h3]
    exact ⟨_, mem_ps.1 h2⟩
  · rintro ⟨y, hy⟩
    exact ⟨u, hm, ⟨s.p, y.1, y.2⟩, mem_ps.2 hy, rfl⟩
section
variable {w w' : World} {A : Nat → Prop} {xb rb hb ab : Nat} {fr : Int → Option Value} {fh fa : Value → Option Value} {role : Nat → Option PRole} {X : List (Int × Tm)} {Hs : Spt → Int → Prop} {As : List Nat → Int → Prop} {base : Nat}
theorem PxAt.setH (h : PxAt w A xb rb hb ab fr fh fa role X Hs As base) {s : Spt} (hs : SptOk s) : ∃ bo, (fh s.key).getD (.map none) = .map bo ∧ MapOpt w bo (setF (Hs s)) ∧ ∀ b, bo = some b → b < w.heap.size := by
  cases hf : fh s.key with
  | none => exact ⟨none, rfl, by
      have : setF (Hs s) = fun _ => none := by rw [setF_congr (T := fun _ => False) (fun x => by simp; exact h.h2 s hf x)]; exact setF_none
      exact this, by simp⟩
  | some v =>
    obtain ⟨s', ib, e1, rfl, e3, e4⟩ := h.h1 _ _ hf
    obtain rfl := key_inj e1
    exact ⟨some ib, rfl, e4, fun b hb => by cases hb; exact e4.lt⟩
theorem PxAt.setA (h : PxAt w A xb rb hb ab fr fh fa role X Hs As base) (p : List Nat) : ∃ bo, (fa (placeS p)).getD (.map none) = .map bo ∧ MapOpt w bo (setF (As p)) ∧ ∀ b, bo = some b → b < w.heap.size := by
  cases hf : fa (placeS p) with
  | none => exact ⟨none, rfl, by
      have : setF (As p) = fun _ => none := by rw [setF_congr (T := fun _ => False) (fun x => by simp; exact h.a2 p hf x)]; exact setF_none
      exact this, by simp⟩
  | some v =>
    obtain ⟨s', ib, e1, rfl, e3, e4⟩ := h.a1 _ _ hf
    obtain rfl := placeS_inj e1
    exact ⟨some ib, rfl, e4, fun b hb => by cases hb; exact e4.lt⟩
end
theorem hasS_bound {w : World} {A : Nat → Prop} {xb rb hb ab : Nat} {fr : Int → Option Value} {fh fa : Value → Option Value} {role : Nat → Option PRole} {X : List (Int × Tm)} {Hs : Spt → Int → Prop} {As : List Nat → Int → Prop} {base : Nat} (h : PxAt w A xb rb hb ab fr fh fa role X Hs As base) {x : Int} {u : Tm} (hm : (x, u) ∈ X) : -9223372036854775808 ≤ x ∧ x ≤ 9223372036854775807 := by
  obtain ⟨v, hv⟩ := h.r2 x u hm
  exact h.r.bounds hv
end Go.Proofs.YtneecjikdghchaaDoor
