/- path.Index: find, walked. -/
import Derived.Test.YtneecjikdghchaaDoorPx7
import Derived.Test.YtneecjikdghchaaDoorSortD
set_option linter.unusedSimpArgs false
set_option linter.unusedVariables false
namespace Go.Proofs.YtneecjikdghchaaDoor
section
open Go.RowKit Go.MapKept Go.WideShapes Go.ChangeMaps Go.WideElems

theorem RangeAt.some {W : World} {b r : Nat} {f : Int → Option Value} {dn : List Int} (h : RangeAt W b r f dn) : ∀ x ∈ dn, ∃ v, f x = .some v := by
  obtain ⟨es, clock, since, seen, c0, h1, h2, h3, h4, h5, h6, h7, h8, h9, h10, h11, h12⟩ := h
  exact h12
theorem RangeAt.nodup {W : World} {b r : Nat} {f : Int → Option Value} {dn : List Int} (h : RangeAt W b r f dn) : dn.Nodup := by
  obtain ⟨es, clock, since, seen, c0, h1, h2, h3, h4, h5, h6, h7, h8, h9, h10, h11, h12⟩ := h
  exact h11
theorem MapAt.bounds {W : World} {b : Nat} {f : Int → Option Value} (h : MapAt W b f) {x : Int} {v : Value} (hf : f x = some v) : -9223372036854775808 ≤ x ∧ x ≤ 9223372036854775807 := by
  obtain ⟨es, clock, hb, hkeys, huniq, hval, hdom, hst⟩ := h
  obtain ⟨e, he, hk⟩ := hdom x v hf
  obtain ⟨y, hy, h0, h1⟩ := hkeys e he
  rw [hk] at hy; cases hy
  exact ⟨h0, h1⟩
def MapOpt (W : World) (bo : Option Nat) (f : Int → Option Value) : Prop := match bo with
  | none => f = fun _ => none
  | some b => MapAt W b f
def RangeN (W : World) (bo : Option Nat) (r : Nat) (f : Int → Option Value) (dn : List Int) : Prop := match bo with
  | none => W.heap[r]? = some (.mapIter none 0 #[] 0) ∧ (f = fun _ => none) ∧ dn = []
  | some b => RangeAt W b r f dn
def leftN (W : World) (bo : Option Nat) (r : Nat) : Nat := match bo with
  | none => 0
  | some b => W.rangeLeft b r
section
variable {P : Program} {W W' : World} {bo : Option Nat} {r : Nat} {f : Int → Option Value} {dn : List Int} {k e t : TypeId}
theorem MapOpt.range (h : MapOpt W bo f) (ht : P.underlying t = some (.map k e)) :
    ∃ o : Obj, (Instr.range t (.map bo)).run P W = .ok (.pointer (some ⟨W.heap.size, 0, none⟩)) (W.alloc o) ∧ RangeN (W.alloc o) bo W.heap.size f [] := by
  cases bo with
  | none => exact ⟨_, run_range_nilMap W t k e ht, World.alloc_heap_new _ _, h, rfl⟩
  | some b => exact MapAt.range h ht
theorem RangeN.keep {S : Nat → Prop} (h : RangeN W bo r f dn) (hk : Keep S W W') (hb : ∀ b, bo = some b → S b) (hr : S r) : RangeN W' bo r f dn := by
  cases bo with
  | none => exact ⟨hk.obj hr h.1, h.2⟩
  | some b => exact RangeAt.keep h hk (hb b rfl) hr
theorem RangeN.left_keep {S : Nat → Prop} (h : RangeN W bo r f dn) (hk : Keep S W W') (hb : ∀ b, bo = some b → S b) (hr : S r) : leftN W' bo r = leftN W bo r := by
  cases bo with
  | none => rfl
  | some b => exact RangeAt.left_keep h hk (hb b rfl) hr
theorem RangeN.some_of (h : RangeN W bo r f dn) : ∀ x ∈ dn, ∃ v, f x = some v := by
  cases bo with
  | none => rw [h.2.2]; simp
  | some b => exact RangeAt.some h
theorem RangeN.lt (h : RangeN W bo r f dn) : r < W.heap.size := by
  cases bo with
  | none => exact (Array.getElem?_eq_some_iff.1 h.1).1
  | some b =>
    obtain ⟨es, clock, since, seen, c0, h1, h2, h3, h4, h5, h6, h7⟩ := h
    exact (Array.getElem?_eq_some_iff.1 h6).1
theorem RangeN.next (h : RangeN W bo r f dn) (ty : TypeId) :
    ((∀ x v, f x = some v → x ∈ dn) ∧ (Instr.next (.pointer (some ⟨r, 0, none⟩)) false ty).run P W = .ok (.tuple #[.bool false]) W) ∨
    ∃ x v w', f x = some v ∧ x ∉ dn ∧ (Instr.next (.pointer (some ⟨r, 0, none⟩)) false ty).run P W = .ok (.tuple #[.bool true, .int .i64 x, v]) w' ∧ RangeN w' bo r f (x :: dn) ∧ leftN w' bo r < leftN W bo r ∧ Keep (fun c => c ≠ r) W w' ∧
      (Instr.entry (.pointer (some ⟨r, 0, none⟩))).run P w' = .ok (.tuple #[.int .i64 x, v]) w' := by
  cases bo with
  | none =>
    obtain ⟨h1, h2, h3⟩ := h
    refine .inl ⟨fun x v hv => (by rw [h2] at hv; cases hv), ?_⟩
    simp only [Instr.next, getObj, Sem.run_bind, Sem.run, h1, Result.andThen]
    rfl
  | some b =>
    rcases RangeAt.next h ty with h9 | ⟨x, v, w', h1, h2, h3, h4, h5, h6, h7⟩
    · exact .inl h9
    · exact .inr ⟨x, v, w', h1, h2, h3, h4, h5, h6, h7⟩
end
/-! ### Counts -/
def cntF (c : Int → Nat) : Int → Option Value := fun x => if c x = 0 then none else some (.int .i64 (c x : Int))
theorem cnt_get (c : Int → Nat) (x : Int) : (cntF c x).getD (.int .i64 0) = .int .i64 (c x : Int) := by
  unfold cntF
  split
  · next h => rw [h]; rfl
  · rfl
theorem cnt_put (c : Int → Nat) (x : Int) : (fun y => if y = x then some (Value.int .i64 ((c x : Int) + 1)) else cntF c y) = cntF fun y => c y + if y = x then 1 else 0 := by
  funext y
  unfold cntF
  by_cases h : y = x
  · subst h; simp
  · simp [h]
theorem cnt_none : cntF (fun _ => 0) = fun _ => none := by funext y; simp [cntF]
open Classical in
noncomputable def cS (X : List (Int × Tm)) (l : List Spt) (x : Int) : Nat := (l.filter fun s => decide (hasS X s x)).length
open Classical in
noncomputable def cP (X : List (Int × Tm)) (l : List Spt) (x : Int) : Nat := (l.filter fun s => decide (hasP X s.p x)).length
theorem cS_le (X : List (Int × Tm)) (l : List Spt) (x : Int) : cS X l x ≤ l.length := List.length_filter_le _ _
theorem cP_le (X : List (Int × Tm)) (l : List Spt) (x : Int) : cP X l x ≤ l.length := List.length_filter_le _ _
open Classical in
theorem cS_snoc (X : List (Int × Tm)) (l : List Spt) (s : Spt) (dn : List Int) (h : ∀ x, x ∈ dn ↔ hasS X s x) : (fun x => cS X l x + if x ∈ dn then 1 else 0) = cS X (l ++ [s]) := by
  funext x
  unfold cS
  rw [List.filter_append, List.length_append]
  congr 1
  by_cases hx : x ∈ dn
  · rw [if_pos hx, List.filter_cons, if_pos (decide_eq_true ((h x).1 hx))]; rfl
  · rw [if_neg hx, List.filter_cons, if_neg (by rw [decide_eq_true_eq]; exact fun h9 => hx ((h x).2 h9))]; rfl
open Classical in
theorem cP_snoc (X : List (Int × Tm)) (l : List Spt) (s : Spt) (dn : List Int) (h : ∀ x, x ∈ dn ↔ hasP X s.p x) : (fun x => cP X l x + if x ∈ dn then 1 else 0) = cP X (l ++ [s]) := by
  funext x
  unfold cP
  rw [List.filter_append, List.length_append]
  congr 1
  by_cases hx : x ∈ dn
  · rw [if_pos hx, List.filter_cons, if_pos (decide_eq_true ((h x).1 hx))]; rfl
  · rw [if_neg hx, List.filter_cons, if_neg (by rw [decide_eq_true_eq]; exact fun h9 => hx ((h x).2 h9))]; rfl
theorem cnt_more (c : Int → Nat) (x : Int) (dn : List Int) (h : x ∉ dn) : (fun y => (c y + if y ∈ dn then 1 else 0) + if y = x then 1 else 0) = fun y => c y + if y ∈ x :: dn then 1 else 0 := by
  funext y
  by_cases e : y = x
  · subst e; simp [h]
  · simp [e]
theorem filter_len_congr {α : Type} {p q : α → Bool} {l : List α} (h : ∀ a ∈ l, p a = q a) : (l.filter p).length = (l.filter q).length := by
  rw [List.filter_congr h]
open Classical in
theorem cS_have {X : List (Int × Tm)} {x : Int} {u t : Tm} (hn : (X.map (·.1)).Nodup) (hm : (x, u) ∈ X) : cS X (psT [] t) x = cHave t u := by
  unfold cS cHave
  refine filter_len_congr fun s _ => ?_
  rw [decide_eq_decide]
  constructor
  · rintro ⟨v, h1, h2⟩; rw [fst_inj hn hm h1]; exact h2
  · exact fun h => ⟨u, hm, h⟩
open Classical in
theorem cP_any {X : List (Int × Tm)} {x : Int} {u t : Tm} (hn : (X.map (·.1)).Nodup) (hm : (x, u) ∈ X) : cP X (psT [] t) x = cAny t u := by
  unfold cP cAny
  refine filter_len_congr fun s _ => ?_
  rw [Bool.eq_iff_iff, decide_eq_true_eq, Option.isSome_iff_exists]
  constructor
  · rintro ⟨v, h1, s', h2, h3⟩
    rw [fst_inj hn hm h1]
    rw [← h3]
    exact ⟨_, mem_ps.1 h2⟩
  · rintro ⟨y, hy⟩
    exact ⟨u, hm, ⟨s.p, y.1, y.2⟩, mem_ps.2 hy, rfl⟩
section
variable {w w' : World} {A : Nat → Prop} {xb rb hb ab : Nat} {fr : Int → Option Value} {fh fa : Value → Option Value} {role : Nat → Option PRole} {X : List (Int × Tm)} {Hs : Spt → Int → Prop} {As : List Nat → Int → Prop} {base : Nat}
theorem PxAt.setH (h : PxAt w A xb rb hb ab fr fh fa role X Hs As base) {s : Spt} (hs : SptOk s) : ∃ bo, (fh s.key).getD (.map none) = .map bo ∧ MapOpt w bo (setF (Hs s)) ∧ ∀ b, bo = some b → b < w.heap.size := by
  cases hf : fh s.key with
  | none => exact ⟨none, rfl, by
      have : setF (Hs s) = fun _ => none := by rw [setF_congr (T := fun _ => False) (fun x => by simp; exact h.h2 s hf x)]; exact setF_none
      exact this, by simp⟩
  | some v =>
    obtain ⟨s', ib, e1, rfl, e3, e4⟩ := h.h1 _ _ hf
    obtain rfl := key_inj e1
    exact ⟨some ib, rfl, e4, fun b hb => by cases hb; exact e4.lt⟩
theorem PxAt.setA (h : PxAt w A xb rb hb ab fr fh fa role X Hs As base) (p : List Nat) : ∃ bo, (fa (placeS p)).getD (.map none) = .map bo ∧ MapOpt w bo (setF (As p)) ∧ ∀ b, bo = some b → b < w.heap.size := by
  cases hf : fa (placeS p) with
  | none => exact ⟨none, rfl, by
      have : setF (As p) = fun _ => none := by rw [setF_congr (T := fun _ => False) (fun x => by simp; exact h.a2 p hf x)]; exact setF_none
      exact this, by simp⟩
  | some v =>
    obtain ⟨s', ib, e1, rfl, e3, e4⟩ := h.a1 _ _ hf
    obtain rfl := placeS_inj e1
    exact ⟨some ib, rfl, e4, fun b hb => by cases hb; exact e4.lt⟩
end
theorem hasS_bound {w : World} {A : Nat → Prop} {xb rb hb ab : Nat} {fr : Int → Option Value} {fh fa : Value → Option Value} {role : Nat → Option PRole} {X : List (Int × Tm)} {Hs : Spt → Int → Prop} {As : List Nat → Int → Prop} {base : Nat} (h : PxAt w A xb rb hb ab fr fh fa role X Hs As base) {x : Int} {u : Tm} (hm : (x, u) ∈ X) : -9223372036854775808 ≤ x ∧ x ≤ 9223372036854775807 := by
  obtain ⟨v, hv⟩ := h.r2 x u hm
  exact h.r.bounds hv
end
open Go.RowKit

def gU (g : Int → Int → Int → Int → Bool) (t u : Tm) : Bool := g (cHave t u) (cAny t u) (psT [] u).length (psT [] t).length
/-- The counts' maps behind k spots. -/
def FInv (wq : World) (X : List (Int × Tm)) (l : List Spt) (wr : World) (k : Nat) : Prop :=
  Below wq.heap.size wq wr ∧ MapAt wr wq.heap.size (cntF (cS X (l.take k))) ∧ MapAt wr (wq.heap.size + 1) (cntF (cP X (l.take k)))
def FPost (g : Int → Int → Int → Int → Bool) (X : List (Int × Tm)) (t : Tm) (w w' : World) (e : Ending) : Prop :=
  (chk t ≠ 0 → e = .returned (.tuple #[.slice none 0 0, .int .i64 1])) ∧
  (chk t = 0 → ∃ v o, e = .returned (.tuple #[v, .int .i64 0]) ∧ w'.ownsRow (w.heap.size + 1) 3 1 v (sortI o).length ((sortI o).map (Value.int .i64)) ∧ o.Nodup ∧ ∀ x, x ∈ o ↔ ∃ u, (x, u) ∈ X ∧ gU g t u = true) ∧ Below w.heap.size w w'
/-- Within a round. -/
def FIn (w3 w6 : World) (eb : Nat) (c d : Int → Nat) (wr : World) : Prop :=
  Below w3.heap.size w3 wr ∧ MapAt wr w3.heap.size (cntF c) ∧ MapAt wr (w3.heap.size + 1) (cntF d) ∧ wr.heap[eb]? = w6.heap[eb]? ∧ w6.heap.size ≤ wr.heap.size
theorem FIn.below {w3 w6 : World} {eb : Nat} {c d : Int → Nat} {wr w' : World} (h : FIn w3 w6 eb c d wr) (hb : eb < w6.heap.size) (hB : Below wr.heap.size wr w') : FIn w3 w6 eb c d w' :=
  ⟨more_below h.1 hB, h.2.1.below hB, h.2.2.1.below hB, (hB.block _ (Nat.lt_of_lt_of_le hb h.2.2.2.2)).trans h.2.2.2.1, Nat.le_trans h.2.2.2.2 hB.size⟩
theorem MapOpt.keep {S : Nat → Prop} {W W' : World} {bo : Option Nat} {f : Int → Option Value} (h : MapOpt W bo f) (hk : Keep S W W') (hb : ∀ b, bo = some b → S b) : MapOpt W' bo f := by
  cases bo with
  | none => exact h
  | some b => exact MapAt.keep h hk (hb b rfl)
theorem MapOpt.below {W W' : World} {bo : Option Nat} {f : Int → Option Value} (h : MapOpt W bo f) (hB : Below W.heap.size W W') : MapOpt W' bo f := h.keep (S := fun _ => True) (.of_below hB) fun _ _ => trivial
theorem nodup_leP : ∀ (l m : List Int), l.Nodup → (∀ x, x ∈ l → x ∈ m) → l.length ≤ m.length
  | [], _, _, _ => Nat.zero_le _
  | a :: l, m, h, hs => by
    rw [List.nodup_cons] at h
    have ha := hs a (by simp)
    have := nodup_leP l (m.erase a) h.2 fun x hx => by
      refine (List.mem_erase_of_ne ?_).2 (hs x (List.mem_cons_of_mem _ hx))
      rintro rfl; exact h.1 hx
    rw [List.length_erase_of_mem ha] at this
    have : 0 < m.length := List.length_pos_of_mem ha
    simp only [List.length_cons]; omega
theorem zeroInt (W : World) : (zeroValue 3).run Tryd.prog W = .ok (.int .i64 0) W := by kernel_rfl
set_option maxHeartbeats 1000000 in
set_option maxRecDepth 100000 in
theorem pfind_nil (fv : Value) (h : Int) (s : Value) (w : World) (hs : ∃ a n c, s = .slice a n c) : Calls Tryd.prog 32 #[.pointer none, .agg #[.int .i64 h, s], fv] w fun e w' => e = .returned (.tuple #[.slice none 0 0, .int .i64 3]) ∧ Below w.heap.size w w' := by
  obtain ⟨a, n, c, rfl⟩ := hs
  have HB := hide (show Below w.heap.size w (w.alloc (.cells #[.int .i64 h, .slice a n c] 24)) from (Below.refl _ _).alloc (Nat.le_refl _) _)
  go_enter Tryd.func32, Tryd.ntmps32
  go_wp2
  go_ret2
  exact ⟨rfl, HB.out⟩
set_option maxHeartbeats 8000000 in
set_option maxRecDepth 100000 in
theorem pfind_calls {A : Nat → Prop} {xb rb hb ab : Nat} {X : List (Int × Tm)} {role : Nat → Option PRole} {base : Nat} (fn : Nat) (g : Int → Int → Int → Int → Bool)
    (hfn : ∀ (a b c d : Int) (W : World), Calls Tryd.prog fn #[.int .i64 a, .int .i64 b, .int .i64 c, .int .i64 d] W fun e w' => e = .returned (.bool (g a b c d)) ∧ w' = W)
    (hcall : ∀ args W, (callFunc fn args).run Tryd.prog W = .ok (.enter fn args) W)
    (t : Tm) (B : Nat → Prop) (h : Int) (s : Value) (w : World) (hz : t.size ≤ 1000000000) (hXl : X.length ≤ 1000000) (hx : PxOk w A xb rb hb ab X role base) (hs : IsTm B w h s t) :
    Calls Tryd.prog 32 #[.pointer (some ⟨xb, 0, none⟩), .agg #[.int .i64 h, s], .func (.func fn) #[] #[]] w fun e w' => FPost g X t w w' e := by
  obtain ⟨fr, fh, fa, hx⟩ := hx
  obtain ⟨rfl, a, c, rfl, hlc, hc⟩ := hs.shape
  have hb0 : Below w.heap.size w (w.alloc (.cells #[.int .i64 t.h, .slice a t.args.length c] 24)) := (Below.refl _ _).alloc (Nat.le_refl _) _
  have HX := hide (hx.below hb0)
  have HS := hide (hs.below hb0)
  have HB := hide hb0
  have HBX := hide (World.alloc_heap_new w (.cells #[.int .i64 t.h, .slice a t.args.length c] 24))
  have HFN := hide hfn
  clear hx hs hb0 hfn
  go_enter Tryd.func32, Tryd.ntmps32
  go_wp2_with fail
  generalize w.alloc (.cells #[.int .i64 t.h, .slice a t.args.length c] 24) = w0 at *
  refine (check_calls t _ _ _ _ HS.out hz).mono ?_
  rintro e w1 ⟨rfl, b1⟩
  have HX1 := hide (HX.out.below b1)
  have HS1 := hide (HS.out.below b1)
  have HB1 := hide (more_below HB.out b1)
  have HBX1 := hide ((b1.block _ (Array.getElem?_eq_some_iff.1 HBX.out).1).trans HBX.out)
  obtain ⟨hl, q0, q1, q2⟩ := pbox3' HX1.out.x
  obtain ⟨bl, z0, z1, -, -⟩ := box2 HBX1.out
  clear b1 HX HS HB HBX
  by_cases hc0 : chk t = 0
  rotate_left
  · have hd : (chk t != 0) = true := by simp [hc0]
    go_wp2
    go_ret2
    exact ⟨fun _ => rfl, fun h => absurd h hc0, HB1.out⟩
  have HC := hide hc0
  obtain ⟨hg, h4⟩ := chk_ok hc0
  have HOK := hide (spt_ok hg h4)
  have hps := psT_len t []
  have hn9 : (psT [] t).length ≤ 400 := by omega
  have HG := hide hg
  clear hg hps
  go_wp2_with fail
  refine (spots_calls t _ _ _ w1 HG.out (by omega) HS1.out).mono ?_
  rintro e w3 ⟨v, rfl, ho, b3⟩
  obtain ⟨va, vc, hve, hvc, hsp⟩ := SpotsR.of_own (A := fun _ => False) ho (fun _ _ h => h)
  have HSP := hide (show SpotsR (fun _ => False) w3 v (psT [] t) from ⟨va, vc, hve, hvc, hsp⟩)
  subst hve
  have HX3 := hide (HX1.out.below b3)
  have HB3 := hide (more_below HB1.out b3)
  clear ho hsp b3 HX1 HB1 HS1 HG HBX1 q0 q1 q2 z0 z1 bl hl
  have hmm := @run_makeMap Tryd.prog
  go_wp2
  have HM0 := hide (show FInv w3 X (psT [] t) ((w3.alloc (.map #[] 0)).alloc (.map #[] 0)) 0 from by
    have b1 : Below w3.heap.size w3 (w3.alloc (.map #[] 0)) := (Below.refl _ _).alloc (Nat.le_refl _) _
    have b2 : Below (w3.alloc (.map #[] 0)).heap.size (w3.alloc (.map #[] 0)) ((w3.alloc (.map #[] 0)).alloc (.map #[] 0)) := (Below.refl _ _).alloc (Nat.le_refl _) _
    have m1 := (MapAt.made w3).below b2
    have m2 := MapAt.made (w3.alloc (.map #[] 0))
    rw [World.size_alloc] at m2
    refine ⟨more_below b1 b2, ?_, ?_⟩
    · have : cS X ((psT [] t).take 0) = fun _ => 0 := by funext x; simp [cS]
      rw [this, cnt_none]; exact m1
    · have : cP X ((psT [] t).take 0) = fun _ => 0 := by funext x; simp [cP]
      rw [this, cnt_none]; exact m2)
  clear hmm
  have HW3 := hide (show Below w3.heap.size w3 ((w3.alloc (.map #[] 0)).alloc (.map #[] 0)) from HM0.out.1)
  go_loopw [31] (fun i wr => ∃ k : Nat, k ≤ (psT [] t).length ∧ i = .int .i64 k ∧ Hid (FInv w3 X (psT [] t) wr k)) (fun i _ => (psT [] t).length - (intOf i).toNat)
  case atStart => exact ⟨0, by omega, rfl, HM0⟩
  case round =>
    obtain ⟨k, hk, rfl, hinv⟩ := hrel
    by_cases hlt : k < (psT [] t).length
    · obtain ⟨hbl, hmh, hma⟩ := hinv.out
      have hx5 := HX3.out.below hbl
      obtain ⟨a2, c2, hve, -, hcl⟩ := HSP.out.frame (fun b _ hb => hbl.block b hb) (B := fun _ => False) (fun _ _ h => h)
      obtain ⟨sb, so, he, -, x0, x1, x2⟩ := hcl k hlt
      simp only [Value.slice.injEq, true_and] at hve
      obtain ⟨rfl, rfl⟩ := hve
      subst he
      have hal : Below wr.heap.size wr (wr.alloc (.cells #[.string (plB (psT [] t)[k].p), .int .i64 (psT [] t)[k].h, .int .i64 (psT [] t)[k].n] 68)) := (Below.refl _ _).alloc (Nat.le_refl _) _
      have HN6 := hide (World.alloc_heap_new wr (.cells #[.string (plB (psT [] t)[k].p), .int .i64 (psT [] t)[k].h, .int .i64 (psT [] t)[k].n] 68))
      have HX6 := hide (hx5.below hal)
      have HI6 := hide (show FInv w3 X (psT [] t) (wr.alloc (.cells #[.string (plB (psT [] t)[k].p), .int .i64 (psT [] t)[k].h, .int .i64 (psT [] t)[k].n] 68)) k from ⟨more_below hbl hal, hmh.below hal, hma.below hal⟩)
      clear hinv hx5 hcl hal hbl hmh hma
      go_wp2
      generalize wr.alloc (.cells #[.string (plB (psT [] t)[k].p), .int .i64 (psT [] t)[k].h, .int .i64 (psT [] t)[k].n] 68) = w6 at *
      have hb6 : wr.heap.size < w6.heap.size := (Array.getElem?_eq_some_iff.1 HN6.out).1
      generalize wr.heap.size = eb at *
      have hsok := HOK.out _ (List.getElem_mem hlt)
      obtain ⟨kl, hkey⟩ := spot_key hsok
      obtain ⟨bo, hbo, hmo, hbol⟩ := HX3.out.setH hsok
      obtain ⟨bp, hbp, hmp, hbpl⟩ := HX3.out.setA (psT [] t)[k].p
      have HMO := hide hmo
      have HMP := hide hmp
      have HBO := hide hbol
      have HBP := hide hbpl
      have HL3 := hide (show w3.heap.size < w6.heap.size ∧ w3.heap.size + 1 < w6.heap.size ∧ eb ≠ w3.heap.size ∧ eb ≠ w3.heap.size + 1 from by
        refine ⟨HI6.out.2.1.lt, HI6.out.2.2.lt, fun e => ?_, fun e => ?_⟩
        · obtain ⟨es, clock, h1, -⟩ := HI6.out.2.1
          have h2 := HN6.out
          rw [e, h1] at h2; cases h2
        · obtain ⟨es, clock, h1, -⟩ := HI6.out.2.2
          have h2 := HN6.out
          rw [e, h1] at h2; cases h2)
      have HCD := hide (show ∀ W' : World, Below w3.heap.size w3 W' → W'.heap[eb]? = w6.heap[eb]? → W'.cell? ⟨xb, 1, none⟩ = some (.map (some hb)) ∧ W'.cell? ⟨xb, 2, none⟩ = some (.map (some ab)) ∧ W'.cell? ⟨eb, 0, none⟩ = some (.string (plB (psT [] t)[k].p)) ∧ W'.cell? ⟨eb, 1, none⟩ = some (.int .i64 (psT [] t)[k].h) ∧ W'.cell? ⟨eb, 2, none⟩ = some (.int .i64 (psT [] t)[k].n) ∧ (Instr.lookup 60 (.map (some hb)) (.agg #[.string (plB (psT [] t)[k].p), .int .i64 (psT [] t)[k].h, .int .i64 (psT [] t)[k].n]) false).run Tryd.prog W' = .ok (.map bo) W' ∧ (Instr.lookup 61 (.map (some ab)) (.string (plB (psT [] t)[k].p)) false).run Tryd.prog W' = .ok (.map bp) W' from fun W' hB2 heb => by
        have hx2 := HX3.out.below hB2
        obtain ⟨-, -, x0, x1⟩ := pbox3' hx2.x
        obtain ⟨-, x2, x3, x4⟩ := pbox3' (heb.trans HN6.out)
        have l1 := hx2.h.look spotKeyed Tryd.underlying60 (zeroSet _) hkey false
        have l2 := hx2.a.look (Maps.string_keyed Tryd.underlying9) Tryd.underlying61 (zeroSet _) (place_key hsok.p) false
        rw [hbo] at l1
        rw [hbp] at l2
        exact ⟨x0, x1, x2, x3, x4, l1, l2⟩)
      have HI0 := HI6
      clear HI6
      have HI6 := hide (show FIn w3 w6 eb (cS X ((psT [] t).take k)) (cP X ((psT [] t).take k)) w6 from ⟨HI0.out.1, HI0.out.2.1, HI0.out.2.2, rfl, Nat.le_refl _⟩)
      clear x0 x1 x2 hbo hbp hmo hmp hbol hbpl hkey hsok HI0 HX6
      refine drawn_tree (fun W' => W'.cell? ⟨xb, 1, none⟩ = some (.map (some hb)) ∧ W'.cell? ⟨xb, 2, none⟩ = some (.map (some ab)) ∧ W'.cell? ⟨eb, 0, none⟩ = some (.string (plB (psT [] t)[k].p)) ∧ W'.cell? ⟨eb, 1, none⟩ = some (.int .i64 (psT [] t)[k].h) ∧ W'.cell? ⟨eb, 2, none⟩ = some (.int .i64 (psT [] t)[k].n) ∧ (Instr.lookup 60 (.map (some hb)) (.agg #[.string (plB (psT [] t)[k].p), .int .i64 (psT [] t)[k].h, .int .i64 (psT [] t)[k].n]) false).run Tryd.prog W' = .ok (.map bo) W' ∧ (Instr.lookup 61 (.map (some ab)) (.string (plB (psT [] t)[k].p)) false).run Tryd.prog W' = .ok (.map bp) W') (.take 0 (.take 1 (.take 2 (.take 3 (.take 4 (.take 5 (.one 6 .done))))))) (by kernel_rfl) (by kernel_rfl) (by kernel_rfl) (by kernel_rfl) (fun _ _ _ _ _ h => h) (HCD.out _ (HI6.out.below hb6 (Below.refl w6.heap.size w6).drew).1 (HI6.out.below hb6 (Below.refl w6.heap.size w6).drew).2.2.2.1) ?_
      have gd := (Below.refl w6.heap.size w6).drew
      iterate 6 (refine t_take (v := ?_) rfl (by rfl) ?_ ?_; rotate_left; (intro w hS; obtain ⟨hS1, hS2, hS3, hS4, hS5, hS6, hS7⟩ := hS; go_simp; try with_reducible rfl); simp only [Act.put, List.setIfInBounds_toArray, List.set_cons_zero, List.set_cons_succ])
      obtain ⟨ob, hrange, hrn⟩ := ((HMO.out.below HI6.out.1).below gd).range (P := Tryd.prog) Tryd.underlying78
      refine t_one rfl (by rfl) ?_
      intro K hK
      go_simp
      have hal7 : Below w6.drew.heap.size w6.drew (w6.drew.alloc ob) := (Below.refl _ _).alloc (Nat.le_refl _) _
      have HF7 := hide (show FIn w3 w6 eb (cS X ((psT [] t).take k)) (cP X ((psT [] t).take k)) (w6.alloc ob).drew from HI6.out.below hb6 (more_below gd hal7))
      refine hK.out _ _ (HCD.out _ HF7.out.1 HF7.out.2.2.2.1) ?_
      clear hK K hrange
      refine t_done ?_
      have HRN := hide (show RangeN (w6.alloc ob).drew bo w6.heap.size (setF (hasS X (psT [] t)[k])) [] from hrn)
      have hrb : w6.heap.size ≤ w6.heap.size := HI6.out.2.2.2.2
      generalize (w6.alloc ob).drew = w7 at *
      clear hal7 gd hrn
      obtain ⟨rz, hrz⟩ : ∃ rz, rz = w6.heap.size := ⟨_, rfl⟩
      rw [← hrz] at HRN
      rw [← hrz]
      have hrb2 : w6.heap.size ≤ rz := by omega
      clear hrz hrb

      go_wp2
      go_loopw [13] (fun _ wr => ∃ dn : List Int, Hid (RangeN wr bo rz (setF (hasS X (psT [] t)[k])) dn ∧ FIn w3 w6 eb (fun y => cS X ((psT [] t).take k) y + if y ∈ dn then 1 else 0) (cP X ((psT [] t).take k)) wr)) (fun _ wr => leftN wr bo rz)
      case atStart => exact ⟨[], hide ⟨HRN.out, by simpa using HF7.out⟩⟩
      case round =>
        obtain ⟨dn, hrel⟩ := hrel
        obtain ⟨hrg, hfi⟩ := hrel.out
        rcases hrg.next (P := Tryd.prog) 0 with ⟨hall, hrun⟩ | ⟨id, v, wx, hfv, hnd, hrun, hrg2, hlt2, hk2, hen⟩
        · have hiff : ∀ x, x ∈ dn ↔ hasS X (psT [] t)[k] x := fun x => ⟨fun h => (by obtain ⟨v, hv⟩ := hrg.some_of x h; exact setF_iff.1 ⟨v, hv⟩), fun h => (by obtain ⟨v, hv⟩ := setF_iff.2 h; exact hall x v hv)⟩
          have heq := cS_snoc X ((psT [] t).take k) (psT [] t)[k] dn hiff
          rw [← List.take_succ_eq_append_getElem hlt] at heq
          have HI8 := hide (show FIn w3 w6 eb (cS X ((psT [] t).take (k + 1))) (cP X ((psT [] t).take k)) wr from by rw [← heq]; exact hfi)
          clear heq hiff hall hrg hfi hrel HF7 HRN
          go_wp2
          generalize wr = w8 at *
          refine drawn_tree (fun W' => W'.cell? ⟨xb, 1, none⟩ = some (.map (some hb)) ∧ W'.cell? ⟨xb, 2, none⟩ = some (.map (some ab)) ∧ W'.cell? ⟨eb, 0, none⟩ = some (.string (plB (psT [] t)[k].p)) ∧ W'.cell? ⟨eb, 1, none⟩ = some (.int .i64 (psT [] t)[k].h) ∧ W'.cell? ⟨eb, 2, none⟩ = some (.int .i64 (psT [] t)[k].n) ∧ (Instr.lookup 60 (.map (some hb)) (.agg #[.string (plB (psT [] t)[k].p), .int .i64 (psT [] t)[k].h, .int .i64 (psT [] t)[k].n]) false).run Tryd.prog W' = .ok (.map bo) W' ∧ (Instr.lookup 61 (.map (some ab)) (.string (plB (psT [] t)[k].p)) false).run Tryd.prog W' = .ok (.map bp) W') (.take 0 (.take 1 (.take 2 (.take 3 (.take 4 (.take 5 (.take 6 (.one 7 .done)))))))) (by kernel_rfl) (by kernel_rfl) (by kernel_rfl) (by kernel_rfl) (fun _ _ _ _ _ h => h) (HCD.out _ (HI8.out.below hb6 (Below.refl w8.heap.size w8).drew).1 (HI8.out.below hb6 (Below.refl w8.heap.size w8).drew).2.2.2.1) ?_
          have gd := (Below.refl w8.heap.size w8).drew
          iterate 7 (refine t_take (v := ?_) rfl (by rfl) ?_ ?_; rotate_left; (intro w hS; obtain ⟨hS1, hS2, hS3, hS4, hS5, hS6, hS7⟩ := hS; go_simp; try with_reducible rfl); simp only [Act.put, List.setIfInBounds_toArray, List.set_cons_zero, List.set_cons_succ])
          obtain ⟨ob, hrange, hrn⟩ := ((HMP.out.below HI8.out.1).below gd).range (P := Tryd.prog) Tryd.underlying78
          refine t_one rfl (by rfl) ?_
          intro K hK
          go_simp
          have hal7 : Below w8.drew.heap.size w8.drew (w8.drew.alloc ob) := (Below.refl _ _).alloc (Nat.le_refl _) _
          have HF7 := hide (show FIn w3 w6 eb (cS X ((psT [] t).take (k + 1))) (cP X ((psT [] t).take k)) (w8.alloc ob).drew from HI8.out.below hb6 (more_below gd hal7))
          refine hK.out _ _ (HCD.out _ HF7.out.1 HF7.out.2.2.2.1) ?_
          clear hK K hrange
          refine t_done ?_
          have HRN := hide (show RangeN (w8.alloc ob).drew bp w8.heap.size (setF (hasP X (psT [] t)[k].p)) [] from hrn)
          have hrb : w6.heap.size ≤ w8.heap.size := HI8.out.2.2.2.2
          generalize (w8.alloc ob).drew = w7 at *
          clear hal7 gd hrn
          generalize w8.heap.size = rz at *
          clear HI8
          go_wp2
          go_loopw [14] (fun _ wr => ∃ dn : List Int, Hid (RangeN wr bp rz (setF (hasP X (psT [] t)[k].p)) dn ∧ FIn w3 w6 eb (cS X ((psT [] t).take (k + 1))) (fun y => cP X ((psT [] t).take k) y + if y ∈ dn then 1 else 0) wr)) (fun _ wr => leftN wr bp rz)
          case atStart => exact ⟨[], hide ⟨HRN.out, by simpa using HF7.out⟩⟩
          case round =>
            obtain ⟨dn, hrel⟩ := hrel
            obtain ⟨hrg, hfi⟩ := hrel.out
            rcases hrg.next (P := Tryd.prog) 0 with ⟨hall, hrun⟩ | ⟨id, v, wx, hfv, hnd, hrun, hrg2, hlt2, hk2, hen⟩
            · have hiff : ∀ x, x ∈ dn ↔ hasP X (psT [] t)[k].p x := fun x => ⟨fun h => (by obtain ⟨v, hv⟩ := hrg.some_of x h; exact setF_iff.1 ⟨v, hv⟩), fun h => (by obtain ⟨v, hv⟩ := setF_iff.2 h; exact hall x v hv)⟩
              have heq := cP_snoc X ((psT [] t).take k) (psT [] t)[k] dn hiff
              rw [← List.take_succ_eq_append_getElem hlt] at heq
              have HI10 := hide (show FIn w3 w6 eb (cS X ((psT [] t).take (k + 1))) (cP X ((psT [] t).take (k + 1))) wr from by rw [← heq]; exact hfi)
              clear heq hiff hall hrg hfi hrel HF7 HRN
              have HI2 := hide (show FInv w3 X (psT [] t) wr (k + 1) from ⟨HI10.out.1, HI10.out.2.1, HI10.out.2.2.1⟩)
              clear HI10 HCD HL3 HN6
              go_wp2
              go_roundw
              case rel => exact ⟨k + 1, by omega, by go_num, HI2⟩
              case measure => simp [intOf]; omega
            · obtain ⟨hq0, hq1⟩ : -9223372036854775808 ≤ id ∧ id ≤ 9223372036854775807 := by
                obtain ⟨u, hu, -⟩ := setF_iff.1 ⟨v, hfv⟩
                exact hasS_bound HX3.out hu
              have hval := setF_val hfv
              subst hval
              obtain ⟨hB, hmh, hma, heb, hsz⟩ := hfi
              obtain ⟨hn3, hn4, hn5, hn6⟩ := HL3.out
              have hmx := hma.keep hk2 (by omega)
              have hlk := hmx.look1 (P := Tryd.prog) (k := 3) (t := 88) (e := 3) Tryd.underlying3 Tryd.underlying88 (zeroInt _) hq0 hq1
              rw [cnt_get, if_neg hnd, Nat.add_zero] at hlk
              obtain ⟨W9, hup, hm9, hk9⟩ := hmx.store (P := Tryd.prog) (k := 3) (t := 88) (e := 3) Tryd.underlying3 Tryd.underlying88 hq0 hq1 (.int .i64 (((cP X ((psT [] t).take k) id : Nat) : Int) + 1))
              have hcle := cP_le X ((psT [] t).take k) id
              have hclt : ((psT [] t).take k).length ≤ 400 := by rw [List.length_take]; omega
              have hm9' : MapAt W9 (w3.heap.size + 1) (cntF fun y => cP X ((psT [] t).take k) y + if y ∈ id :: dn then 1 else 0) := by
                rw [← cnt_more (cP X ((psT [] t).take k)) id dn hnd, ← cnt_put]
                simpa [hnd] using hm9
              have hbo9 := HBP.out
              have HR9 := hide (hrg2.keep hk9 (fun b hb => by have := hbo9 b hb; omega) (by omega))
              have HLT9 := hide (show leftN W9 bp rz < leftN wr bp rz by rw [hrg2.left_keep hk9 (fun b hb => by have := hbo9 b hb; omega) (by omega)]; exact hlt2)
              have HF9 := hide (show Below w3.heap.size w3 W9 ∧ W9.heap[eb]? = w6.heap[eb]? ∧ w6.heap.size ≤ W9.heap.size from
                ⟨(hB.trans (hk2.below (fun b hb => by omega) hB.size)).trans (hk9.below (fun b hb => by omega) (Nat.le_trans hB.size hk2.size)), (hk9.block _ (by have := hk2.size; omega) (by omega)).trans ((hk2.block _ (by omega) (by omega)).trans heb), Nat.le_trans hsz (Nat.le_trans hk2.size hk9.size)⟩)
              have HM9 := hide (show MapAt W9 w3.heap.size _ ∧ MapAt W9 (w3.heap.size + 1) _ from ⟨(hmh.keep hk2 (by omega)).keep hk9 (by omega), hm9'⟩)
              clear hm9 hm9' hrg hrg2 hlt2 hk2 hk9 hmx hB hmh hma heb hfv hnd hbo9 hrel
              go_wp2
              go_roundw
              case rel => exact ⟨id :: dn, hide ⟨HR9.out, HF9.out.1, HM9.out.1, HM9.out.2, HF9.out.2.1, HF9.out.2.2⟩⟩
              case measure => exact HLT9.out
    
        · obtain ⟨hq0, hq1⟩ : -9223372036854775808 ≤ id ∧ id ≤ 9223372036854775807 := by
            obtain ⟨u, hu, -⟩ := setF_iff.1 ⟨v, hfv⟩
            exact hasS_bound HX3.out hu
          have hval := setF_val hfv
          subst hval
          obtain ⟨hB, hmh, hma, heb, hsz⟩ := hfi
          obtain ⟨hn3, hn4, hn5, hn6⟩ := HL3.out
          have hmx := hmh.keep hk2 (by omega)
          have hlk := hmx.look1 (P := Tryd.prog) (k := 3) (t := 88) (e := 3) Tryd.underlying3 Tryd.underlying88 (zeroInt _) hq0 hq1
          rw [cnt_get, if_neg hnd, Nat.add_zero] at hlk
          obtain ⟨W9, hup, hm9, hk9⟩ := hmx.store (P := Tryd.prog) (k := 3) (t := 88) (e := 3) Tryd.underlying3 Tryd.underlying88 hq0 hq1 (.int .i64 (((cS X ((psT [] t).take k) id : Nat) : Int) + 1))
          have hcle := cS_le X ((psT [] t).take k) id
          have hclt : ((psT [] t).take k).length ≤ 400 := by rw [List.length_take]; omega
          have hm9' : MapAt W9 w3.heap.size (cntF fun y => cS X ((psT [] t).take k) y + if y ∈ id :: dn then 1 else 0) := by
            rw [← cnt_more (cS X ((psT [] t).take k)) id dn hnd, ← cnt_put]
            simpa [hnd] using hm9
          have hbo9 := HBO.out
          have HR9 := hide (hrg2.keep hk9 (fun b hb => by have := hbo9 b hb; omega) (by omega))
          have HLT9 := hide (show leftN W9 bo rz < leftN wr bo rz by rw [hrg2.left_keep hk9 (fun b hb => by have := hbo9 b hb; omega) (by omega)]; exact hlt2)
          have HF9 := hide (show Below w3.heap.size w3 W9 ∧ W9.heap[eb]? = w6.heap[eb]? ∧ w6.heap.size ≤ W9.heap.size from
            ⟨(hB.trans (hk2.below (fun b hb => by omega) hB.size)).trans (hk9.below (fun b hb => by omega) (Nat.le_trans hB.size hk2.size)), (hk9.block _ (by have := hk2.size; omega) (by omega)).trans ((hk2.block _ (by omega) (by omega)).trans heb), Nat.le_trans hsz (Nat.le_trans hk2.size hk9.size)⟩)
          have HM9 := hide (show MapAt W9 w3.heap.size _ ∧ MapAt W9 (w3.heap.size + 1) _ from ⟨hm9', (hma.keep hk2 (by omega)).keep hk9 (by omega)⟩)
          clear hm9 hm9' hrg hrg2 hlt2 hk2 hk9 hmx hB hmh hma heb hfv hnd hbo9 hrel
          go_wp2
          go_roundw
          case rel => exact ⟨id :: dn, hide ⟨HR9.out, HF9.out.1, HM9.out.1, HM9.out.2, HF9.out.2.1, HF9.out.2.2⟩⟩
          case measure => exact HLT9.out
    · obtain rfl : k = (psT [] t).length := by omega
      generalize wr = wf at *
      obtain ⟨hbl, hmh, hma⟩ := hinv.out
      rw [List.take_length] at hmh hma
      have hx5 := HX3.out.below hbl
      obtain ⟨ob, hrange, hra⟩ := hx5.r.range (P := Tryd.prog) (t := 59) (k := 3) (e := 64) (by kernel_rfl)
      obtain ⟨hl5, q0, q1, q2⟩ := pbox3' hx5.x
      have HB5 := hide (more_below HB3.out hbl)
      have HX5 := hide hx5
      have HMH := hide hmh
      have HMA := hide hma
      have HR5 := hide hra
      have HZ0 := hide (show Below wf.heap.size wf (wf.alloc ob) from (Below.refl _ _).alloc (Nat.le_refl _) _)
      clear hinv hbl hmh hma hx5 hra
      have HE0 := hide (show wf.heap.size + 1 ≤ (wf.alloc ob).heap.size by simp)
      go_wp2
      generalize wf.alloc ob = wy at *
      go_loopw [15] (fun v wr => ∃ (dn o : List Int), Hid (RangeAt wr rb wf.heap.size fr dn) ∧ Hid (wr.ownsRow (wf.heap.size + 1) 3 1 v o.length (o.map (Value.int .i64))) ∧ Hid (o.Nodup ∧ ∀ x, x ∈ o ↔ x ∈ dn ∧ ∃ u, (x, u) ∈ X ∧ gU g t u = true) ∧ Hid (Below wf.heap.size wf wr) ∧ Hid (wf.heap.size + 1 ≤ wr.heap.size)) (fun _ wr => wr.rangeLeft rb wf.heap.size)
      case atStart => exact ⟨[], [], HR5, hide (World.ownsRow_nil _ _ _ _), hide ⟨by simp, by simp⟩, HZ0, HE0⟩
      case round =>
        obtain ⟨dn, o, hrg, hown, hmem, hbz, hsz⟩ := hrel
        have hol : o.length ≤ X.length := by
          have := nodup_leP o (X.map (·.1)) hmem.out.1 fun x hx => by
            obtain ⟨-, u, hu, -⟩ := (hmem.out.2 x).1 hx
            exact List.mem_map.2 ⟨_, hu, rfl⟩
          simpa using this
        rcases hrg.out.next (P := Tryd.prog) 0 with ⟨hall, hrun⟩ | ⟨id, v, w2, hfv, hnd, hrun, hra2, hlt, hk2, hen⟩
        · have HD := hide (show o.Nodup ∧ ∀ x, x ∈ o ↔ ∃ u, (x, u) ∈ X ∧ gU g t u = true from ⟨hmem.out.1, fun x => ⟨fun h => ((hmem.out.2 x).1 h).2, fun ⟨u, h1, h2⟩ => (hmem.out.2 x).2 ⟨by
            obtain ⟨v, hv⟩ := HX5.out.r2 x u h1
            exact hall x v hv, u, h1, h2⟩⟩⟩)
          have HOW := hide hown.out
          have HSL := hide (sortI_length o)
          have HBL := hide (show Below w.heap.size w wr from more_below HB5.out hbz.out)
          have HWZ := hide (show w.heap.size ≤ wf.heap.size ∧ wf.heap.size + 1 ≤ wr.heap.size from ⟨HB5.out.size, hsz.out⟩)
          clear hrg hown hmem hbz hsz hall
          go_wp2_with fail
          refine (sort_own o _ _ _ wr (by omega) HOW.out).mono ?_
          rintro e w5 ⟨rfl, o5, k5⟩
          have HO5 := hide (show w5.ownsRow (w.heap.size + 1) 3 1 _ (sortI o).length ((sortI o).map (Value.int .i64)) from by
            rw [HSL.out]; exact ⟨o5.1, o5.2.imp id fun ⟨g, cap, cur, h1, h2, h3⟩ => ⟨g, cap, cur, h1, by have := HWZ.out; omega, h3⟩⟩)
          have HK5 := hide (HBL.out.trans (k5.below (fun b hb h => by have := HOW.out.lt b h; have := HWZ.out; omega) (by have := HWZ.out; omega)))
          clear o5 k5 hrun
          go_wp2
          go_ret2
          exact ⟨fun h => absurd HC.out h, fun _ => ⟨_, o, rfl, HO5.out, HD.out.1, HD.out.2⟩, HK5.out⟩
        · obtain ⟨u, hu, au, cu, rfl, -, -⟩ := HX5.out.r1 id v hfv
          obtain ⟨hq0, hq1⟩ := hasS_bound HX5.out hu
          have hB2 : Below wf.heap.size wf w2 := hbz.out.trans (hk2.below (fun b hb => by omega) (by have := hsz.out; omega))
          have hlk1 := (HMH.out.below hB2).look1 (P := Tryd.prog) (k := 3) (t := 88) (e := 3) Tryd.underlying3 Tryd.underlying88 (zeroInt _) hq0 hq1
          have hlk2 := (HMA.out.below hB2).look1 (P := Tryd.prog) (k := 3) (t := 88) (e := 3) Tryd.underlying3 Tryd.underlying88 (zeroInt _) hq0 hq1
          rw [cnt_get, cS_have HX5.out.nd hu] at hlk1
          rw [cnt_get, cP_any HX5.out.nd hu] at hlk2
          have HLT := hide hlt
          have HRA2 := hide hra2
          have HO2 := hide (ownsRow_keep hown.out hk2 (fun b hb => by have := (hown.out.lt b hb); omega))
          have HB2 := hide hB2
          have HS2 := hide (Nat.le_trans hsz.out hk2.size)
          have HND := hide hnd
          have HMM := hide hmem.out
          have HU := hide hu
          clear hrg hown hbz hsz hfv hnd hra2 hlt hk2 hmem hB2 hu
          go_wp2_with fail
          refine (HFN.out _ _ _ _ _).mono ?_
          rintro e w3' ⟨rfl, rfl⟩
          have HGU := hide (show gU g t u = g (cHave t u) (cAny t u) (psT [] u).length (psT [] t).length from rfl)
          clear hen hrun hlk1 hlk2
          generalize g (cHave t u) (cAny t u) (psT [] u).length (psT [] t).length = cb at *
          cases cb
          · go_wp2
            go_roundw
            case rel => exact ⟨id :: dn, o, HRA2, HO2, hide ⟨HMM.out.1, fun x => by
              rw [HMM.out.2 x, List.mem_cons]
              constructor
              · rintro ⟨h1, h2⟩; exact ⟨.inr h1, h2⟩
              · rintro ⟨rfl | h1, u', h2, h3⟩
                · rw [fst_inj HX5.out.nd h2 HU.out, HGU.out] at h3; cases h3
                · exact ⟨h1, u', h2, h3⟩⟩, HB2, HS2⟩
            case measure => exact HLT.out
          · have hk9 : (o.length + 1) * 8 ≤ 140737488355328 := by omega
            go_wp2_with (at_builtin; refine app_pl rfl _ _ 34 rfl (wf.heap.size + 1) 3 (.int .i64 0) 1 8 Tryd.underlying34 (by kernel_rfl) rfl (by decide) (by decide) u15 o.length _ rfl HO2.out 1 1 _ rfl (by simp [Value.oneCell']) rfl hk9 HS2.out ?_; intro v' w9 r1 r2 r3 r4)
            have hob := HO2.out.lt
            have hmb := HX5.out.r.lt
            obtain ⟨va', vc', rfl⟩ := r4
            have HRA3 := hide (HRA2.out.keep r2 (fun h => by have := hob _ h; omega) (fun h => by have := hob _ h; omega))
            have HLK := hide (HRA2.out.left_keep r2 (fun h => by have := hob _ h; omega) (fun h => by have := hob _ h; omega))
            have HB9 := hide (HB2.out.trans (r2.below (fun b hb h => by have := hob b h; omega) (by have := HS2.out; omega)))
            go_roundw
            case rel => exact ⟨id :: dn, o ++ [id], HRA3, hide (by simpa using r1), hide ⟨by
              rw [List.nodup_append]
              refine ⟨HMM.out.1, by simp, fun a ha b hb e => ?_⟩
              simp only [List.mem_singleton] at hb
              subst hb e
              exact HND.out ((HMM.out.2 a).1 ha).1, fun x => by
              simp only [List.mem_append, HMM.out.2 x, List.mem_cons, List.not_mem_nil, or_false]
              constructor
              · rintro (⟨h1, h2⟩ | rfl)
                · exact ⟨.inr h1, h2⟩
                · exact ⟨.inl rfl, u, HU.out, HGU.out⟩
              · rintro ⟨rfl | h1, h2⟩
                · exact .inr rfl
                · exact .inl ⟨h1, h2⟩⟩, HB9, hide (Nat.le_trans HS2.out r2.size)⟩
            case measure => rw [HLK.out]; exact HLT.out
end Go.Proofs.YtneecjikdghchaaDoor
