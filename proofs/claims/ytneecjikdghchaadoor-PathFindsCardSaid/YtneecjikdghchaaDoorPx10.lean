/- path.Index: Gen, Inst, Unif, walked. -/
import Derived.Test.YtneecjikdghchaaDoorPx9
set_option linter.unusedSimpArgs false
set_option linter.unusedVariables false
namespace Go.Proofs.YtneecjikdghchaaDoor
open Go.RowKit

/-- Is u found by t? -/
def fitT : Nat → Tm → Tm → Bool
  | 0, t, u => formT u t
  | 1, t, u => formT t u
  | _, t, u => !oddsT u t
def FP (k : Nat) (X : List (Int × Tm)) (t : Tm) (w w' : World) (e : Ending) : Prop :=
  (chk t ≠ 0 → e = .returned (.tuple #[.slice none 0 0, .int .i64 1])) ∧
  (chk t = 0 → ∃ v o, e = .returned (.tuple #[v, .int .i64 0]) ∧ w'.ownsRow (w.heap.size + 1) 3 1 v (sortI o).length ((sortI o).map (Value.int .i64)) ∧ o.Nodup ∧ ∀ x, x ∈ o ↔ ∃ u, (x, u) ∈ X ∧ fitT k t u = true) ∧ Below w.heap.size w w'
theorem FP.of {k : Nat} {g : Int → Int → Int → Int → Bool} (hg : ∀ t u, gU g t u = fitT k t u) {X : List (Int × Tm)} {t : Tm} {w w0 w' : World} {e : Ending} (h : FPost g X t w0 w' e) (hB : Below w.heap.size w w0) : FP k X t w w' e := by
  refine ⟨h.1, fun hc => ?_, more_below hB h.2.2⟩
  obtain ⟨v, o, h1, h2, h3, h4⟩ := h.2.1 hc
  refine ⟨v, o, h1, ⟨h2.1, h2.2.imp id fun ⟨g, cap, cur, h1, h2, h3⟩ => ⟨g, cap, cur, h1, by have := hB.size; omega, h3⟩⟩, h3, fun x => ?_⟩
  rw [h4 x]
  constructor
  · rintro ⟨u, h5, h6⟩; exact ⟨u, h5, by rw [← hg]; exact h6⟩
  · rintro ⟨u, h5, h6⟩; exact ⟨u, h5, by rw [hg]; exact h6⟩
def g0 (a _b c _d : Int) : Bool := decide (a = c)
def g1 (a _b _c d : Int) : Bool := decide (a = d)
def g2 (a b _c _d : Int) : Bool := decide (a = b)
theorem g0_fit (t u : Tm) : gU g0 t u = fitT 0 t u := by
  rw [gU, g0, fitT, Bool.eq_iff_iff, decide_eq_true_eq, ← gen_iff t u]; omega
theorem g1_fit (t u : Tm) : gU g1 t u = fitT 1 t u := by
  rw [gU, g1, fitT, Bool.eq_iff_iff, decide_eq_true_eq, ← inst_iff t u]; omega
theorem g2_fit (t u : Tm) : gU g2 t u = fitT 2 t u := by
  show gU g2 t u = !oddsT u t
  rw [gU, g2, Bool.eq_iff_iff, decide_eq_true_eq, Bool.not_eq_true', ← unif_iff t u]; omega

set_option maxHeartbeats 1000000 in
set_option maxRecDepth 100000 in
theorem clo0 (a b c d : Int) (W : World) : Calls Tryd.prog 33 #[.int .i64 a, .int .i64 b, .int .i64 c, .int .i64 d] W fun e w' => e = .returned (.bool (g0 a b c d)) ∧ w' = W := by
  go_enter Tryd.func33, Tryd.ntmps33
  go_wp2
  go_ret
  exact ⟨by simp [g0]; rfl, rfl⟩
set_option maxHeartbeats 1000000 in
set_option maxRecDepth 100000 in
theorem call0 (args : Array Value) (W : World) : (callFunc 33 args).run Tryd.prog W = .ok (.enter 33 args) W := by kernel_rfl
set_option maxHeartbeats 4000000 in
set_option maxRecDepth 100000 in
theorem pf0_calls {A : Nat → Prop} {xb rb hb ab : Nat} {X : List (Int × Tm)} {role : Nat → Option PRole} {base : Nat} (t : Tm) (B : Nat → Prop) (h : Int) (s : Value) (w : World) (hz : t.size ≤ 1000000000) (hXl : X.length ≤ 1000000) (hx : PxOk w A xb rb hb ab X role base) (hs : IsTm B w h s t) :
    Calls Tryd.prog 14 #[.pointer (some ⟨xb, 0, none⟩), .agg #[.int .i64 h, s]] w fun e w' => FP 0 X t w w' e := by
  obtain ⟨rfl, a, c, rfl, hlc, hc⟩ := hs.shape
  have hb0 : Below w.heap.size w (w.alloc (.cells #[.int .i64 t.h, .slice a t.args.length c] 24)) := (Below.refl _ _).alloc (Nat.le_refl _) _
  have HX := hide (show PxOk (w.alloc (.cells #[.int .i64 t.h, .slice a t.args.length c] 24)) A xb rb hb ab X role base from by
    obtain ⟨fr, fh, fa, hx⟩ := hx
    exact ⟨fr, fh, fa, hx.below hb0⟩)
  have HS := hide (hs.below hb0)
  have HB := hide hb0
  clear hx hs hb0
  go_enter Tryd.func14, Tryd.ntmps14
  go_wp2_with fail
  refine (pfind_calls 33 g0 clo0 call0 t _ _ _ _ hz hXl HX.out HS.out).mono ?_
  rintro e w1 hp
  have HP := hide (FP.of g0_fit hp HB.out)
  clear hp
  by_cases hc0 : chk t = 0
  · obtain ⟨v, o, rfl, -⟩ := HP.out.2.1 hc0
    go_wp2
    go_ret2
    exact HP.out
  · obtain rfl := HP.out.1 hc0
    go_wp2
    go_ret2
    exact HP.out
set_option maxHeartbeats 4000000 in
set_option maxRecDepth 100000 in
theorem pf0_nil (h : Int) (s : Value) (w : World) (hs : ∃ a n c, s = .slice a n c) : Calls Tryd.prog 14 #[.pointer none, .agg #[.int .i64 h, s]] w fun e w' => e = .returned (.tuple #[.slice none 0 0, .int .i64 3]) ∧ Below w.heap.size w w' := by
  obtain ⟨a, n, c, rfl⟩ := hs
  have HB := hide (show Below w.heap.size w (w.alloc (.cells #[.int .i64 h, .slice a n c] 24)) from (Below.refl _ _).alloc (Nat.le_refl _) _)
  go_enter Tryd.func14, Tryd.ntmps14
  go_wp2_with fail
  refine (pfind_nil _ _ _ _ ⟨_, _, _, rfl⟩).mono ?_
  rintro e w1 ⟨rfl, b1⟩
  have HB1 := hide (more_below HB.out b1)
  clear b1 HB
  go_wp2
  go_ret2
  exact ⟨rfl, HB1.out⟩

set_option maxHeartbeats 1000000 in
set_option maxRecDepth 100000 in
theorem clo1 (a b c d : Int) (W : World) : Calls Tryd.prog 34 #[.int .i64 a, .int .i64 b, .int .i64 c, .int .i64 d] W fun e w' => e = .returned (.bool (g1 a b c d)) ∧ w' = W := by
  go_enter Tryd.func34, Tryd.ntmps34
  go_wp2
  go_ret
  exact ⟨by simp [g1]; rfl, rfl⟩
set_option maxHeartbeats 1000000 in
set_option maxRecDepth 100000 in
theorem call1 (args : Array Value) (W : World) : (callFunc 34 args).run Tryd.prog W = .ok (.enter 34 args) W := by kernel_rfl
set_option maxHeartbeats 4000000 in
set_option maxRecDepth 100000 in
theorem pf1_calls {A : Nat → Prop} {xb rb hb ab : Nat} {X : List (Int × Tm)} {role : Nat → Option PRole} {base : Nat} (t : Tm) (B : Nat → Prop) (h : Int) (s : Value) (w : World) (hz : t.size ≤ 1000000000) (hXl : X.length ≤ 1000000) (hx : PxOk w A xb rb hb ab X role base) (hs : IsTm B w h s t) :
    Calls Tryd.prog 15 #[.pointer (some ⟨xb, 0, none⟩), .agg #[.int .i64 h, s]] w fun e w' => FP 1 X t w w' e := by
  obtain ⟨rfl, a, c, rfl, hlc, hc⟩ := hs.shape
  have hb0 : Below w.heap.size w (w.alloc (.cells #[.int .i64 t.h, .slice a t.args.length c] 24)) := (Below.refl _ _).alloc (Nat.le_refl _) _
  have HX := hide (show PxOk (w.alloc (.cells #[.int .i64 t.h, .slice a t.args.length c] 24)) A xb rb hb ab X role base from by
    obtain ⟨fr, fh, fa, hx⟩ := hx
    exact ⟨fr, fh, fa, hx.below hb0⟩)
  have HS := hide (hs.below hb0)
  have HB := hide hb0
  clear hx hs hb0
  go_enter Tryd.func15, Tryd.ntmps15
  go_wp2_with fail
  refine (pfind_calls 34 g1 clo1 call1 t _ _ _ _ hz hXl HX.out HS.out).mono ?_
  rintro e w1 hp
  have HP := hide (FP.of g1_fit hp HB.out)
  clear hp
  by_cases hc0 : chk t = 0
  · obtain ⟨v, o, rfl, -⟩ := HP.out.2.1 hc0
    go_wp2
    go_ret2
    exact HP.out
  · obtain rfl := HP.out.1 hc0
    go_wp2
    go_ret2
    exact HP.out
set_option maxHeartbeats 4000000 in
set_option maxRecDepth 100000 in
theorem pf1_nil (h : Int) (s : Value) (w : World) (hs : ∃ a n c, s = .slice a n c) : Calls Tryd.prog 15 #[.pointer none, .agg #[.int .i64 h, s]] w fun e w' => e = .returned (.tuple #[.slice none 0 0, .int .i64 3]) ∧ Below w.heap.size w w' := by
  obtain ⟨a, n, c, rfl⟩ := hs
  have HB := hide (show Below w.heap.size w (w.alloc (.cells #[.int .i64 h, .slice a n c] 24)) from (Below.refl _ _).alloc (Nat.le_refl _) _)
  go_enter Tryd.func15, Tryd.ntmps15
  go_wp2_with fail
  refine (pfind_nil _ _ _ _ ⟨_, _, _, rfl⟩).mono ?_
  rintro e w1 ⟨rfl, b1⟩
  have HB1 := hide (more_below HB.out b1)
  clear b1 HB
  go_wp2
  go_ret2
  exact ⟨rfl, HB1.out⟩

set_option maxHeartbeats 1000000 in
set_option maxRecDepth 100000 in
theorem clo2 (a b c d : Int) (W : World) : Calls Tryd.prog 35 #[.int .i64 a, .int .i64 b, .int .i64 c, .int .i64 d] W fun e w' => e = .returned (.bool (g2 a b c d)) ∧ w' = W := by
  go_enter Tryd.func35, Tryd.ntmps35
  go_wp2
  go_ret
  exact ⟨by simp [g2]; rfl, rfl⟩
set_option maxHeartbeats 1000000 in
set_option maxRecDepth 100000 in
theorem call2 (args : Array Value) (W : World) : (callFunc 35 args).run Tryd.prog W = .ok (.enter 35 args) W := by kernel_rfl
set_option maxHeartbeats 4000000 in
set_option maxRecDepth 100000 in
theorem pf2_calls {A : Nat → Prop} {xb rb hb ab : Nat} {X : List (Int × Tm)} {role : Nat → Option PRole} {base : Nat} (t : Tm) (B : Nat → Prop) (h : Int) (s : Value) (w : World) (hz : t.size ≤ 1000000000) (hXl : X.length ≤ 1000000) (hx : PxOk w A xb rb hb ab X role base) (hs : IsTm B w h s t) :
    Calls Tryd.prog 16 #[.pointer (some ⟨xb, 0, none⟩), .agg #[.int .i64 h, s]] w fun e w' => FP 2 X t w w' e := by
  obtain ⟨rfl, a, c, rfl, hlc, hc⟩ := hs.shape
  have hb0 : Below w.heap.size w (w.alloc (.cells #[.int .i64 t.h, .slice a t.args.length c] 24)) := (Below.refl _ _).alloc (Nat.le_refl _) _
  have HX := hide (show PxOk (w.alloc (.cells #[.int .i64 t.h, .slice a t.args.length c] 24)) A xb rb hb ab X role base from by
    obtain ⟨fr, fh, fa, hx⟩ := hx
    exact ⟨fr, fh, fa, hx.below hb0⟩)
  have HS := hide (hs.below hb0)
  have HB := hide hb0
  clear hx hs hb0
  go_enter Tryd.func16, Tryd.ntmps16
  go_wp2_with fail
  refine (pfind_calls 35 g2 clo2 call2 t _ _ _ _ hz hXl HX.out HS.out).mono ?_
  rintro e w1 hp
  have HP := hide (FP.of g2_fit hp HB.out)
  clear hp
  by_cases hc0 : chk t = 0
  · obtain ⟨v, o, rfl, -⟩ := HP.out.2.1 hc0
    go_wp2
    go_ret2
    exact HP.out
  · obtain rfl := HP.out.1 hc0
    go_wp2
    go_ret2
    exact HP.out
set_option maxHeartbeats 4000000 in
set_option maxRecDepth 100000 in
theorem pf2_nil (h : Int) (s : Value) (w : World) (hs : ∃ a n c, s = .slice a n c) : Calls Tryd.prog 16 #[.pointer none, .agg #[.int .i64 h, s]] w fun e w' => e = .returned (.tuple #[.slice none 0 0, .int .i64 3]) ∧ Below w.heap.size w w' := by
  obtain ⟨a, n, c, rfl⟩ := hs
  have HB := hide (show Below w.heap.size w (w.alloc (.cells #[.int .i64 h, .slice a n c] 24)) from (Below.refl _ _).alloc (Nat.le_refl _) _)
  go_enter Tryd.func16, Tryd.ntmps16
  go_wp2_with fail
  refine (pfind_nil _ _ _ _ ⟨_, _, _, rfl⟩).mono ?_
  rintro e w1 ⟨rfl, b1⟩
  have HB1 := hide (more_below HB.out b1)
  clear b1 HB
  go_wp2
  go_ret2
  exact ⟨rfl, HB1.out⟩
end Go.Proofs.YtneecjikdghchaaDoor
