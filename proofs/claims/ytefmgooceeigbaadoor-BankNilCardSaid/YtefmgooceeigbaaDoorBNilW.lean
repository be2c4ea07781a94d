/- BankNil, walked. -/
import Derived.Test.YtefmgooceeigbaaDoorAwake6
set_option linter.unusedSimpArgs false
set_option linter.unusedVariables false
namespace Go.Proofs.YtefmgooceeigbaaDoor
open Go.RowKit

set_option maxHeartbeats 1000000 in
set_option maxRecDepth 100000 in
theorem bargs_nil (n : Int) (w : World) : Calls Tryd.prog 21 #[.pointer none, .int .i64 n] w fun e w' => e = .returned (.tuple #[.slice none 0 0, .int .i64 3]) ∧ Below w.heap.size w w' := by
  go_enter Tryd.func21, Tryd.ntmps21
  go_wp2_with fail
  refine (brow_nil n _).mono ?_
  rintro e w1 ⟨rfl, b1⟩
  have HB := hide (b1.alloc b1.size (.cells #[.int .i64 0, .slice none 0 0] 64))
  clear b1
  go_wp2_with fail
  refine (Tryd.slices_Clone_int_nil 0 0 _).mono ?_
  rintro e w2 ⟨rfl, rfl⟩
  go_wp2
  go_ret2
  exact ⟨rfl, HB.out⟩
set_option maxHeartbeats 4000000 in
set_option maxRecDepth 100000 in
theorem bnil_calls (t : Tm) (A : Nat → Prop) (h : Int) (s : Value) (id : Int) (w : World) (ht : tabB w.heap.size w) (hs : IsTm A w h s t) :
    Calls Tryd.prog 5 #[.agg #[.int .i64 h, s], .int .i64 id] w fun e w' => e = .returned (.bool true) ∧ Below w.heap.size w w' := by
  obtain ⟨rfl, a, c, rfl, hlc, hc⟩ := hs.shape
  have h0 : Below w.heap.size w (w.alloc (.cells #[.int .i64 t.h, .slice a t.args.length c] 26)) := (Below.refl _ _).alloc (Nat.le_refl _) _
  have k0 := World.alloc_heap_new w (.cells #[.int .i64 t.h, .slice a t.args.length c] 26)
  have hs0 := hs.below h0
  have HB0 := hide h0
  have HT := hide ht
  clear hs h0 ht
  go_enter Tryd.func5, Tryd.ntmps5
  go_wp2_with fail
  generalize w.alloc (.cells #[.int .i64 t.h, .slice a t.args.length c] 26) = w0 at *
  refine (few1_calls t A _ _ w0 hs0).mono ?_
  rintro e w1 ⟨rfl, b1⟩
  have HB1 := hide (more_below HB0.out b1)
  have k1 := (b1.block _ (Array.getElem?_eq_some_iff.1 k0).1).trans k0
  obtain ⟨-, z0, z1, -, -⟩ := box2 k1
  clear b1 k0 hs0 HB0
  generalize fewB t = fw
  cases fw
  · go_wp2
    go_ret
    exact ⟨rfl, HB1.out⟩
  go_wp2_with fail
  refine (bput_nil _ _ w1).mono ?_
  rintro e w2 ⟨rfl, b2⟩
  have HB2 := hide (more_below HB1.out b2)
  have k2 := (b2.block _ (Array.getElem?_eq_some_iff.1 k1).1).trans k1
  obtain ⟨-, z0, z1, -, -⟩ := box2 k2
  clear b2 k1 HB1
  go_wp2_with fail
  refine (bfind_nil _ _ w2).mono ?_
  rintro e w3 ⟨rfl, b3⟩
  have HB3 := hide (more_below HB2.out b3)
  clear b3 k2 z0 z1 HB2
  go_wp2_with fail
  refine (bterm_nil id w3).mono ?_
  rintro e w4 ⟨rfl, b4⟩
  have HB4 := hide (more_below HB3.out b4)
  have HB4' := hide (HB4.out.alloc HB4.out.size (.cells #[.int .i64 0, .slice none 0 0] 26))
  clear b4 HB3
  go_wp2_with fail
  generalize w4.alloc (.cells #[.int .i64 0, .slice none 0 0] 26) = w5 at *
  refine (bargs_nil id w5).mono ?_
  rintro e w6 ⟨rfl, b6⟩
  have HB6 := hide (more_below HB4'.out b6)
  clear b6 HB4 HB4'
  go_wp2_with fail
  refine (awake6_calls w.heap.size w6 (HT.out.on HB6.out) HB6.out.size).mono ?_
  rintro e w7 ⟨rfl, b7⟩
  have HB7 := hide (more_below HB6.out b7)
  clear b7 HB6
  go_wp2_with fail
  refine (bsize_nil w7).mono ?_
  rintro e w8 ⟨rfl, rfl⟩
  go_wp2
  go_ret
  exact ⟨rfl, HB7.out⟩
end Go.Proofs.YtefmgooceeigbaaDoor
