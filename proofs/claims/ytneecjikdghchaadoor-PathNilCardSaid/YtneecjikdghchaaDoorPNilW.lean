/- PathNil, walked. -/
import Derived.Test.YtneecjikdghchaaDoorAwake17
set_option linter.unusedSimpArgs false
set_option linter.unusedVariables false
namespace Go.Proofs.YtneecjikdghchaaDoor
open Go.RowKit

set_option maxHeartbeats 4000000 in
set_option maxRecDepth 100000 in
theorem pnil_calls (t : Tm) (A : Nat → Prop) (h : Int) (s : Value) (id : Int) (w : World) (hs : IsTm A w h s t) :
    Calls Tryd.prog 6 #[.agg #[.int .i64 h, s], .int .i64 id] w fun e w' => e = .returned (.bool true) ∧ Below w.heap.size w w' := by
  obtain ⟨rfl, a, c, rfl, hlc, hc⟩ := hs.shape
  have h0 : Below w.heap.size w (w.alloc (.cells #[.int .i64 t.h, .slice a t.args.length c] 24)) := (Below.refl _ _).alloc (Nat.le_refl _) _
  have k0 := World.alloc_heap_new w (.cells #[.int .i64 t.h, .slice a t.args.length c] 24)
  have hs0 := hs.below h0
  have HB0 := hide h0
  clear hs h0
  go_enter Tryd.func6, Tryd.ntmps6
  go_wp2_with fail
  generalize w.alloc (.cells #[.int .i64 t.h, .slice a t.args.length c] 24) = w0 at *
  refine (few1_calls t A _ _ w0 hs0).mono ?_
  rintro e w1 ⟨rfl, b1⟩
  have HB1 := hide (more_below HB0.out b1)
  have k1 := (b1.block _ (Array.getElem?_eq_some_iff.1 k0).1).trans k0
  obtain ⟨-, z0, z1, -, -⟩ := box2 k1
  clear b1 k0 hs0 HB0
  generalize fewB t = fw
  cases fw
  · go_wp2
    go_ret
    exact ⟨rfl, HB1.out⟩
  go_wp2_with fail
  refine (pf0_nil _ _ w1 ⟨_, _, _, rfl⟩).mono ?_
  rintro e w2 ⟨rfl, b2⟩
  have HB2 := hide (more_below HB1.out b2)
  have k2 := (b2.block _ (Array.getElem?_eq_some_iff.1 k1).1).trans k1
  obtain ⟨-, z0, z1, -, -⟩ := box2 k2
  clear b2 k1 HB1
  go_wp2_with fail
  refine (pf1_nil _ _ w2 ⟨_, _, _, rfl⟩).mono ?_
  rintro e w3 ⟨rfl, b3⟩
  have HB3 := hide (more_below HB2.out b3)
  have k3 := (b3.block _ (Array.getElem?_eq_some_iff.1 k2).1).trans k2
  obtain ⟨-, z0, z1, -, -⟩ := box2 k3
  clear b3 k2 HB2
  go_wp2_with fail
  refine (pf2_nil _ _ w3 ⟨_, _, _, rfl⟩).mono ?_
  rintro e w4 ⟨rfl, b4⟩
  have HB4 := hide (more_below HB3.out b4)
  have k4 := (b4.block _ (Array.getElem?_eq_some_iff.1 k3).1).trans k3
  obtain ⟨-, z0, z1, -, -⟩ := box2 k4
  clear b4 k3 HB3
  go_wp2_with fail
  refine (awake17_calls w4).mono ?_
  rintro e w5 ⟨rfl, b5⟩
  have HB5 := hide (more_below HB4.out b5)
  have k5 := (b5.block _ (Array.getElem?_eq_some_iff.1 k4).1).trans k4
  obtain ⟨-, z0, z1, -, -⟩ := box2 k5
  clear b5 k4 HB4
  go_wp2_with fail
  refine (pput_nil id _ _ w5 ⟨_, _, _, rfl⟩).mono ?_
  rintro e w6 ⟨rfl, b6⟩
  have HB6 := hide (more_below HB5.out b6)
  clear b6 k5 z0 z1 HB5
  go_wp2_with fail
  refine (pdrop_nil id w6).mono ?_
  rintro e w7 ⟨rfl, rfl⟩
  go_wp2_with fail
  refine (psize_nil w6).mono ?_
  rintro e w8 ⟨rfl, rfl⟩
  go_wp2
  go_ret
  exact ⟨rfl, HB6.out⟩
end Go.Proofs.YtneecjikdghchaaDoor
