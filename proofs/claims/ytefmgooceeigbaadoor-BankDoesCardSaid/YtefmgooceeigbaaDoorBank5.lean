/- bank: New, Size, Put; what a nil bank answers. -/
import Derived.Test.YtefmgooceeigbaaDoorBank4
import Derived.Test.YtefmgooceeigbaaDoorGrow
set_option linter.unusedSimpArgs false
set_option linter.unusedVariables false
namespace Go.Proofs.YtefmgooceeigbaaDoor
open Go.RowKit

theorem chk_size {t : Tm} (h : chk t = 0) : t.size ≤ 400 := (chk_hok h).2
set_option maxHeartbeats 1000000 in
set_option maxRecDepth 100000 in
theorem new_calls (A : Nat → Prop) (w : World) (hA : ∀ b, A b → b < w.heap.size) : Calls Tryd.prog 7 #[] w fun e w' => ∃ xb mb, e = .returned (.pointer (some ⟨xb, 0, none⟩)) ∧ BankAt w' A xb mb [] (.slice none 0 0) (fun _ => none) w.heap.size ∧ Below w.heap.size w w' := by
  have hb : Below w.heap.size w ((w.alloc (.map #[] 0)).alloc (.cells #[.slice none 0 0, .map (some w.heap.size)] 62)) := ((Below.refl _ _).alloc (Nat.le_refl _) _).alloc (by simp) _
  have m1 : MapV Tryd.prog 9 ((w.alloc (.map #[] 0)).alloc (.cells #[.slice none 0 0, .map (some w.heap.size)] 62)) w.heap.size fun _ => none :=
    (MapV.made _ _ w).below ((Below.refl _ _).alloc (Nat.le_refl _) _)
  have x1 := World.alloc_heap_new (w.alloc (.map #[] 0)) (.cells #[.slice none 0 0, .map (some w.heap.size)] 62)
  rw [World.size_alloc] at x1
  have HX := hide (show BankAt ((w.alloc (.map #[] 0)).alloc (.cells #[.slice none 0 0, .map (some w.heap.size)] 62)) A (w.heap.size + 1) w.heap.size [] (.slice none 0 0) (fun _ => none) w.heap.size from
    { x := x1, m := m1, r := ⟨[], World.ownsRow_nil _ _ _ _, by simp, .nil⟩, f1 := by simp, f2 := by simp, g := .nil, fit := by simp, xb0 := by omega, mb0 := by omega, ne1 := by simp [Value.ownBlock], ne2 := by simp [Value.ownBlock], ne3 := by omega,
      na := fun b hb hz => by
        have := hA b hz
        rcases hb with hb | hb | hb
        · omega
        · omega
        · simp [Value.ownBlock] at hb
      la := fun b hb => by have := hA b hb; simp; omega })
  have HB := hide hb
  have hmm := @run_makeMap Tryd.prog
  clear hb m1 x1
  go_enter Tryd.func7, Tryd.ntmps7
  go_wp2
  go_ret
  exact ⟨_, _, rfl, HX.out, HB.out⟩

set_option maxHeartbeats 1000000 in
set_option maxRecDepth 100000 in
theorem bsize_nil (w : World) : Calls Tryd.prog 10 #[.pointer none] w fun e w' => e = .returned (.int .i64 0) ∧ w = w' := by
  go_enter Tryd.func10, Tryd.ntmps10
  go_wp2
  go_ret
  exact ⟨rfl, rfl⟩
set_option maxHeartbeats 1000000 in
set_option maxRecDepth 100000 in
theorem bsize_calls {A : Nat → Prop} {xb mb : Nat} {R : List Rw} {rv : Value} {f : Value → Option Value} {base : Nat} (w : World) (hx : BankAt w A xb mb R rv f base) : Calls Tryd.prog 10 #[.pointer (some ⟨xb, 0, none⟩)] w fun e w' => e = .returned (.int .i64 R.length) ∧ w = w' := by
  obtain ⟨a, c, hrv, -⟩ := hx.row
  obtain ⟨-, q0, q1, -, -⟩ := box2 hx.x
  rw [hrv] at q0
  have hxl := (Array.getElem?_eq_some_iff.1 hx.x).1
  clear hx
  go_enter Tryd.func10, Tryd.ntmps10
  go_wp2
  go_ret
  exact ⟨rfl, rfl⟩

/-! ### Put -/
def putB (R : List Rw) (t : Tm) : List Rw × Int × Int := if chk t = 0 then ((putT R t).1, numV (putT R t).2, errV (putT R t).2) else (R, 0, 1)
set_option maxHeartbeats 1000000 in
set_option maxRecDepth 100000 in
theorem bPut_calls (xb mb base : Nat) (A : Nat → Prop) (t : Tm) (R : List Rw) (rv : Value) (f : Value → Option Value) (h : Int) (s : Value) (w : World) (hsz : t.size ≤ 1000000000) (htb : tabB base w) (hx : BankAt w A xb mb R rv f base) (hs : IsTm (BZ xb mb rv) w h s t) :
    Calls Tryd.prog 11 #[.pointer (some ⟨xb, 0, none⟩), .agg #[.int .i64 h, s]] w fun e w' => e = .returned (.tuple #[.int .i64 (putB R t).2.1, .int .i64 (putB R t).2.2]) ∧ ∃ rv' f', BankAt w' A xb mb (putB R t).1 rv' f' base ∧ Moved (BZ xb mb rv) (BZ xb mb rv') w w' := by
  obtain ⟨rfl, a, c, rfl, hlc, hc⟩ := hs.shape
  have HBA := hide (show base ≤ w.heap.size by have := hx.lt xb (.inl rfl); omega)
  have h0 : Below w.heap.size w (w.alloc (.cells #[.int .i64 t.h, .slice a t.args.length c] 26)) := (Below.refl _ _).alloc (Nat.le_refl _) _
  have k0 := World.alloc_heap_new w (.cells #[.int .i64 t.h, .slice a t.args.length c] 26)
  have HX := hide (hx.below h0)
  have HS := hide (hs.below h0)
  have HT := hide (htb.on (h0.mono HBA.out))
  have HB := hide h0
  have HK := hide k0
  clear hx hs htb h0 k0
  go_enter Tryd.func11, Tryd.ntmps11
  go_wp2_with fail
  generalize w.alloc (.cells #[.int .i64 t.h, .slice a t.args.length c] 26) = W at *
  refine (check_calls t _ _ _ W HS.out hsz).mono ?_
  rintro e w1 ⟨rfl, b1⟩
  have HX1 := hide (HX.out.below b1)
  have HS1 := hide (HS.out.below b1)
  have HT1 := hide (HT.out.on (b1.mono (by have := HBA.out; have := HB.out.size; omega)))
  have HB1 := hide (more_below HB.out b1)
  have HK1 := (b1.block _ (Array.getElem?_eq_some_iff.1 HK.out).1).trans HK.out
  obtain ⟨-, z0, z1, -, -⟩ := box2 HK1
  clear HX HS HT HB HK HK1 b1
  by_cases hc0 : chk t = 0
  · have hd : (chk t != 0) = false := by simp [hc0]
    have HP := hide (show putB R t = ((putT R t).1, numV (putT R t).2, errV (putT R t).2) by rw [putB, if_pos hc0])
    have hok := chk_hok hc0
    have HO := hide hok.1
    have HZ := hide hok.2
    clear hc0 hok
    go_wp2_with fail
    refine (bput_calls xb mb base t.size A t R rv f _ _ w1 (Nat.le_refl _) (by have := HZ.out; omega) HO.out HT1.out HX1.out HS1.out).mono ?_
    rintro e w2 ⟨rfl, rv', f', x2, m2⟩
    have HX2 := hide x2
    have HM2 := hide ((Moved.of_below (Z := BZ xb mb rv) HB1.out).trans m2)
    clear x2 m2 HX1 HS1 HT1 HB1
    go_wp2
    go_ret2
    rw [HP.out]
    exact ⟨rfl, rv', f', HX2.out, HM2.out⟩
  · have hd : (chk t != 0) = true := by simp [hc0]
    have HP := hide (show putB R t = (R, 0, 1) by rw [putB, if_neg hc0])
    clear hc0
    go_wp2
    go_ret2
    rw [HP.out]
    exact ⟨rfl, rv, f, HX1.out, Moved.of_below HB1.out⟩

/-! ### nil -/
set_option maxHeartbeats 1000000 in
set_option maxRecDepth 100000 in
theorem bput_nil (h : Value) (s : Value) (w : World) : Calls Tryd.prog 11 #[.pointer none, .agg #[h, s]] w fun e w' => e = .returned (.tuple #[.int .i64 0, .int .i64 3]) ∧ Below w.heap.size w w' := by
  go_enter Tryd.func11, Tryd.ntmps11
  go_wp2
  go_ret2
  exact ⟨rfl, (Below.refl _ _).alloc (Nat.le_refl _) _⟩
set_option maxHeartbeats 1000000 in
set_option maxRecDepth 100000 in
theorem bfind_nil (h : Value) (s : Value) (w : World) : Calls Tryd.prog 18 #[.pointer none, .agg #[h, s]] w fun e w' => e = .returned (.tuple #[.int .i64 0, .bool false]) ∧ Below w.heap.size w w' := by
  go_enter Tryd.func18, Tryd.ntmps18
  go_wp2
  go_ret2
  exact ⟨rfl, (Below.refl _ _).alloc (Nat.le_refl _) _⟩
set_option maxHeartbeats 1000000 in
set_option maxRecDepth 100000 in
theorem brow_nil (n : Int) (w : World) : Calls Tryd.prog 29 #[.pointer none, .int .i64 n] w fun e w' => e = .returned (.tuple #[.agg #[.int .i64 0, .slice none 0 0], .int .i64 3]) ∧ Below w.heap.size w w' := by
  go_enter Tryd.func29, Tryd.ntmps29
  go_wp2
  exact bodyPost_ret (v := .tuple #[.agg #[.int .i64 0, .slice none 0 0], .int .i64 3]) (by simp [results, Tryd.results29, go_sem]) rfl ⟨rfl, (Below.refl _ _).alloc (Nat.le_refl _) _⟩
set_option maxHeartbeats 1000000 in
set_option maxRecDepth 100000 in
theorem bterm_nil (n : Int) (w : World) : Calls Tryd.prog 13 #[.pointer none, .int .i64 n] w fun e w' => e = .returned (.tuple #[.agg #[.int .i64 0, .slice none 0 0], .int .i64 3]) ∧ Below w.heap.size w w' := by
  have h0 : Below w.heap.size w (w.alloc (.cells #[.int .i64 0, .slice none 0 0] 26)) := (Below.refl _ _).alloc (Nat.le_refl _) _
  have k0 := World.alloc_heap_new w (.cells #[.int .i64 0, .slice none 0 0] 26)
  go_enter Tryd.func13, Tryd.ntmps13
  go_wp2_with fail
  refine (brow_nil n _).mono ?_
  rintro e w1 ⟨rfl, b1⟩
  have HB := hide (more_below h0 b1)
  have k1 := (b1.block _ (Array.getElem?_eq_some_iff.1 k0).1).trans k0
  have hs1 := b1.size
  obtain ⟨hlt1, z0, z1, z2, z3⟩ := box2 k1
  obtain ⟨fb, -, q0, q1⟩ := fin2 (A := fun _ => False) (ts := []) HB.out (Nat.le_refl _) k1 (Terms.nil _ _) (.int .i64 0) (.cells #[.int .i64 0, .slice none 0 0] 64)
  have HF := hide fb
  clear h0 k0 b1 k1 fb
  go_wp2
  exact bodyPost_ret (v := .tuple #[.agg #[.int .i64 0, .slice none 0 0], .int .i64 3]) (by simp [results, Tryd.results13, go_sem, q0, q1]) rfl ⟨rfl, HF.out⟩
end Go.Proofs.YtefmgooceeigbaaDoor
