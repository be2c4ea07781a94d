/- bank: Term. -/
import Derived.Test.YtefmgooceeigbaaDoorBank7
set_option linter.unusedSimpArgs false
set_option linter.unusedVariables false
namespace Go.Proofs.YtefmgooceeigbaaDoor
open Go.RowKit

/-- No row stands for a term too great. -/
def Sized (R : List Rw) (m : Nat) : Prop := ∀ i, i < R.length → ∃ t, IsAt R t i ∧ t.size ≤ m
theorem Sized.nil (m : Nat) : Sized [] m := fun i h => by simp at h
theorem Sized.kept {R R' : List Rw} {m n : Nat} (h : Sized R m) (k : Kept R R' n) (hn : n ≤ m) : Sized R' m := fun i hi => by
  by_cases hl : i < R.length
  · obtain ⟨t, h1, h2⟩ := h i hl
    exact ⟨t, h1.mono k.pre _ _, h2⟩
  · obtain ⟨t, h1, h2⟩ := k.new i (by omega) hi
    exact ⟨t, h1, by omega⟩
def TermPost (B : Nat → Prop) (R : List Rw) (n : Int) (w : World) (e : Ending) (w' : World) : Prop :=
  ∃ h s c, e = .returned (.tuple #[.agg #[.int .i64 h, s], .int .i64 c]) ∧ Below w.heap.size w w' ∧
    ((∃ (i : Nat) (t : Tm), n = i ∧ IsAt R t i ∧ h = t.h ∧ Terms B w' s t.args ∧ c = 0) ∨ ((n < 0 ∨ (R.length : Int) ≤ n) ∧ h = 0 ∧ s = .slice none 0 0 ∧ c = 6))
set_option maxHeartbeats 4000000 in
set_option maxRecDepth 100000 in
theorem bterm_calls (xb mb base m : Nat) (B A : Nat → Prop) (R : List Rw) (rv : Value) (f : Value → Option Value) (n : Int) (w : World) (hm : m ≤ 1000000) (hB : ∀ b, B b → b < w.heap.size) (hx : BankAt w A xb mb R rv f base) (hz : Sized R m) :
    Calls Tryd.prog 13 #[.pointer (some ⟨xb, 0, none⟩), .int .i64 n] w (TermPost B R n w) := by
  have h0 : Below w.heap.size w (w.alloc (.cells #[.int .i64 0, .slice none 0 0] 26)) := (Below.refl _ _).alloc (Nat.le_refl _) _
  have k0 := World.alloc_heap_new w (.cells #[.int .i64 0, .slice none 0 0] 26)
  have HX0 := hide (hx.below h0)
  have HBB := hide hB
  have HZ := hide hz
  clear hx hz hB
  go_enter Tryd.func13, Tryd.ntmps13
  go_wp2_with fail
  refine (brow_calls xb mb base A R rv f n _ HX0.out).mono ?_
  rintro e w1 ⟨rh, rs, rc, rfl, b1, hr⟩
  have HB := hide (more_below h0 b1)
  have HX1 := hide (HX0.out.below b1)
  have k1 := (b1.block _ (Array.getElem?_eq_some_iff.1 k0).1).trans k0
  clear h0 k0 b1 HX0
  rcases hr with ⟨i, hi, rfl, rfl, hi1, rfl⟩ | ⟨hn, rfl, rfl, rfl⟩
  · obtain ⟨t, hat, hts⟩ := HZ.out i hi
    obtain ⟨sa, sc, rfl, -, -⟩ := hi1.shape
    have HAT := hide hat
    have HTS := hide (show t.size ≤ 1000000 by omega)
    have hb2 : Below w1.heap.size w1 (w1.alloc (.cells #[.int .i64 (R[i]).1, .slice sa (zs (R[i]).2).length sc] 64)) := (Below.refl _ _).alloc (Nat.le_refl _) _
    have HX2 := hide (HX1.out.below hb2)
    have HB2 := hide (more_below HB.out hb2)
    have HK2 := hide ((hb2.block _ (Array.getElem?_eq_some_iff.1 k1).1).trans k1)
    clear hat hts hi1 hb2 HX1 HB k1
    go_wp2_with fail
    generalize w1.alloc (.cells #[.int .i64 (R[i]).1, .slice sa (zs (R[i]).2).length sc] 64) = w2 at *
    refine (build_calls xb mb base t.size (fun b => B b ∨ b = w.heap.size) A t i R rv f w2 (Nat.le_refl _) HTS.out (fun b hb => ?_) HX2.out HAT.out).mono ?_
    · have := (Array.getElem?_eq_some_iff.1 HK2.out).1
      have := HB2.out.size
      rcases hb with hb | rfl
      · have := HBB.out b hb; omega
      · omega
    rintro e w3 ⟨s, rfl, hT, b3⟩
    obtain ⟨ta, tc, rfl, -, -⟩ := hT.shape
    have k3 := (b3.block _ (Array.getElem?_eq_some_iff.1 HK2.out).1).trans HK2.out
    have HB3 := hide (more_below HB2.out b3)
    obtain ⟨hlt1, z0, z1, z2, z3⟩ := box2 k3
    have HBE := hide (set2_below (b := w.heap.size) HB3.out (Nat.le_refl _) (.int .i64 t.h) (.slice ta t.args.length tc))
    have HTE := hide (hT.keep (S := fun b => b ≠ w.heap.size) (((Keep.refl _ w3).setCell (p := ⟨w.heap.size, 0, none⟩) (by simp) (.int .i64 t.h)).setCell (p := ⟨w.heap.size, 1, none⟩) (by simp) (.slice ta t.args.length tc)) (fun b _ hb' e => hb' (.inr e)))
    obtain ⟨-, r0, r1, -, -⟩ := box2 (box2_set k3 (.int .i64 t.h) (.slice ta t.args.length tc))
    clear hT b3 k3 HB2 HK2 HX2
    go_wp2
    exact bodyPost_ret (v := .tuple #[.agg #[.int .i64 t.h, .slice ta t.args.length tc], .int .i64 0]) (by simp [results, Tryd.results13, go_sem, r0, r1]) rfl ⟨_, _, _, rfl, HBE.out, .inl ⟨i, t, rfl, HAT.out, rfl, HTE.out.bar (fun _ _ h => .inl h), rfl⟩⟩
  · obtain ⟨hlt1, z0, z1, z2, z3⟩ := box2 k1
    obtain ⟨fb, -, q0, q1⟩ := fin2 (A := fun _ => False) (ts := []) HB.out (Nat.le_refl _) k1 (Terms.nil _ _) (.int .i64 0) (.cells #[.int .i64 0, .slice none 0 0] 64)
    have HF := hide fb
    have HN := hide hn
    clear fb k1 hn
    go_wp2
    exact bodyPost_ret (v := .tuple #[.agg #[.int .i64 0, .slice none 0 0], .int .i64 6]) (by simp [results, Tryd.results13, go_sem, q0, q1]) rfl ⟨_, _, _, rfl, HF.out, .inr ⟨HN.out, rfl, rfl, rfl⟩⟩
end Go.Proofs.YtefmgooceeigbaaDoor
