/- (*bank.Bank).Args, walked. -/
import Derived.Test.YtefmgooceeigbaaDoorBank6
set_option linter.unusedSimpArgs false
set_option linter.unusedVariables false
namespace Go.Proofs.YtefmgooceeigbaaDoor
open Go.RowKit

/-- A row of numbers of the call's own, copied. -/
theorem clone_calls (l : List Int) (A : Nat → Prop) (s : Value) (w : World) (hl : l.length ≤ 1000000) (hs : Ints A w s l) :
    Calls Tryd.prog 35 #[s] w fun e w' => ∃ v, e = .returned v ∧ w'.ownsRow w.heap.size 3 1 v l.length (l.map (Value.int .i64)) ∧ Below w.heap.size w w' := by
  obtain ⟨a, c, rfl, h1, h2⟩ := hs.shape
  cases a with
  | none =>
    have hn : l = [] := by
      cases l with
      | nil => rfl
      | cons x l => obtain ⟨b, off, h, -⟩ := hs.get 0 (by simp); cases h
    subst hn
    refine (Tryd.slices_Clone_int_nil _ c w).mono ?_
    rintro e w' ⟨rfl, rfl⟩
    exact ⟨_, rfl, World.ownsRow_nil _ _ _ _, Below.refl _ _⟩
  | some p =>
    by_cases h0 : l.length = 0
    · have hn : l = [] := List.eq_nil_of_length_eq_zero h0
      subst hn
      refine (Tryd.slices_Clone_int_zero p c w).mono ?_
      rintro e w' ⟨v, rfl, g1, -, g3⟩
      exact ⟨v, rfl, g1, g3⟩
    · obtain ⟨b, off, hp, -, -, -⟩ := hs.get 0 (by omega)
      simp only [Option.some.injEq] at hp
      subst hp
      refine (Tryd.slices_Clone_int b off l.length c l w (Nat.le_refl _) (by omega) fun j hj => ?_).mono ?_
      · obtain ⟨b', off', hp, -, -, hc⟩ := hs.get j hj
        simp only [Option.some.injEq, Addr.mk.injEq] at hp
        obtain ⟨rfl, rfl, -⟩ := hp
        rw [hc, List.getD_eq_getElem?_getD, List.getElem?_eq_getElem hj]; rfl
      · rintro e w' ⟨v, rfl, g1, -, g3⟩
        rw [List.take_of_length_le (Nat.le_refl _)] at g1
        exact ⟨v, rfl, g1, g3⟩
def ArgsPost (R : List Rw) (n : Int) (w : World) (e : Ending) (w' : World) : Prop :=
  ∃ v l c, e = .returned (.tuple #[v, .int .i64 c]) ∧ Below w.heap.size w w' ∧ Ints (fun b => b < w.heap.size) w' v l ∧
    ((∃ (i : Nat) (hi : i < R.length), n = i ∧ l = zs (R[i]).2 ∧ c = 0) ∨ ((n < 0 ∨ (R.length : Int) ≤ n) ∧ l = [] ∧ c = 6))
theorem ownsRow_up {w : World} {base base' e k n : Nat} {v : Value} {cs : List Value} (h : w.ownsRow base e k v n cs) (hb : base' ≤ base) : w.ownsRow base' e k v n cs := by
  refine ⟨h.1, ?_⟩
  rcases h.2 with h | ⟨g, cap, cur, h1, hg, h2⟩
  · exact .inl h
  · exact .inr ⟨g, cap, cur, h1, by omega, h2⟩
set_option maxHeartbeats 2000000 in
set_option maxRecDepth 100000 in
theorem bargs_calls (xb mb base : Nat) (A : Nat → Prop) (R : List Rw) (rv : Value) (f : Value → Option Value) (n : Int) (w : World) (hx : BankAt w A xb mb R rv f base) (hl : ∀ i (hi : i < R.length), (R[i]).2.length ≤ 1000000) :
    Calls Tryd.prog 21 #[.pointer (some ⟨xb, 0, none⟩), .int .i64 n] w (ArgsPost R n w) := by
  have HL := hide hl
  clear hl
  go_enter Tryd.func21, Tryd.ntmps21
  go_wp2_with fail
  refine (brow_calls xb mb base A R rv f n _ hx).mono ?_
  rintro e w1 ⟨rh, rs, rc, rfl, b1, hr⟩
  obtain ⟨l, hI, hlen, hlt⟩ : ∃ l, Ints (fun b => A b ∨ BZ xb mb rv b) w1 rs l ∧ l.length ≤ 1000000 ∧ ((∃ (i : Nat) (hi : i < R.length), n = i ∧ l = zs (R[i]).2 ∧ rc = 0) ∨ ((n < 0 ∨ (R.length : Int) ≤ n) ∧ l = [] ∧ rc = 6)) := by
    rcases hr with ⟨i, hi, h1, h2, h3, h4⟩ | ⟨h1, h2, h3, h4⟩
    · exact ⟨_, h3, by rw [zs_length]; exact HL.out i hi, .inl ⟨i, hi, h1, rfl, h4⟩⟩
    · exact ⟨[], by rw [h3]; exact Ints.nil _ _, by simp, .inr ⟨h1, rfl, h4⟩⟩
  have HR := hide hlt
  have HB1 := hide b1
  obtain ⟨sa, sc, rfl, -, -⟩ := hI.shape
  have hb2 : Below w1.heap.size w1 (w1.alloc (.cells #[.int .i64 rh, .slice sa l.length sc] 64)) := (Below.refl _ _).alloc (Nat.le_refl _) _
  have HI := hide (hI.below hb2)
  have HB2 := hide (more_below b1 hb2)
  have HLN := hide hlen
  clear hr hlt hI hlen b1 hb2 hx
  go_wp2_with fail
  generalize w1.alloc (.cells #[.int .i64 rh, .slice sa l.length sc] 64) = w2 at *
  refine (clone_calls l _ _ w2 HLN.out HI.out).mono ?_
  rintro e w3 ⟨v, rfl, ho, b3⟩
  have HB3 := hide (more_below HB2.out b3)
  have hs2 := HB2.out.size
  have HV := hide (show Ints (fun b => b < w.heap.size) w3 v l from Ints.of_own ho fun b hb h => by have := (ho.lt b hb).1; omega)
  clear ho b3
  go_wp2
  go_ret2
  exact ⟨_, _, _, rfl, HB3.out, HV.out, HR.out⟩
end Go.Proofs.YtefmgooceeigbaaDoor
