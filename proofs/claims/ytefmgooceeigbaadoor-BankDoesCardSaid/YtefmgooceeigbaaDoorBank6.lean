/- bank: row, build, Term, Args. -/
import Derived.Test.YtefmgooceeigbaaDoorBank5
import Derived.Test.YtefmgooceeigbaaDoorGrow
set_option linter.unusedSimpArgs false
set_option linter.unusedVariables false
namespace Go.Proofs.YtefmgooceeigbaaDoor
open Go.RowKit

def GivesB (A : Nat → Prop) (w : World) (t : Tm) (e : Ending) (w' : World) : Prop := ∃ s, e = .returned (.agg #[.int .i64 t.h, s]) ∧ Terms A w' s t.args ∧ Below w.heap.size w w'
/-- What `row` answers. -/
def RowPost (A : Nat → Prop) (R : List Rw) (n : Int) (w : World) (e : Ending) (w' : World) : Prop :=
  ∃ h s c, e = .returned (.tuple #[.agg #[.int .i64 h, s], .int .i64 c]) ∧ Below w.heap.size w w' ∧
    ((∃ (i : Nat) (hi : i < R.length), n = i ∧ h = (R[i]).1 ∧ Ints A w' s (zs (R[i]).2) ∧ c = 0) ∨ ((n < 0 ∨ (R.length : Int) ≤ n) ∧ h = 0 ∧ s = .slice none 0 0 ∧ c = 6))
set_option maxHeartbeats 2000000 in
set_option maxRecDepth 100000 in
theorem brow_calls (xb mb base : Nat) (A : Nat → Prop) (R : List Rw) (rv : Value) (f : Value → Option Value) (n : Int) (w : World) (hx : BankAt w A xb mb R rv f base) :
    Calls Tryd.prog 29 #[.pointer (some ⟨xb, 0, none⟩), .int .i64 n] w (RowPost (fun b => A b ∨ BZ xb mb rv b) R n w) := by
  obtain ⟨a, c, hrv, hrow⟩ := hx.row
  obtain ⟨hxl, q0, q1, -, -⟩ := box2 hx.x
  rw [hrv] at q0
  have hfit := hx.fit
  have HX := hide hx
  have h0 : Below w.heap.size w (w.alloc (.cells #[.int .i64 0, .slice none 0 0] 64)) := (Below.refl _ _).alloc (Nat.le_refl _) _
  have HS := hide h0
  have k0 := World.alloc_heap_new w (.cells #[.int .i64 0, .slice none 0 0] 64)
  clear hx h0
  by_cases hn : n < 0
  · go_enter Tryd.func29, Tryd.ntmps29
    go_wp2
    exact bodyPost_ret (v := .tuple #[.agg #[.int .i64 0, .slice none 0 0], .int .i64 6]) (by simp [results, Tryd.results29, go_sem]) rfl ⟨_, _, _, rfl, HS.out, .inr ⟨.inl hn, rfl, rfl, rfl⟩⟩
  by_cases hl : (R.length : Int) ≤ n
  · have hd : decide (n ≥ (R.length : Int)) = true := by simp; omega
    go_enter Tryd.func29, Tryd.ntmps29
    go_wp2
    exact bodyPost_ret (v := .tuple #[.agg #[.int .i64 0, .slice none 0 0], .int .i64 6]) (by simp [results, Tryd.results29, go_sem]) rfl ⟨_, _, _, rfl, HS.out, .inr ⟨.inr hl, rfl, rfl, rfl⟩⟩
  · obtain ⟨i, rfl⟩ : ∃ i : Nat, n = i := ⟨n.toNat, by omega⟩
    have hi : i < R.length := by omega
    obtain ⟨b, s, rfl, g0, g1, g2⟩ := hrow i hi
    have hbl : b < w.heap.size := World.block_lt_of_cell? _ _ g0
    have hd : decide ((i : Int) ≥ (R.length : Int)) = false := by simp; omega
    obtain ⟨sa, sc, rfl, -, -⟩ := g2.shape
    have G2 := hide g2
    have HB := hide (show Below w.heap.size w (w.alloc (.cells #[.int .i64 (R[i]).1, .slice sa (zs (R[i]).2).length sc] 64)) from (Below.refl _ _).alloc (Nat.le_refl _) _)
    clear hrow g2 hn hl HS
    go_enter Tryd.func29, Tryd.ntmps29
    go_wp2
    exact bodyPost_ret (v := .tuple #[.agg #[.int .i64 (R[i]).1, .slice sa (zs (R[i]).2).length sc], .int .i64 0]) (by simp [results, Tryd.results29, go_sem]) rfl ⟨_, _, _, rfl, HB.out, .inl ⟨i, hi, rfl, rfl, G2.out.below HB.out, rfl⟩⟩
end Go.Proofs.YtefmgooceeigbaaDoor
