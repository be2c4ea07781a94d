/- The reference's layer 3: end, Apply, Shift. -/
import Derived.Test.YthplndalbfcbbaaShift
set_option linter.unusedSimpArgs false
set_option linter.unusedVariables false
namespace Go.Proofs.Ythplndalbfcbbaa
open Go.RowKit

/-- What a function that gives a term and an answer leaves. -/
def GivesE (A : Nat → Prop) (w : World) (r : Tm × Int) (e : Ending) (w' : World) : Prop := ∃ s, e = .returned (.tuple #[.agg #[.int .i64 r.1.h, s], .int .i64 r.2]) ∧ Terms A w' s r.1.args ∧ Below w.heap.size w w'
def endT (t : Tm) : Tm × Int := if chk t = 0 then (t, 0) else (.node 0 [], chk t)
theorem chk_good {t : Tm} (h : rightB t = true) : t.good = true := by
  simp only [rightB, chk, beq_iff_eq] at h
  split at h
  · simp at h
  · split at h
    · simp at h
    · split at h
      · assumption
      · simp at h

theorem end3_calls (t : Tm) (A : Nat → Prop) (h : Int) (s : Value) (w : World) (ht : t.size ≤ 1000000000) (hs : IsTm A w h s t) :
    Calls Try.prog 88 #[.agg #[.int .i64 h, s]] w fun e w' => GivesE A w (endT t) e w' := by
  obtain ⟨rfl, a, c, rfl, hlc, hc⟩ := hs.shape
  go_enter Try.func88, Try.ntmps88
  refine seq_cut (fun a' w' => a' = { tmps := #[.agg #[.int .i64 t.h, .slice a t.args.length c], .pointer (some ⟨w.heap.size, 0, none⟩), .pointer (some ⟨w.heap.size + 1, 0, none⟩), .int .i64 0, undef, undef, undef, undef, undef, undef, undef, undef], defers := [] } ∧ w' = (w.alloc (.cells #[.int .i64 t.h, .slice a t.args.length c] 25)).alloc (.cells #[.int .i64 0, .slice none 0 0] 25)) ?_ ?_
  · go_wp2
    first | done | exact ⟨rfl, rfl⟩ | exact ⟨trivial, trivial⟩
  rintro _ W ⟨rfl, HW⟩
  have hWa : W = allocs w [.cells #[.int .i64 t.h, .slice a t.args.length c] 25, .cells #[.int .i64 0, .slice none 0 0] 25] := HW
  have hB : Below w.heap.size w W := by rw [hWa]; exact allocs_below _ _
  have hsW : W.heap.size = w.heap.size + 2 := by rw [hWa]; exact allocs_size _ _
  have b0 : W.heap[w.heap.size]? = some (.cells #[.int .i64 t.h, .slice a t.args.length c] 25 (0, 0)) := by rw [hWa]; exact allocs_get _ _ 0 _ rfl
  have b1 : W.heap[w.heap.size + 1]? = some (.cells #[.int .i64 0, .slice none 0 0] 25 (0, 0)) := by rw [hWa]; exact allocs_get _ _ 1 _ rfl
  clear HW hWa
  have HsW := hide hsW
  clear hsW
  obtain ⟨-, z0, z1, -, -⟩ := box2 b0
  go_wp2_with fail
  refine (rcheck_calls t A _ _ _ ht (hs.below hB)).mono ?_
  rintro e w1 ⟨rfl, h1⟩
  have x0 := (h1.block _ (by have := HsW.out; omega)).trans b0
  have x1 := (h1.block _ (by have := HsW.out; omega)).trans b1
  have hB1 := more_below hB h1
  clear h1 z0 z1 b0 b1
  obtain ⟨-, z0, z1, -, -⟩ := box2 x0
  obtain ⟨-, y0, y1, y2, y3⟩ := box2 x1
  by_cases hk : chk t = 0
  · have HE := hide (show endT t = (t, 0) by simp [endT, hk])
    have HK := hide (show (chk t != 0) = false by simp [hk])
    obtain ⟨-, q0, q1, -, -⟩ := box2 (box2_set x1 (.int .i64 t.h) (.slice a t.args.length c))
    have hBe := set2_below (b := w.heap.size + 1) hB1 (by omega) (.int .i64 t.h) (.slice a t.args.length c)
    have hTe := hs.2.below hBe
    have HK2 := HK.out
    clear hk
    go_wp2
    exact bodyPost_ret (v := .tuple #[.agg #[.int .i64 t.h, .slice a t.args.length c], .int .i64 0]) (by simp [results, Try.results88, go_sem, q0, q1]) rfl (by rw [HE.out]; exact ⟨_, rfl, hTe, hBe⟩)
  · have HE := hide (show endT t = (.node 0 [], chk t) by simp [endT, hk])
    have HK := hide (show (chk t != 0) = true by simp [hk])
    obtain ⟨-, q0, q1, -, -⟩ := box2 (box2_set x1 (.int .i64 0) (.slice none 0 0))
    have hBe := set2_below (b := w.heap.size + 1) hB1 (by omega) (.int .i64 0) (.slice none 0 0)
    have HK2 := HK.out
    clear hk
    go_wp2
    exact bodyPost_ret (v := .tuple #[.agg #[.int .i64 0, .slice none 0 0], .int .i64 (chk t)]) (by simp [results, Try.results88, go_sem, q0, q1]) rfl (by rw [HE.out]; exact ⟨_, rfl, Terms.nil _ _, hBe⟩)

/-! ### Sizes -/
theorem ofBs_size {m : Nat} (v : Int) (hm : 1 ≤ m) : ∀ bs : List Bd, (∀ b, b ∈ bs → b.t.size ≤ m) → (ofBs v bs).size ≤ m
  | [], _ => by simpa [ofBs, Tm.size, Tm.sizes] using hm
  | b :: bs, h => by
    simp only [ofBs]
    split
    · exact h b (by simp)
    · exact ofBs_size v hm bs fun b hb => h b (by simp [hb])
mutual
theorem putT_size {m : Nat} (bs : List Bd) (hm : 1 ≤ m) (h : ∀ b, b ∈ bs → b.t.size ≤ m) : ∀ t : Tm, (putT bs t).size ≤ t.size * m
  | .node x l => by
    simp only [putT, Tm.size]
    split
    · have := ofBs_size (-1 - x) hm bs h
      have : m ≤ (1 + Tm.sizes l) * m := Nat.le_mul_of_pos_left m (by omega)
      omega
    · have := putL_size bs hm h l
      simp only [Tm.size]
      rw [Nat.add_mul]; omega
theorem putL_size {m : Nat} (bs : List Bd) (hm : 1 ≤ m) (h : ∀ b, b ∈ bs → b.t.size ≤ m) : ∀ l : List Tm, Tm.sizes (putL bs l) ≤ Tm.sizes l * m
  | [] => by simp [putL, Tm.sizes]
  | t :: ts => by
    have := putT_size bs hm h t
    have := putL_size bs hm h ts
    simp only [putL, Tm.sizes]
    rw [Nat.add_mul]; omega
end
mutual
theorem shiftT_size (y : Int) : ∀ t : Tm, (shiftT y t).size ≤ t.size
  | .node x l => by
    have := shiftL_size y l
    simp only [shiftT, Tm.size]
    split <;> simp only [Tm.size, Tm.sizes] <;> omega
theorem shiftL_size (y : Int) : ∀ l : List Tm, Tm.sizes (shiftL y l) ≤ Tm.sizes l
  | [] => by simp [shiftL, Tm.sizes]
  | t :: ts => by
    have := shiftT_size y t
    have := shiftL_size y ts
    simp only [shiftL, Tm.sizes]; omega
end
end Go.Proofs.Ythplndalbfcbbaa
