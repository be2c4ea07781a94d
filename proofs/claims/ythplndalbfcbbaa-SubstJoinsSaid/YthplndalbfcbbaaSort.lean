/- slices.Sort and slices.Compact at a row of numbers of the call's own. -/
import Derived.Sort.OwnSortedInts
import Derived.Lib.SlicesCompact
import Derived.Lib.RowBridge
import Derived.Test.YthplndalbfcbbaaShelf
import Derived.Test.YthplndalbfcbbaaJoin
set_option linter.unusedSimpArgs false
set_option linter.unusedVariables false
namespace Go.Proofs.Ythplndalbfcbbaa
open Go.RowKit Go.Sort

def leI : Int → Int → Bool := fun x y => decide (x ≤ y)
def sortI (l : List Int) : List Int := l.mergeSort fun x y => decide (x ≤ y)
theorem sortI_length (l : List Int) : (sortI l).length = l.length := by simp [sortI]
theorem sortI_mem (l : List Int) (v : Int) : v ∈ sortI l ↔ v ∈ l := by simp [sortI]
theorem sortI_sorted (l : List Int) : (sortI l).Pairwise (· ≤ ·) := by
  have := List.pairwise_mergeSort (le := fun x y : Int => decide (x ≤ y)) (fun a b c h1 h2 => by simp at *; omega) (fun a b => by simp; omega) l
  exact this.imp fun h => by simpa using h

theorem sort_own (l : List Int) (base e : Nat) (v : Value) (W : World) (hl : l.length ≤ 1000000) (h : W.ownsRow base e 1 v l.length (l.map (Value.int .i64))) :
    Calls Try.prog 104 #[v] W fun en w' => en = .returned (.tuple #[]) ∧ w'.ownsRow base e 1 v l.length ((sortI l).map (Value.int .i64)) ∧ Keep (fun b => v.ownBlock ≠ some b) W w' := by
  have h' := h
  rcases h.2 with ⟨hv, h0⟩ | ⟨g, cap, cur, hv, hg, hh, hn, hm, hs, ht⟩
  · have hl0 : l = [] := List.eq_nil_of_length_eq_zero h0
    subst hl0 hv
    refine (Try.slices_Sort_int_none none 0 W).mono ?_
    rintro en w' ⟨rfl, rfl⟩
    exact ⟨rfl, by simpa [sortI] using h', Keep.refl _ _⟩
  · have hlt : g < W.heap.size := (Array.getElem?_eq_some_iff.1 hh).1
    rw [Nat.mul_one] at ht
    have hH := holds_of_blockI hh ht
    subst hv
    refine (Try.slices_Sort_int g 0 cap l W hH hlt (by omega)).mono ?_
    rintro en w' ⟨rfl, n, os, rfl⟩
    exact ⟨rfl, ownsRow_sortedI (sortI_length l) hg hh hn hm hs, (Keep.refl _ _).grown (grownBy_sortedI _) (fun k hk h => h hk)⟩

theorem Ints.of_prefix {w : World} {base e g n cap : Nat} {a z : List Int} (h : w.ownsRow base e 1 (.slice (some ⟨g, 0, none⟩) n cap) n ((a ++ z).map (Value.int .i64))) : Ints (fun _ => False) w (.slice (some ⟨g, 0, none⟩) a.length cap) a := by
  rcases h.2 with ⟨hv, _⟩ | ⟨g', cap', cur, hv, hg, hh, hn, hm, hs, ht⟩
  · cases hv
  cases hv
  have hlen : a.length + z.length = n := by have := h.1; simpa using this
  simp only [Ints, RepD]
  refine ⟨_, _, _, rfl, by simp, by omega, by simpa [maxLen] using hm, fun h0 => ⟨g, 0, rfl, (Array.getElem?_eq_some_iff.1 hh).1, id, ?_⟩⟩
  have hfl : (a.map fun n => [Value.int .i64 n]).flatten = a.map (Value.int .i64) := by
    clear h hh hs ht hlen h0
    induction a with
    | nil => rfl
    | cons x l ih => rw [List.map_cons, List.flatten_cons, ih, List.map_cons]; rfl
  refine RepR.of (a.map fun n => [Value.int .i64 n]) _ 0 (by simp) (fun j hj => ?_) ?_
  · rw [hfl] at hj ⊢
    have hj' : j < a.length := by simpa using hj
    have := h.cells (g := g) rfl j ((a.map (Value.int .i64))[j]) (by rw [List.map_append, List.getElem?_append_left hj]; simp)
    rw [add_plain] at this
    rw [Nat.zero_add, this, List.getElem?_eq_getElem hj]
  · clear hfl h hh hs ht hlen h0
    induction a with
    | nil => exact .nil
    | cons x l ih => exact .cons (by simp [intD, RepD]) ih

theorem compact_own (l : List Int) (base e : Nat) (v : Value) (W : World) (hl : l.length ≤ 1000000) (h : W.ownsRow base e 1 v l.length (l.map (Value.int .i64))) :
    Calls Try.prog 105 #[v] W fun en w' => ∃ v', en = .returned v' ∧ Ints (fun _ => False) w' v' (Lib.compact l) ∧ Keep (fun b => v.ownBlock ≠ some b) W w' := by
  rcases h.2 with ⟨hv, h0⟩ | ⟨g, cap, cur, hv, hg, hh, hn, hm, hs, ht⟩
  · have hl0 : l = [] := List.eq_nil_of_length_eq_zero h0
    subst hl0 hv
    refine (Try.slices_Compact_int_empty none 0 W).mono ?_
    rintro en w' ⟨rfl, rfl⟩
    exact ⟨_, rfl, Ints.nil _ _, Keep.refl _ _⟩
  · rw [Nat.mul_one] at ht
    have hH := holds_of_blockI hh ht
    have hcl := Lib.compact_length_le l
    subst hv
    refine (Try.slices_Compact_int g 0 cap l W hH (by omega) hn).mono ?_
    rintro en w' ⟨rfl, q, rfl⟩
    have hg0 := grownBy_sortedI (w := W) (g := g) (n := q) (os := #[]) (Lib.compact l ++ List.replicate (l.length - (Lib.compact l).length) 0).toArray
    have ho := ownsRow_sortedI (w := W) (base := base) (g := g) (cap := cap) (n := q) (e := e) (os := #[]) (cur := cur) (ss := l) (ts := Lib.compact l ++ List.replicate (l.length - (Lib.compact l).length) 0) (by simp; omega) hg hh hn hm hs
    rw [grow_empty] at hg0 ho
    exact ⟨_, rfl, Ints.of_prefix ho, (Keep.refl _ _).grown hg0 (fun k hk h => h hk)⟩

/-! ### What is left of a sorted row -/
theorem compactUpTo_sorted (d : Array Int) (hs : ∀ i j, i < j → j < d.size → d[i]! ≤ d[j]!) : ∀ m, m ≤ d.size → (Lib.compactUpTo d m).Pairwise (· < ·) ∧ (∀ v, v ∈ Lib.compactUpTo d m ↔ ∃ j, j < m ∧ d[j]! = v)
  | 0, _ => by simp [Lib.compactUpTo]
  | m + 1, hm => by
    obtain ⟨h1, h2⟩ := compactUpTo_sorted d hs m (by omega)
    rw [Lib.compactUpTo_succ]
    by_cases hk : Lib.keeps d m = true
    · rw [if_pos hk]
      constructor
      · rw [List.pairwise_append]
        refine ⟨h1, by simp, fun x hx y hy => ?_⟩
        simp only [List.mem_singleton] at hy
        subst hy
        obtain ⟨j, hj, rfl⟩ := (h2 x).1 hx
        have hne : d[m]! ≠ d[m - 1]! := by
          simp only [Lib.keeps, decide_eq_true_eq] at hk
          rcases hk with h | h
          · omega
          · exact h
        have hle : d[m - 1]! ≤ d[m]! := hs (m - 1) m (by omega) (by omega)
        have hle2 : d[j]! ≤ d[m - 1]! := by
          rcases Nat.lt_or_ge j (m - 1) with h | h
          · exact hs j (m - 1) h (by omega)
          · have : j = m - 1 := by omega
            rw [this]; exact Int.le_refl _
        show d[j]! < d[m]!
        omega
      · intro v
        rw [List.mem_append, h2 v, List.mem_singleton]
        constructor
        · rintro (⟨j, hj, rfl⟩ | rfl)
          · exact ⟨j, by omega, rfl⟩
          · exact ⟨m, by omega, rfl⟩
        · rintro ⟨j, hj, rfl⟩
          rcases Nat.lt_or_ge j m with h | h
          · exact .inl ⟨j, h, rfl⟩
          · have : j = m := by omega
            subst this; exact .inr rfl
    · rw [if_neg hk, List.append_nil]
      refine ⟨h1, fun v => ?_⟩
      rw [h2 v]
      have hm0 : ¬ (m = 0 ∨ d[m]! ≠ d[m - 1]!) := by simpa [Lib.keeps] using hk
      constructor
      · rintro ⟨j, hj, rfl⟩; exact ⟨j, by omega, rfl⟩
      · rintro ⟨j, hj, rfl⟩
        rcases Nat.lt_or_ge j m with h | h
        · exact ⟨j, h, rfl⟩
        · have : j = m := by omega
          subst this
          refine ⟨j - 1, by omega, ?_⟩
          by_cases he : d[j]! = d[j - 1]!
          · exact he.symm
          · exact absurd (.inr he) hm0
theorem compact_sorted {l : List Int} (h : l.Pairwise (· ≤ ·)) : (Lib.compact l).Pairwise (· < ·) ∧ ∀ v, v ∈ Lib.compact l ↔ v ∈ l := by
  have h1 := compactUpTo_sorted l.toArray (fun i j hij hj => by
    have hj' : j < l.length := by simpa using hj
    have := List.pairwise_iff_getElem.1 h i j (by omega) hj' hij
    simpa [getElem!_pos, hj', show i < l.length by omega] using this) l.length (by simp)
  refine ⟨h1.1, fun v => ?_⟩
  rw [Lib.compact, h1.2 v, List.mem_iff_getElem]
  constructor
  · rintro ⟨j, hj, rfl⟩; exact ⟨j, hj, by simp [getElem!_pos, hj]⟩
  · rintro ⟨j, hj, rfl⟩; exact ⟨j, hj, by simp [getElem!_pos, hj]⟩
theorem compact_length (l : List Int) : (Lib.compact l).length ≤ l.length := Lib.compact_length_le l
end Go.Proofs.Ythplndalbfcbbaa
