/- What the proof of the law rests on: contracts of the functions, plain laws, and words. -/
import Derived.Sort.OwnSortedInts
import Derived.Lib.SlicesCompact
import Derived.Lib.RowBridge
import Derived.Shelf.SlIterI.Nil
import Derived.Lib.AppendZerosOnto
import Derived.Lib.SliceRun
import Derived.Test.YthplndalbfcbbaaKUnifySolvesG5
import Derived.Test.YthplndalbfcbbaaKUnifySolvesG4
import Derived.Test.YthplndalbfcbbaaKUnifySolvesG1
import Derived.Test.YthplndalbfcbbaaKUnifySolvesG2
set_option linter.unusedSimpArgs false
set_option linter.unusedVariables false
namespace Go.Proofs.Ythplndalbfcbbaa
open Go.RowKit Go.Sort
def sortI (l : List Int) : List Int := l.mergeSort fun x y => decide (x ≤ y)
theorem sortI_length (l : List Int) : (sortI l).length = l.length := by simp [sortI]
theorem sortI_mem (l : List Int) (v : Int) : v ∈ sortI l ↔ v ∈ l := by simp [sortI]
theorem sortI_sorted (l : List Int) : (sortI l).Pairwise (· ≤ ·) := by
  have := List.pairwise_mergeSort (le := fun x y : Int => decide (x ≤ y)) (fun a b c h1 h2 => by simp at *; omega) (fun a b => by simp; omega) l
  exact this.imp fun h => by simpa using h
theorem sort_own (l : List Int) (base e : Nat) (v : Value) (W : World) (hl : l.length ≤ 1000000) (h : W.ownsRow base e 1 v l.length (l.map (Value.int .i64))) :
    Calls Try.prog 104 #[v] W fun en w' => en = .returned (.tuple #[]) ∧ w'.ownsRow base e 1 v l.length ((sortI l).map (Value.int .i64)) ∧ Keep (fun b => v.ownBlock ≠ some b) W w' := by
  have h' := h
  rcases h.2 with ⟨hv, h0⟩ | ⟨g, cap, cur, hv, hg, hh, hn, hm, hs, ht⟩
  · have hl0 : l = [] := List.eq_nil_of_length_eq_zero h0
    subst hl0 hv
    refine (Try.slices_Sort_int_none none 0 W).mono ?_
    rintro en w' ⟨rfl, rfl⟩
    exact ⟨rfl, by simpa [sortI] using h', Keep.refl _ _⟩
  · have hlt : g < W.heap.size := (Array.getElem?_eq_some_iff.1 hh).1
    rw [Nat.mul_one] at ht
    have hH := holds_of_blockI hh ht
    subst hv
    refine (Try.slices_Sort_int g 0 cap l W hH hlt (by omega)).mono ?_
    rintro en w' ⟨rfl, n, os, rfl⟩
    exact ⟨rfl, ownsRow_sortedI (sortI_length l) hg hh hn hm hs, (Keep.refl _ _).grown (grownBy_sortedI _) (fun k hk h => h hk)⟩
theorem Ints.of_prefix {w : World} {base e g n cap : Nat} {a z : List Int} (h : w.ownsRow base e 1 (.slice (some ⟨g, 0, none⟩) n cap) n ((a ++ z).map (Value.int .i64))) : Ints (fun _ => False) w (.slice (some ⟨g, 0, none⟩) a.length cap) a := by
  rcases h.2 with ⟨hv, _⟩ | ⟨g', cap', cur, hv, hg, hh, hn, hm, hs, ht⟩
  · cases hv
  cases hv
  have hlen : a.length + z.length = n := by have := h.1; simpa using this
  simp only [Ints, RepD]
  refine ⟨_, _, _, rfl, by simp, by omega, by have h9 : cap ≤ 9223372036854775807 := (by simpa [maxLen] using hm); omega, fun h0 => ⟨g, 0, rfl, (Array.getElem?_eq_some_iff.1 hh).1, id, ?_⟩⟩
  have hfl : (a.map fun n => [Value.int .i64 n]).flatten = a.map (Value.int .i64) := by
    clear h hh hs ht hlen h0
    induction a with
    | nil => rfl
    | cons x l ih => rw [List.map_cons, List.flatten_cons, ih, List.map_cons]; rfl
  refine RepR.of (a.map fun n => [Value.int .i64 n]) _ 0 (by simp) (fun j hj => ?_) ?_
  · rw [hfl] at hj ⊢
    have hj' : j < a.length := by simpa using hj
    have := h.cells (g := g) rfl j ((a.map (Value.int .i64))[j]) (by rw [List.map_append, List.getElem?_append_left hj]; simp)
    rw [add_plain] at this
    rw [Nat.zero_add, this, List.getElem?_eq_getElem hj]
  · clear hfl h hh hs ht hlen h0
    induction a with
    | nil => exact .nil
    | cons x l ih => exact .cons (by simp [intD, RepD]) ih
theorem compact_own (l : List Int) (base e : Nat) (v : Value) (W : World) (hl : l.length ≤ 1000000) (h : W.ownsRow base e 1 v l.length (l.map (Value.int .i64))) :
    Calls Try.prog 105 #[v] W fun en w' => ∃ v', en = .returned v' ∧ Ints (fun _ => False) w' v' (Lib.compact l) ∧ Keep (fun b => v.ownBlock ≠ some b) W w' := by
  rcases h.2 with ⟨hv, h0⟩ | ⟨g, cap, cur, hv, hg, hh, hn, hm, hs, ht⟩
  · have hl0 : l = [] := List.eq_nil_of_length_eq_zero h0
    subst hl0 hv
    refine (Try.slices_Compact_int_empty none 0 W).mono ?_
    rintro en w' ⟨rfl, rfl⟩
    exact ⟨_, rfl, Ints.nil _ _, Keep.refl _ _⟩
  · rw [Nat.mul_one] at ht
    have hH := holds_of_blockI hh ht
    have hcl := Lib.compact_length_le l
    subst hv
    refine (Try.slices_Compact_int g 0 cap l W hH (by omega) hn).mono ?_
    rintro en w' ⟨rfl, q, rfl⟩
    have hg0 := grownBy_sortedI (w := W) (g := g) (n := q) (os := #[]) (Lib.compact l ++ List.replicate (l.length - (Lib.compact l).length) 0).toArray
    have ho := ownsRow_sortedI (w := W) (base := base) (g := g) (cap := cap) (n := q) (e := e) (os := #[]) (cur := cur) (ss := l) (ts := Lib.compact l ++ List.replicate (l.length - (Lib.compact l).length) 0) (by simp; omega) hg hh hn hm hs
    rw [grow_empty] at hg0 ho
    exact ⟨_, rfl, Ints.of_prefix ho, (Keep.refl _ _).grown hg0 (fun k hk h => h hk)⟩
theorem compactUpTo_sorted (d : Array Int) (hs : ∀ i j, i < j → j < d.size → d[i]! ≤ d[j]!) : ∀ m, m ≤ d.size → (Lib.compactUpTo d m).Pairwise (· < ·) ∧ (∀ v, v ∈ Lib.compactUpTo d m ↔ ∃ j, j < m ∧ d[j]! = v)
  | 0, _ => by simp [Lib.compactUpTo]
  | m + 1, hm => by
    obtain ⟨h1, h2⟩ := compactUpTo_sorted d hs m (by omega)
    rw [Lib.compactUpTo_succ]
    by_cases hk : Lib.keeps d m = true
    · rw [if_pos hk]
      constructor
      · rw [List.pairwise_append]
        refine ⟨h1, by simp, fun x hx y hy => ?_⟩
        simp only [List.mem_singleton] at hy
        subst hy
        obtain ⟨j, hj, rfl⟩ := (h2 x).1 hx
        have hne : d[m]! ≠ d[m - 1]! := by
          simp only [Lib.keeps, decide_eq_true_eq] at hk
          rcases hk with h | h
          · omega
          · exact h
        have hle : d[m - 1]! ≤ d[m]! := hs (m - 1) m (by omega) (by omega)
        have hle2 : d[j]! ≤ d[m - 1]! := by
          rcases Nat.lt_or_ge j (m - 1) with h | h
          · exact hs j (m - 1) h (by omega)
          · have : j = m - 1 := by omega
            rw [this]; exact Int.le_refl _
        show d[j]! < d[m]!
        omega
      · intro v
        rw [List.mem_append, h2 v, List.mem_singleton]
        constructor
        · rintro (⟨j, hj, rfl⟩ | rfl)
          · exact ⟨j, by omega, rfl⟩
          · exact ⟨m, by omega, rfl⟩
        · rintro ⟨j, hj, rfl⟩
          rcases Nat.lt_or_ge j m with h | h
          · exact .inl ⟨j, h, rfl⟩
          · have : j = m := by omega
            subst this; exact .inr rfl
    · rw [if_neg hk, List.append_nil]
      refine ⟨h1, fun v => ?_⟩
      rw [h2 v]
      have hm0 : ¬ (m = 0 ∨ d[m]! ≠ d[m - 1]!) := by simpa [Lib.keeps] using hk
      constructor
      · rintro ⟨j, hj, rfl⟩; exact ⟨j, by omega, rfl⟩
      · rintro ⟨j, hj, rfl⟩
        rcases Nat.lt_or_ge j m with h | h
        · exact ⟨j, h, rfl⟩
        · have : j = m := by omega
          subst this
          refine ⟨j - 1, by omega, ?_⟩
          by_cases he : d[j]! = d[j - 1]!
          · exact he.symm
          · exact absurd (.inr he) hm0
theorem compact_sorted {l : List Int} (h : l.Pairwise (· ≤ ·)) : (Lib.compact l).Pairwise (· < ·) ∧ ∀ v, v ∈ Lib.compact l ↔ v ∈ l := by
  have h1 := compactUpTo_sorted l.toArray (fun i j hij hj => by
    have hj' : j < l.length := by simpa using hj
    have := List.pairwise_iff_getElem.1 h i j (by omega) hj' hij
    simpa [getElem!_pos, hj', show i < l.length by omega] using this) l.length (by simp)
  refine ⟨h1.1, fun v => ?_⟩
  rw [Lib.compact, h1.2 v, List.mem_iff_getElem]
  constructor
  · rintro ⟨j, hj, rfl⟩; exact ⟨j, hj, by simp [getElem!_pos, hj]⟩
  · rintro ⟨j, hj, rfl⟩; exact ⟨j, hj, by simp [getElem!_pos, hj]⟩
theorem compact_length (l : List Int) : (Lib.compact l).length ≤ l.length := Lib.compact_length_le l
end Go.Proofs.Ythplndalbfcbbaa
set_option linter.unusedSimpArgs false
set_option linter.unusedVariables false
namespace Go.Proofs.Ythplndalbfcbbaa
open Go.RowKit
def hasB (n : Int) (l : List Int) : Bool := l.any fun x => x == n
theorem hasB_iff {n : Int} {l : List Int} : hasB n l = true ↔ n ∈ l := by simp [hasB]
theorem hasB_drop (n : Int) (l : List Int) (k : Nat) (h : k < l.length) : hasB n (l.drop k) = (l[k] == n || hasB n (l.drop (k + 1))) := by
  rw [hasB, hasB, List.drop_eq_getElem_cons h, List.any_cons]
set_option maxHeartbeats 1000000 in
theorem in_calls (n : Int) (l : List Int) (A : Nat → Prop) (s : Value) (w : World) (hs : Ints A w s l) :
    Calls Try.prog 40 #[.int .i64 n, s] w fun e w' => e = .returned (.bool (hasB n l)) ∧ Below w.heap.size w w' := by
  obtain ⟨a, c, rfl, hlc, hc⟩ := hs.shape
  have hl : l.length ≤ 9223372036854775807 := by omega
  have HG := hide (show hasB n (l.drop 0) = hasB n l by simp)
  go_enter Try.func40, Try.ntmps40
  go_wp2
  go_loopw [5] (fun i wr => ∃ (k : Nat), k ≤ l.length ∧ i = .int .i64 k ∧ Hid (hasB n (l.drop k) = hasB n l) ∧ Below w.heap.size w wr) (fun i _ => l.length - (intOf i).toNat)
  case atStart => exact ⟨0, by omega, rfl, HG, Below.refl _ _⟩
  case round =>
    obtain ⟨k, hk, rfl, hx, hB⟩ := hrel
    by_cases hlt : k < l.length
    · obtain ⟨b, off, rfl, hbs, hbA, g0⟩ := hs.get k hlt
      have hc1 := (hB.cell (p := ⟨b, off + k, none⟩) hbs).trans g0
      clear g0
      have hx2 := hx.out
      rw [hasB_drop _ _ _ hlt] at hx2
      cases hv : l[k] == n
      · have HX := hide (show hasB n (l.drop (k + 1)) = hasB n l by rw [← hx2, hv, Bool.false_or])
        clear hx hx2
        go_wp2
        go_roundw
        case rel => exact ⟨k + 1, by omega, by go_num, HX, hB⟩
        case measure => simp [intOf]; omega
      · have HX := hide (show true = hasB n l by rw [← hx2, hv, Bool.true_or])
        clear hx hx2
        go_wp2
        go_ret
        rw [← HX.out]
        exact ⟨rfl, hB⟩
    · have HX := hide (show false = hasB n l by have := hx.out; rw [List.drop_of_length_le (by omega)] at this; simpa [hasB] using this)
      clear hx
      go_wp2
      go_ret
      rw [← HX.out]
      exact ⟨rfl, hB⟩
end Go.Proofs.Ythplndalbfcbbaa
set_option linter.unusedSimpArgs false
set_option linter.unusedVariables false
namespace Go.Proofs.Ythplndalbfcbbaa
open Go.RowKit
def idxI (n : Int) : List Int → Int → Int
  | [], _ => -1
  | x :: l, k => if n = x then k else idxI n l (k + 1)
theorem idxI_has (n : Int) : ∀ (l : List Int) (k : Int), 0 ≤ k → (decide (0 ≤ idxI n l k) = hasB n l ∧ -1 ≤ idxI n l k)
  | [], k, _ => by simp [idxI, hasB]
  | x :: l, k, h => by
    have ih := idxI_has n l (k + 1) (by omega)
    simp only [idxI, hasB, List.any_cons]
    split
    · rename_i hx; subst hx; simp; omega
    · rename_i hx
      have : (x == n) = false := by simp; omega
      rw [this, Bool.false_or]
      exact ih
theorem idxI_drop (n : Int) (l : List Int) (k : Nat) (h : k < l.length) : idxI n (l.drop k) k = if n = l[k] then (k : Int) else idxI n (l.drop (k + 1)) ((k + 1 : Nat) : Int) := by
  rw [List.drop_eq_getElem_cons h, idxI]; rfl
set_option maxHeartbeats 1000000 in
theorem index_calls (n : Int) (l : List Int) (A : Nat → Prop) (s : Value) (w : World) (hs : Ints A w s l) :
    Calls Try.prog 140 #[s, .int .i64 n] w fun e w' => e = .returned (.int .i64 (idxI n l 0)) ∧ Below w.heap.size w w' := by
  obtain ⟨a, c, rfl, hlc, hc⟩ := hs.shape
  have hl : l.length ≤ 9223372036854775807 := by omega
  have HG := hide (show idxI n (l.drop 0) ((0 : Nat) : Int) = idxI n l 0 by simp)
  go_enter Try.func140, Try.ntmps140
  go_wp2
  go_loopw [8] (fun i wr => ∃ (k : Nat), k ≤ l.length ∧ i = .int .i64 k ∧ Hid (idxI n (l.drop k) k = idxI n l 0) ∧ Below w.heap.size w wr) (fun i _ => l.length - (intOf i).toNat)
  case atStart => exact ⟨0, by omega, rfl, HG, Below.refl _ _⟩
  case round =>
    obtain ⟨k, hk, rfl, hx, hB⟩ := hrel
    by_cases hlt : k < l.length
    · obtain ⟨b, off, rfl, hbs, hbA, g0⟩ := hs.get k hlt
      have hc1 := (hB.cell (p := ⟨b, off + k, none⟩) hbs).trans g0
      clear g0
      have hx2 := hx.out
      rw [idxI_drop _ _ _ hlt] at hx2
      by_cases hv : n = l[k]
      · have HX := hide (show (k : Int) = idxI n l 0 by rw [← hx2, if_pos hv])
        have hv' : (n == l[k]) = true := by simpa using hv
        clear hx hx2 hv
        go_wp2
        go_ret
        rw [← HX.out]
        exact ⟨rfl, hB⟩
      · have HX := hide (show idxI n (l.drop (k + 1)) ((k + 1 : Nat) : Int) = idxI n l 0 by rw [← hx2, if_neg hv])
        have hv' : (n == l[k]) = false := by simpa using hv
        clear hx hx2 hv
        go_wp2
        go_roundw
        case rel => exact ⟨k + 1, by omega, by go_num, HX, hB⟩
        case measure => simp [intOf]; omega
    · have HX := hide (show -1 = idxI n l 0 by have := hx.out; rw [List.drop_of_length_le (by omega)] at this; simpa [idxI] using this)
      clear hx
      go_wp2
      go_ret
      rw [← HX.out]
      exact ⟨rfl, hB⟩
theorem contains_calls (n : Int) (l : List Int) (A : Nat → Prop) (s : Value) (w : World) (hs : Ints A w s l) :
    Calls Try.prog 95 #[s, .int .i64 n] w fun e w' => e = .returned (.bool (hasB n l)) ∧ Below w.heap.size w w' := by
  obtain ⟨a, c, rfl, hlc, hc⟩ := hs.shape
  have h9 := idxI_has n l 0 (by omega)
  go_enter Try.func95, Try.ntmps95
  go_wp2_with fail
  refine (index_calls n l A _ _ hs).mono ?_
  rintro e w1 ⟨rfl, h1⟩
  generalize idxI n l 0 = x at *
  have HX := hide h9
  clear h9
  by_cases h0 : 0 ≤ x
  · have HY := hide (show true = hasB n l by rw [← HX.out.1]; simp [h0])
    go_wp2
    go_ret
    rw [← HY.out]
    first | exact ⟨rfl, h1⟩ | exact ⟨by simp [h0], h1⟩
  · have HY := hide (show false = hasB n l by rw [← HX.out.1]; simp [h0])
    go_wp2
    go_ret
    rw [← HY.out]
    first | exact ⟨rfl, h1⟩ | exact ⟨by simp [h0], h1⟩
end Go.Proofs.Ythplndalbfcbbaa
set_option linter.unusedSimpArgs false
set_option linter.unusedVariables false
namespace Go.Proofs.Ythplndalbfcbbaa
open Go.RowKit Go.Shelf
attribute [local go_sem] Oper.semAt_some
theorem flat_ints : ∀ l : List Int, (l.map fun n => [Value.int .i64 n]).flatten = l.map (Value.int .i64)
  | [] => rfl
  | x :: l => by rw [List.map_cons, List.flatten_cons, flat_ints l, List.map_cons]; rfl
theorem Ints.of_own {A : Nat → Prop} {w : World} {base e : Nat} {v : Value} {l : List Int} (h : w.ownsRow base e 1 v l.length (l.map (Value.int .i64))) (hA : ∀ b, v.ownBlock = some b → ¬ A b) : Ints A w v l := by
  simp only [Ints, RepD]
  rcases h.2 with ⟨hv, h0⟩ | ⟨g, cap, cur, hv, hg, hh, hn, hm, hs, ht⟩
  · exact ⟨none, 0, 0, by rw [hv], by simp [h0], by omega, by omega, by omega⟩
  · refine ⟨_, _, _, by rw [hv], by simp, hn, Nat.le_trans hn (by simpa [maxLen] using hm), fun h0 => ⟨g, 0, rfl, (Array.getElem?_eq_some_iff.1 hh).1, hA g (by rw [hv]; rfl), ?_⟩⟩
    have hfl := flat_ints l
    refine RepR.of (l.map fun n => [Value.int .i64 n]) _ 0 (by simp) (fun j hj => ?_) ?_
    · rw [hfl] at hj ⊢
      have := h.cells (g := g) (by rw [hv]; rfl) j ((l.map (Value.int .i64))[j]) (by simp)
      rw [add_plain] at this
      rw [Nat.zero_add, this, List.getElem?_eq_getElem hj]
    · clear hfl h hv hh hn hm hs ht h0 hA
      induction l with
      | nil => exact .nil
      | cons x l ih => exact .cons (by simp [intD, RepD]) ih
structure VarsInv (n0 : Nat) (W : World) (O : Nat → Prop) (l : List Int) (v : Value) (Wx : World) : Prop where
  box : Wx.heap[n0 + 1]? = some (.cells #[v] 37 (0, 0))
  row : Wx.ownsRow W.heap.size 3 1 v l.length (l.map (Value.int .i64))
  ne : ∀ b, v.ownBlock = some b → ¬ O b
  kp : Keep (fun b => b < W.heap.size ∧ b ≠ n0 + 1) W Wx
def VarsI (n0 : Nat) (W : World) (O : Nat → Prop) (pre : List Raw) (Wx : World) : Prop := ∃ v, VarsInv n0 W O (varsH (pre.map fun r => r.2.1)) v Wx
theorem varsI_framed (n0 : Nat) (W : World) (hn : n0 + 1 < W.heap.size) (pre : List Raw) : Framed W.heap.size fun O Wx => VarsI n0 W O pre Wx := by
  rintro O O' Wx Wx' hO ⟨v, h⟩ hk hO'
  refine ⟨v, hk.obj (fun h => by have := (hO _ h).1; omega) h.box, ownsRow_keep h.row hk (fun b hb => h.ne b hb), fun b hb hb' => ?_, h.kp.trans (hk.mono fun b _ hb h => by have := (hO b h).1; have := hb.1; omega)⟩
  rcases hO' b hb' with h' | h'
  · exact h.ne b hb h'
  · have := (h.row.lt b hb).2; omega
set_option maxHeartbeats 4000000 in
set_option maxRecDepth 100000 in
theorem tvars_calls (t : Tm) (A A2 : Nat → Prop) (h : Int) (s : Value) (w : World) (hA : ∀ b, A b → b < w.heap.size) (hs : IsTm A2 w h s t) (hsz : t.size ≤ 1000000000) (hr : ∀ h, h ∈ t.heads → -256 ≤ h ∧ h ≤ 1023) :
    Calls Try.prog 37 #[.agg #[.int .i64 h, s]] w fun e w' => ∃ v, e = .returned v ∧ Ints A w' v (varsT t) ∧ Below w.heap.size w w' := by
  refine (callsIn_wide (n := 0)).1 ?_
  obtain ⟨rfl, a, c, rfl, hc1, hc2⟩ := hs.shape
  refine callsIn_of_wp_marks Try.func37 rfl trivial ?_ rfl
  simp only [Try.ntmps37, List.size_toArray, List.length_cons, List.length_nil, Nat.reduceAdd, Nat.reduceSub, Array.replicate_succ, Array.replicate_zero, List.push_toArray, List.append_toArray, List.nil_append, List.cons_append]
  gi_wp2_with fail
  refine ⟨trivial, rfl, (callsIn_wide.2 (parts_calls _ _ ⟨_, _, _, rfl⟩ _)).mono ?_⟩
  rintro e W ⟨rfl, hW⟩
  have HW := hide hW
  clear hW
  gi_wp2_with fail
  have hWa : W = allocs w [.cells #[.int .i64 t.h, .slice a t.args.length c] 25, .cells #[.slice none 0 0] 37, .cells #[.int .i64 t.h, .slice a t.args.length c] 25] := HW.out
  clear HW
  have hsW0 : W.heap.size = w.heap.size + 3 := by rw [hWa, allocs_size]; rfl
  have hsW1 : W.heap.size ≤ w.heap.size + 3 := by omega
  have hsW2 : w.heap.size + 3 ≤ W.heap.size := by omega
  clear hsW0
  have hbW : Below w.heap.size w W := by rw [hWa]; exact allocs_below _ _
  have e1 : W.heap[w.heap.size + 1]? = some (.cells #[.slice none 0 0] 37 (0, 0)) := by rw [hWa]; exact allocs_get _ _ 1 _ rfl
  have e2 : W.heap[w.heap.size + 2]? = some (.cells #[.int .i64 t.h, .slice a t.args.length c] 25 (0, 0)) := by rw [hWa]; exact allocs_get _ _ 2 _ rfl
  clear hWa
  have hT : Terms (fun b => w.heap.size ≤ b) W (.slice a t.args.length c) t.args :=
    RepD.frame (fun b hb hlt => hbW.block b hlt) (fun b hb h => by omega) _ _ hs.2
  refine wp_range_out (gf := 138) (lb := #[.pointer (some ⟨w.heap.size + 2, 0, none⟩)]) (xs := rawT W t 1 (t.h, .slice a t.args.length c)) (S := fun b => b < W.heap.size ∧ b ≠ w.heap.size + 1) rfl (enters_of Try.func138 (by kernel_rfl) rfl)
    (parts1_seq W (fun b => w.heap.size ≤ b) _ (w.heap.size + 2) t (t.h, .slice a t.args.length c) ⟨by omega, by omega⟩ (fun b hb h => ⟨hb, by omega⟩) (fun b hb => hb.1) (by simp [World.cell?, e2]) (by simp [World.cell?, e2]) rfl hT hsz) (fun x => rfl)
    (VarsI w.heap.size W) (fun _ _ _ _ => False) (varsI_framed _ _ (by omega)) (fun _ _ _ _ _ _ _ h _ _ => h)
    ⟨_, e1, World.ownsRow_nil _ _ _ _, fun b hb => by simp [Value.ownBlock] at hb, Keep.refl _ _⟩ (fun b hb => hb.1)
    (fun O pre x a' Wx => ∃ Bx, Wx.heap[Bx]? = some (.cells #[.int .i64 x.2.1, x.2.2] 25 (0, 0)) ∧ ¬ O Bx ∧ W.heap.size ≤ Bx ∧ Bx < Wx.heap.size ∧ a' = { tmps := #[.agg #[.int .i64 t.h, .slice a t.args.length c], .pointer (some ⟨w.heap.size, 0, none⟩), .slice none 0 0, .pointer (some ⟨w.heap.size + 1, 0, none⟩), undef, .pointer (some ⟨Bx, 0, none⟩), undef, .agg #[.int .i64 t.h, .slice a t.args.length c], .func (.func 138) #[] #[.pointer (some ⟨w.heap.size + 2, 0, none⟩)], .int .i64 x.1, .agg #[.int .i64 x.2.1, x.2.2], undef, undef, undef, undef, undef, undef, undef, undef, undef, undef, undef, undef, undef, undef, undef, undef], defers := [] }) ?hAx ?assign ?body ?done (fun _ _ _ _ _ _ _ _ _ h => h.elim)
  case hAx =>
    rintro O pre x a' Wx Wx' ⟨Bx, h1, h2, h3, h4, h5⟩ hk
    exact ⟨Bx, hk.obj h2 h1, h2, h3, Nat.lt_of_lt_of_le h4 hk.size, h5⟩
  case assign =>
    intro l O pre x Wx K hpx hI hO hK
    obtain ⟨xa, xn, xc, hxe⟩ := raw_mem_shape rfl hT (pre_mem hpx)
    obtain ⟨v, hI⟩ := hI
    have hsz := hI.kp.size
    clear hpx hI
    obtain ⟨xd, xh, xs⟩ := x
    simp only at hxe
    subst hxe
    simp only [encP]
    have HK := hide hK
    clear hK e1 e2
    gi_wp2
    exact HK.out _ _ ((Keep.refl _ _).alloc _) ⟨Wx.heap.size, World.alloc_heap_new _ _, fun h => by have := (hO _ h).2; omega, by omega, by simp, rfl⟩
  case body =>
    rintro l O pre x a' Wx hpx hO hOl hrec hkx ⟨v, hI⟩ ⟨Bx, hBx1, hBx2, hBx3, hBx4, rfl⟩
    obtain ⟨xa, xn, xc, hxe⟩ := raw_mem_shape rfl hT (pre_mem hpx)
    have hlen : pre.length < 1000000000 := by
      have h1 := hpx.length_le
      have h2 := (rawT_pre t 1 (t.h, .slice a t.args.length c) rfl hT).length
      have h3 := preT_length 1 t
      simp at h1; omega
    have hrx : -256 ≤ x.2.1 ∧ x.2.1 ≤ 1023 := by
      refine hr _ ?_
      rw [← raw_heads (r := (t.h, .slice a t.args.length c)) (W := W) (d := 1) rfl hT]
      exact List.mem_map.2 ⟨x, pre_mem hpx, rfl⟩
    have hll : (varsH (pre.map fun r => r.2.1)).length ≤ pre.length := by
      have := foldl_vstep_length (pre.map fun r => r.2.1) []
      simpa [varsH] using this
    have hsn : varsH ((pre ++ [x]).map fun r => r.2.1) = vstep (varsH (pre.map fun r => r.2.1)) x.2.1 := by rw [List.map_append, List.map_cons, List.map_nil, varsH_snoc]
    have HSN := hide hsn
    clear hpx e1 e2 hsn
    obtain ⟨xd, xh, xs⟩ := x
    simp only at hxe hBx1 hrx
    subst hxe
    generalize hL : varsH (pre.map fun r => r.2.1) = L at *
    clear hL
    have hbc := cell_of_one hI.box
    have hbf := free_of_one hI.box
    have c0 : Wx.cell? ⟨Bx, 0, none⟩ = some (.int .i64 xh) := by simp [World.cell?, hBx1]
    have hlt : w.heap.size + 3 ≤ Wx.heap.size := by have := hI.kp.size; omega
    have hw1 : IntKind.i64.wrap (-1 - xh) = -1 - xh := IntWalk.i64_in _ (by omega)
    obtain ⟨va, vc, rfl⟩ : ∃ va vc, v = .slice va L.length vc := by
      rcases hI.row.2 with ⟨h, h'⟩ | ⟨g, cap, cur, h, _⟩
      · exact ⟨none, 0, by rw [h, h']⟩
      · exact ⟨_, _, h⟩
    have hkeep : ∀ W', Below Wx.heap.size Wx W' → vstep L xh = L → ∀ a', postI (fun b => b < W.heap.size ∧ b ≠ w.heap.size + 1) O (VarsI w.heap.size W) (fun _ _ _ _ => False) (pre ++ [(xd, xh, .slice xa xn xc)]) Wx .normal a' W' := fun W' hB hv a' => by
      refine ⟨.of_below hB, .slice va L.length vc, ?_⟩
      rw [HSN.out, hv]
      have hk := Keep.of_below (S := fun _ => True) hB
      exact ⟨hk.obj trivial hI.box, ownsRow_keep hI.row hk (fun _ _ => trivial), hI.ne, hI.kp.trans (hk.mono fun _ _ _ => trivial)⟩
    have HKEEP := hide hkeep
    clear hkeep
    by_cases hneg : xh < 0
    · have hge : 0 ≤ -1 - xh := by omega
      gi_wp2_with fail
      refine ⟨trivial, rfl, (callsIn_wide.2 (contains_calls (-1 - xh) L (fun _ => False) _ _ (Ints.of_own hI.row fun _ _ h => h))).mono ?_⟩
      rintro e W1 ⟨rfl, hB1⟩
      cases hb : hasB (-1 - xh) L
      · have hnm : ¬ (-1 - xh) ∈ L := fun h => by rw [hasB_iff.2 h] at hb; cases hb
        have HV := hide (show vstep L xh = L ++ [-1 - xh] by unfold vstep; rw [if_pos ⟨hneg, hnm⟩])
        clear hb hnm
        have hk1 := Keep.of_below (S := fun _ => True) hB1
        have hbx1 := hk1.obj trivial hI.box
        have hrow1 := ownsRow_keep hI.row hk1 (fun _ _ => trivial)
        have hbc1 := cell_of_one hbx1
        have hbf1 := free_of_one hbx1
        have hbase : W.heap.size ≤ W1.heap.size := by have := hI.kp.size; have := hB1.size; omega
        have hs1 := hB1.size
        have hne := hI.ne
        have hkp := hI.kp
        clear hbc hbf c0 hBx1
        gi_wp2_with (gi_at_builtin; refine app_in rfl _ _ 37 rfl W.heap.size 3 (.int .i64 0) 1 8 Try.underlying37 (by kernel_rfl) rfl (by decide) (by decide) _ _ _ rfl hrow1 1 1 _ rfl (by simp [Value.oneCell']) rfl (by omega) hbase ?_; intro v' w1 r1 r2 r3 r4; obtain ⟨va', vc', rfl⟩ := r4; have hb1 := r2.obj (fun h => by have := (hrow1.lt _ h).1; omega) hbx1; have hc1 := cell_of_one hb1; have hf1 := free_of_one hb1)
        have hfin : postI (fun b => b < W.heap.size ∧ b ≠ w.heap.size + 1) O (VarsI w.heap.size W) (fun _ _ _ _ => False) (pre ++ [(xd, xh, .slice xa xn xc)]) Wx .normal { tmps := #[], defers := [] } (w1.setCell ⟨w.heap.size + 1, 0, none⟩ (.slice va' (L.length + 1) vc')) := by
          have hlv := hrow1.lt
          have hkk : Keep (fun b => b ≠ w.heap.size + 1 ∧ (Value.slice va L.length vc).ownBlock ≠ some b) Wx (w1.setCell ⟨w.heap.size + 1, 0, none⟩ (.slice va' (L.length + 1) vc')) :=
            (((Keep.of_below hB1).trans (r2.mono fun b _ h => h.2)).setCell (fun h => h.1 rfl) _)
          have hown' : ∀ b, (Value.slice va' (L.length + 1) vc').ownBlock = some b → (Value.slice va L.length vc).ownBlock = some b ∨ W1.heap.size < b := r3
          refine ⟨hkk.mono fun b hb h => ⟨?_, ?_⟩, .slice va' (L.length + 1) vc', ?_⟩
          · rcases h with h | h
            · exact h.2
            · have := (hO b h).1; omega
          · rcases h with h | h
            · intro e; have := (hI.row.lt b e).1; omega
            · intro e; exact hne b e h
          · rw [HSN.out, HV.out]
            refine ⟨setCell_box hb1 _, ?_, fun b hb hb' => ?_, ?_⟩
            · have := ownsRow_keep r1 ((Keep.refl (fun b => b ≠ w.heap.size + 1) w1).setCell (p := ⟨w.heap.size + 1, 0, none⟩) (by simp) (.slice va' (L.length + 1) vc')) (fun b hb => by
                rcases hown' b hb with h | h
                · have := (hlv b h).1; omega
                · omega)
              simpa using this
            · rcases hown' b hb with h | h
              · exact hne b h hb'
              · have := (hO b hb').2; omega
            · exact hkp.trans (hkk.mono fun b hb h => ⟨h.2, fun e => by have := (hI.row.lt b e).1; omega⟩)
        exact hfin
      · have HV := hide (show vstep L xh = L by unfold vstep; rw [if_neg (fun h => h.2 (hasB_iff.1 hb))])
        clear hb
        gi_wp2
        exact HKEEP.out _ hB1 HV.out _
    · have HV := hide (show vstep L xh = L by unfold vstep; rw [if_neg (fun h => hneg h.1)])
      have hge : ¬ 0 ≤ -1 - xh := by omega
      gi_wp2
      refine ⟨trivial, ?_⟩
      gi_wp2
      exact HKEEP.out _ (Below.refl _ _) HV.out _
  case done =>
    intro O Wx hO hOw hkx hdef ⟨v, hI⟩
    rw [raw_heads (r := (t.h, .slice a t.args.length c)) rfl hT] at hI
    have k1 := cell_of_one hI.box
    have hB : Below w.heap.size w Wx := hbW.trans (hI.kp.below (fun b hb => ⟨by omega, by omega⟩) (by omega))
    have hszx := hI.kp.size
    obtain ⟨va, vc, rfl⟩ : ∃ va vc, v = .slice va (varsH t.heads).length vc := by
      rcases hI.row.2 with ⟨h, h'⟩ | ⟨g, cap, cur, h, _⟩
      · exact ⟨none, 0, by rw [h, h']⟩
      · exact ⟨_, _, h⟩
    have fin : ∀ (tm : Array Value), tm[2]? = some (.slice va (varsH t.heads).length vc) → LeavesInM Fence.wide 0 Try.prog Try.f37 tm (fun e w' => ∃ v, e = .returned v ∧ Ints A w' v (varsT t) ∧ Below w.heap.size w w') (marks [W.heap.size]) .returning Wx := by
      intro tm h1
      refine leaves_marks [W.heap.size] Wx ⟨by simp, fun D hD => by simp at hD; subst hD; exact hdef⟩ fun W' hk => ⟨_, results_tmp rfl _ _ _, ?_⟩
      refine ⟨.slice va (varsH t.heads).length vc, by simp [h1, Array.getD_eq_getD_getElem?], ?_, hB.trans (hk.below (fun b hb => by simp; omega) (by omega))⟩
      exact Ints.of_own (ownsRow_keep hI.row hk (fun b hb => by simp; exact fun e => hI.ne b hb (e ▸ hOw))) fun b hb h => by have := (hI.row.lt b hb).1; have := hA b h; omega
    have FIN := hide fin
    clear fin e1 e2 hkx
    gi_wp2
    exact FIN.out _ rfl
end Go.Proofs.Ythplndalbfcbbaa
set_option linter.unusedSimpArgs false
set_option linter.unusedVariables false
namespace Go.Proofs.Ythplndalbfcbbaa
open Go.RowKit Go.Maps Go.Sort Go.Shelf
theorem sortsA (m : Nat) : AnyZI.SortsIn Try.prog Try.sortedA_ren Fence.wide m :=
  ⟨fun blk off cap ss W hH hblk hsz => callsIn_wide.2 (Try.slices_Sort_int blk off cap ss W hH hblk hsz),
   fun p cap W => callsIn_wide.2 (Try.slices_Sort_int_none p cap W)⟩
theorem keys_calls (mb : Nat) (w : World) : Calls Try.prog 99 #[.map (some mb)] w fun e w' =>
    e = .returned (.func (.func 144) #[] #[.pointer (some ⟨w.heap.size, 0, none⟩)]) ∧ w' = w.alloc (.cells #[.map (some mb)] 97) :=
  callsIn_wide.1 (AnyZI.keys_in Try.keysA Fence.wide 5 trivial rfl (some mb) w)
theorem sorted_calls (mb : Nat) (f : Int → Option Value) (w : World) (h : MapAt w mb f) (hr : ∀ x v, f x = some v → 0 ≤ x ∧ x ≤ 255) :
    Calls Try.prog 98 #[.func (.func 144) #[] #[.pointer (some ⟨w.heap.size, 0, none⟩)]] (w.alloc (.cells #[.map (some mb)] 97)) fun e w' =>
      ∃ (v : Value) (vs : List Int), e = .returned v ∧ vs.Pairwise (· < ·) ∧ (∀ x, x ∈ vs ↔ ∃ u, f x = some u) ∧ Ints (fun _ => False) w' v vs ∧ Below w.heap.size w w' := by
  obtain ⟨D, hown, hk, hnd⟩ := h.owns (P := Try.prog) (k := 3) Try.underlying3 hr
  have hbl := hown.lt
  have hsz : Maps.size D ≤ 256 := hown.size_le
  refine (callsIn_wide (n := 5)).1 ?_
  have hseq : SeqGives Fence.wide 2 Try.prog 144 #[.pointer (some ⟨w.heap.size, 0, none⟩)] encZ (fun ss => ss.Perm (intKeys D)) (Maps.size D) (w.alloc (.cells #[.map (some mb)] 97)) :=
    AnyZI.keys_gives (ρ := Try.keysA_ren) { Try.keysA with } Fence.wide _ trivial rfl (by omega) w.heap.size mb 256 D _ (by simp) (by simp) (by
      obtain ⟨es, clock, hb, Ft, hs, hD⟩ := hown
      exact ⟨es, clock, (Below.heap_alloc _ _ mb hbl).trans hb, Ft, hs, hD⟩)
  have cS := AnyZI.sorted_in Try.sortedA Fence.wide 5 trivial trivial trivial trivial rfl (by omega) (sortsA _) (enters_of Try.func104 (by kernel_rfl) rfl) 144 #[.pointer (some ⟨w.heap.size, 0, none⟩)] trivial (enters_of Try.func144 (by kernel_rfl) rfl) _ _ (by unfold maxLen; omega) (by omega) _ hseq
  change CallsIn _ _ Try.prog 98 _ _ _ at cS
  refine cS.mono ?_
  rintro e w' ⟨v, ss, rfl, hS, hrow, hnil, hb⟩
  have hle := sortI_sorted ss
  have hn2 : (sortI ss).Nodup := ((List.mergeSort_perm ss _).trans hS).nodup_iff.2 hnd
  have hl : (sortI ss).length = ss.length := sortI_length ss
  refine ⟨v, sortI ss, rfl, ?_, fun x => ?_, ?_, ?_⟩
  · exact (hle.and (List.nodup_iff_pairwise_ne.1 hn2)).imp fun ⟨h1, h2⟩ => by omega
  · rw [sortI_mem, hS.mem_iff, hk]
  · refine Ints.of_own (base := (w.alloc (.cells #[.map (some mb)] 97)).heap.size) (e := 3) ?_ (fun b _ h => h)
    rw [hl]; exact hrow
  · exact ((Below.refl _ w).alloc (Nat.le_refl _) _).trans (hb.mono (by simp))
end Go.Proofs.Ythplndalbfcbbaa
set_option linter.unusedSimpArgs false
set_option linter.unusedVariables false
namespace Go.Proofs.Ythplndalbfcbbaa
open Go.RowKit
def badI : List Tm → Int → Int
  | [], _ => -1
  | t :: ts, k => if chk t = 0 then badI ts (k + 1) else k
theorem badI_drop (l : List Tm) (k : Nat) (h : k < l.length) : badI (l.drop k) k = if chk l[k] = 0 then badI (l.drop (k + 1)) ((k + 1 : Nat) : Int) else (k : Int) := by
  rw [List.drop_eq_getElem_cons h, badI]; rfl
theorem badI_all : ∀ (l : List Tm) (k : Int), 0 ≤ k → (decide (0 ≤ badI l k) = !l.all rightB)
  | [], k, _ => by simp [badI]
  | t :: ts, k, h => by
    have ih := badI_all ts (k + 1) (by omega)
    simp only [badI, List.all_cons]
    split
    · rename_i hc
      rw [show rightB t = true by simp [rightB, hc], Bool.true_and]
      exact ih
    · rename_i hc
      rw [show rightB t = false by simp [rightB, hc]]
      simp [h]
end Go.Proofs.Ythplndalbfcbbaa
set_option linter.unusedSimpArgs false
set_option linter.unusedVariables false
namespace Go.Proofs.Ythplndalbfcbbaa
open Go.RowKit
set_option maxHeartbeats 2000000 in
set_option maxRecDepth 100000 in
theorem grow_calls (n : Nat) (w : World) (hn : n ≤ 1000000) :
    Calls Try.prog 146 #[.slice none 0 0, .int .i64 n] w fun e w' => ∃ v, e = .returned v ∧ w'.ownsRow w.heap.size 60 3 v 0 [] ∧ Below w.heap.size w w' := by
  rcases Nat.eq_zero_or_pos n with rfl | h0
  · go_enter Try.func146, Try.ntmps146
    go_wp2
    go_ret
    exact ⟨_, rfl, World.ownsRow_nil _ _ _ _, Below.refl _ _⟩
  · obtain ⟨i0, hi0, hz⟩ := Option.map_eq_some_iff.1 (show (Try.prog.info? 60).map (fun i => (i.zero, i.size, i.bytes)) = some (some (.agg #[.int .i64 0, .int .i64 0, .slice none 0 0]), 3, 40) by kernel_rfl)
    simp only [Prod.mk.injEq] at hz
    obtain ⟨hz0, hz1, hz2⟩ := hz
    have hold : (Builtin.firstCells i0.size 0 (.slice none 0 0)).run Try.prog w.drew = .ok #[] w.drew := run_firstCells_none w.drew i0.size 0 0 0
    have hrz : ∀ ty, (Builtin.append_ #[22, 3] ty #[.slice none 0 0, .int .i64 n]).run Try.prog w = _ := fun ty =>
      Lib.run_append_grow_zeros w 22 3 ty 60 i0 _ .i64 .i64 Try.underlying22 Try.underlying3 hi0 hz0 none 0 0 [] hold n h0 (by omega) (by omega) (by omega) (by rw [hz2]; omega)
        (by rw [Nat.zero_add]; exact growslice_fits (by omega) (by rw [hz2]; omega))
    simp only [Nat.zero_add] at hrz
    have hGn : n ≤ grownCap w n 0 60 := grownCap_ge w _ _ _
    have hG63 : grownCap w n 0 60 ≤ maxLen := grownCap_le_maxLen w n 0 60 (by unfold maxLen; omega)
    generalize grownCap w n 0 60 = G at *
    have hG' : G ≤ 9223372036854775807 := by unfold maxLen at hG63; omega
    have hn0 : ¬ ((n : Int) < 0) := by omega
    have hn1 : (n : Int) > 0 := by omega
    clear hold
    go_enter Try.func146, Try.ntmps146
    go_wp2_with (at_builtin; refine Lib.wpList_append_run _ rfl _ _ _ _ rfl _ _ rfl rfl _ _ (hrz _) ?_)
    go_ret
    refine ⟨_, rfl, ⟨by simp, .inr ⟨w.heap.size, G, _, rfl, Nat.le_refl _, World.alloc_heap_new w _, Nat.zero_le _, hG63, ?_, by simp⟩⟩, ((Below.refl _ _).alloc (Nat.le_refl _) _).drew⟩
    rw [Array.size_append, size_zeroCells, size_zeroCells]
    simp only [List.size_toArray, List.length_cons, List.length_nil]
    omega
theorem concat_calls (ss us : List Bd) (g : Nat) (sv uv : Value) (w : World) (hl1 : ss.length ≤ 100000) (hl2 : us.length ≤ 100000)
    (c0 : w.cell? ⟨g, 0, none⟩ = some sv) (c1 : w.cell? ⟨g, 1, none⟩ = some uv) (hg : g < w.heap.size) (hs : Binds (fun _ => False) w sv ss) (hu : Binds (fun _ => False) w uv us) :
    Calls Try.prog 103 #[.slice (some ⟨g, 0, none⟩) 2 2] w fun e w' => ∃ v, e = .returned v ∧ Binds (fun _ => False) w' v (ss ++ us) ∧ Below w.heap.size w w' := by
  obtain ⟨a1, d1, rfl, hc1, hc1'⟩ := hs.shape
  obtain ⟨a2, d2, rfl, hc2, hc2'⟩ := hu.shape
  go_enter Try.func103, Try.ntmps103
  go_wp2
  go_loopw [3, 11] (fun q i wr => wr = w ∧ ((i = .int .i64 0 ∧ q = .int .i64 0) ∨ (i = .int .i64 1 ∧ q = .int .i64 ss.length) ∨ (i = .int .i64 2 ∧ q = .int .i64 (ss.length + us.length : Nat)))) (fun _ i _ => 2 - (intOf i).toNat)
  case atStart => exact ⟨rfl, .inl ⟨rfl, rfl⟩⟩
  case round =>
    obtain ⟨hwr, hrel⟩ := hrel
    obtain rfl := hwr.symm
    clear hwr
    obtain ⟨rfl, rfl⟩ | ⟨rfl, rfl⟩ | ⟨rfl, rfl⟩ := hrel
    · go_wp2
      go_roundw
      case rel => exact ⟨trivial, .inr (.inl ⟨rfl, by simp⟩)⟩
      case measure => simp [intOf]
    · have hw1 : IntKind.i64.wrap ((ss.length : Int) + us.length) = ss.length + us.length := IntWalk.i64_in _ (by omega)
      have hn1 : ¬ ((ss.length : Int) + us.length < 0) := by omega
      go_wp2
      go_roundw
      case rel => exact ⟨trivial, .inr (.inr ⟨rfl, by simp⟩)⟩
      case measure => simp [intOf]
    · go_wp2_with fail
      refine (grow_calls (ss.length + us.length) w (by omega)).mono ?_
      rintro e w1 ⟨v0, rfl, o0, h1⟩
      have O0 : OwnD (fun _ => False) w1 w.heap.size 60 3 v0 [] := ⟨[], by simpa using o0, by simp, .nil⟩
      have hsz0 := h1.size
      go_wp2
      go_loopw [6, 27] (fun v i wq => Below w.heap.size w wq ∧ ((i = .int .i64 0 ∧ OwnD (fun _ => False) wq w.heap.size 60 3 v []) ∨ (i = .int .i64 1 ∧ OwnD (fun _ => False) wq w.heap.size 60 3 v (ss.map Bd.d)) ∨ (i = .int .i64 2 ∧ OwnD (fun _ => False) wq w.heap.size 60 3 v (ss.map Bd.d ++ us.map Bd.d)))) (fun _ i _ => 2 - (intOf i).toNat)
      case atStart => exact ⟨h1, .inl ⟨rfl, O0⟩⟩
      case round =>
        obtain ⟨hB, ⟨rfl, O⟩ | ⟨rfl, O⟩ | ⟨rfl, O⟩⟩ := hrel
        · have HO := hide O
          have HX := hide (show RepD (fun b => False ∨ u6.ownBlock = some b) wr (.row 3 (ss.map Bd.d)) [.slice a1 ss.length d1] from RepD.frame (fun b _ hlt => hB.block b hlt) (fun b hb h => by
            rcases h with h | h
            · exact h
            · have := (O.lt b h).1; omega) _ _ hs)
          have e1 := (hB.cell (p := ⟨g, 0, none⟩) hg).trans c0
          have hsz9 := hB.size
          clear O
          go_wp2_with (at_builtin; refine app_all_pl rfl (.tmp 31) (.tmp 32) 22 rfl w.heap.size 60 (.agg #[.int .i64 0, .int .i64 0, .slice none 0 0]) 3 40 Try.underlying22 (by kernel_rfl) rfl (by decide) (v := u6) (xv := .slice a1 ss.length d1) rfl rfl HO.out HX.out (fun d hd => by obtain ⟨z, -, rfl⟩ := List.mem_map.1 hd; exact Bd.oneD z) (by simp [maxLen]; omega) (by simp; omega) hsz9 ?_; intro v' w' o' kp ob hsh)
          go_roundw
          case rel => exact ⟨hB.trans (kp.below (fun b hb h => by have := (HO.out.lt b h).1; omega) hsz9), .inr (.inl ⟨rfl, by simpa using o'⟩)⟩
          case measure => simp [intOf]
        · have HO := hide O
          have HX := hide (show RepD (fun b => False ∨ u6.ownBlock = some b) wr (.row 3 (us.map Bd.d)) [.slice a2 us.length d2] from RepD.frame (fun b _ hlt => hB.block b hlt) (fun b hb h => by
            rcases h with h | h
            · exact h
            · have := (O.lt b h).1; omega) _ _ hu)
          have e1 := (hB.cell (p := ⟨g, 1, none⟩) hg).trans c1
          have hsz9 := hB.size
          clear O
          go_wp2_with (at_builtin; refine app_all_pl rfl (.tmp 31) (.tmp 32) 22 rfl w.heap.size 60 (.agg #[.int .i64 0, .int .i64 0, .slice none 0 0]) 3 40 Try.underlying22 (by kernel_rfl) rfl (by decide) (v := u6) (xv := .slice a2 us.length d2) rfl rfl HO.out HX.out (fun d hd => by obtain ⟨z, -, rfl⟩ := List.mem_map.1 hd; exact Bd.oneD z) (by simp [maxLen]; omega) (by simp; omega) hsz9 ?_; intro v' w' o' kp ob hsh)
          go_roundw
          case rel => exact ⟨hB.trans (kp.below (fun b hb h => by have := (HO.out.lt b h).1; omega) hsz9), .inr (.inr ⟨rfl, o'⟩)⟩
          case measure => simp [intOf]
        · have hR : Binds (fun _ => False) wr u6 (ss ++ us) := by
            have := O.rep (fun _ h => h.elim)
            rw [← List.map_append] at this
            exact this
          obtain ⟨ad, cp, rfl, -, -⟩ := hR.shape
          clear O
          go_wp2
          go_ret
          exact ⟨_, rfl, hR, hB⟩
end Go.Proofs.Ythplndalbfcbbaa
set_option linter.unusedSimpArgs false
set_option linter.unusedVariables false
namespace Go.Proofs.Ythplndalbfcbbaa
open Go.RowKit
theorem Binds.old {w W : World} {s : Value} {bs : List Bd} {n : Nat} (h : Binds (fun _ => False) w s bs) (hn : w.heap.size ≤ n) (hB : Below w.heap.size w W) : Binds (fun b => n ≤ b) W s bs :=
  RepD.frame (fun b _ hlt => hB.block b hlt) (fun b hb h => by omega) _ _ h
theorem Binds.oldA {A : Nat → Prop} {w W : World} {s : Value} {bs : List Bd} {n : Nat} (h : Binds A w s bs) (hn : w.heap.size ≤ n) (hB : Below w.heap.size w W) : Binds (fun b => n ≤ b ∨ A b) W s bs :=
  RepD.frame (fun b _ hlt => hB.block b hlt) (fun b hb h => h.elim (fun h => by omega) id) _ _ h
theorem thenE_append (s u : List Bd) : ∀ a b : List Int, thenE s u (a ++ b) = if thenE s u a = 0 then thenE s u b else thenE s u a
  | [], b => by simp [thenE]
  | v :: a, b => by
    simp only [List.cons_append, thenE, thenE_append s u a b]
    split <;> simp_all
theorem thenE_snoc {s u : List Bd} {vs : List Int} {k : Nat} (h : k < vs.length) (h0 : thenE s u (vs.take k) = 0) : thenE s u (vs.take (k + 1)) = chk (bothT s u vs[k]) := by
  rw [List.take_succ_eq_append_getElem h, thenE_append, if_pos h0]
  simp only [thenE]
  split <;> simp_all
theorem thenE_stop {s u : List Bd} {vs : List Int} {k : Nat} (h : k < vs.length) (h0 : thenE s u (vs.take k) = 0) (hc : chk (bothT s u vs[k]) ≠ 0) : thenE s u vs = chk (bothT s u vs[k]) := by
  have h1 := thenE_snoc h h0
  have h3 := thenE_append s u (vs.take (k + 1)) (vs.drop (k + 1))
  rw [List.take_append_drop, h1, if_neg hc] at h3
  exact h3
theorem bothL_snoc {s u : List Bd} {vs : List Int} {k : Nat} (h : k < vs.length) : bothL s u (vs.take (k + 1)) = bothL s u (vs.take k) ++ if movesB s u vs[k] = true then [⟨vs[k], bothT s u vs[k]⟩] else [] := by
  rw [List.take_succ_eq_append_getElem h, bothL, List.filter_append, List.map_append, ← bothL]
  congr 1
  by_cases hm : movesB s u vs[k] = true
  · rw [if_pos hm]; simp [hm]
  · rw [if_neg hm]; simp [hm]
theorem bothL_length (s u : List Bd) (vs : List Int) : (bothL s u vs).length ≤ vs.length := by
  rw [bothL, List.length_map]; exact List.length_filter_le _ _
theorem right_range : ∀ (bs : List Bd) (x : Int), -1 ≤ x → okBs x bs = true → ∀ b, b ∈ bs → 0 ≤ b.v ∧ b.v ≤ 255
  | [], _, _, _, b, hb => by simp at hb
  | c :: bs, x, hx, h, b, hb => by
    simp only [okBs, Bool.and_eq_true, decide_eq_true_eq] at h
    rcases List.mem_cons.1 hb with rfl | hb
    · omega
    · exact right_range bs c.v (by omega) h.2 b hb
theorem ofT_var (bs : List Bd) (v : Int) : ofT bs (.node (-1 - v) []) = ofBs v bs := by
  rw [ofT, ← firstB_of]
  simp only [Tm.h]
  rw [show -1 - (-1 - v) = v by omega]
theorem binds1 {A : Nat → Prop} {W : World} {b : Nat} {T : TypeId} {s1 : Value} {b1 : Bd} (hb : W.heap[b]? = some (.cells #[.int .i64 b1.v, .int .i64 b1.t.h, s1] T (0, 0))) (hA : ¬ A b) (h1 : Terms A W s1 b1.t.args) : Binds A W (.slice (some ⟨b, 0, none⟩) 1 1) [b1] := by
  simp only [Binds, RepD]
  refine ⟨_, _, _, rfl, by simp, Nat.le_refl _, by omega, fun _ => ⟨b, 0, rfl, (Array.getElem?_eq_some_iff.1 hb).1, hA, ?_⟩⟩
  refine RepR.of [[.int .i64 b1.v, .int .i64 b1.t.h, s1]] _ 0 (by simp) (fun j hj => ?_) (.cons (repBd.2 ⟨s1, rfl, h1⟩) .nil)
  rw [Nat.zero_add]; simp only [World.cell?, hb]; simp
def varsL (ss us : List Bd) : List Int := Lib.compact (sortI ((ss ++ us).map Bd.v))
theorem varsL_ok {ss us : List Bd} (hs : rightBs ss = true) (hu : rightBs us = true) : thenP ss us (varsL ss us) = thenP ss us (upto 256) ∧ ∀ v, v ∈ varsL ss us → 0 ≤ v ∧ v ≤ 255 := by
  have hc := compact_sorted (sortI_sorted ((ss ++ us).map Bd.v))
  have hm : ∀ v, v ∈ varsL ss us ↔ v ∈ (ss ++ us).map Bd.v := fun v => (hc.2 v).trans (sortI_mem _ v)
  have hr : ∀ v, v ∈ varsL ss us → 0 ≤ v ∧ v ≤ 255 := fun v hv => by
    obtain ⟨b, hb, rfl⟩ := List.mem_map.1 ((hm v).1 hv)
    rcases List.mem_append.1 hb with h | h
    · exact right_range ss (-1) (by omega) hs b h
    · exact right_range us (-1) (by omega) hu b h
  exact ⟨thenP_vars hs hu hc.1 hr fun v hv => (hm v).2 hv, hr⟩
theorem varsL_length (ss us : List Bd) : (varsL ss us).length ≤ ss.length + us.length := by
  have h1 := compact_length (sortI ((ss ++ us).map Bd.v))
  rw [sortI_length, List.length_map, List.length_append] at h1
  exact h1
set_option maxHeartbeats 8000000 in
set_option maxRecDepth 100000 in
theorem subthen_callsA (A : Nat → Prop) (ss us : List Bd) (m : Nat) (sb ub : Value) (w : World) (hr1 : ∀ b, b ∈ ss → -9223372036854775808 ≤ b.v ∧ b.v ≤ 9223372036854775807) (hr2 : ∀ b, b ∈ us → -9223372036854775808 ≤ b.v ∧ b.v ≤ 9223372036854775807)
    (hm : 1 ≤ m) (hm2 : m * m ≤ 1000000000) (hm9 : m ≤ 1000000000) (hb1 : ∀ b, b ∈ ss → b.t.size ≤ m) (hb2 : ∀ b, b ∈ us → b.t.size ≤ m) (hl1 : ss.length ≤ 1000) (hl2 : us.length ≤ 1000) (hA : ∀ b, A b → b < w.heap.size) (hsb : Binds A w sb ss) (hub : Binds A w ub us) :
    Calls Try.prog 47 #[sb, ub] w fun e w' => ∃ v, e = .returned (.tuple #[v, .int .i64 (thenT ss us).2]) ∧ Binds A w' v (thenT ss us).1 ∧ Below w.heap.size w w' := by
  obtain ⟨a1, d1, rfl, hc1, hc1'⟩ := hsb.shape
  obtain ⟨a2, d2, rfl, hc2, hc2'⟩ := hub.shape
  go_enter Try.func47, Try.ntmps47
  have HAO := hide hA
  have HSF := hide (RepD.bar (B := fun _ => False) hsb fun _ _ h => h.elim)
  have HUF := hide (RepD.bar (B := fun _ => False) hub fun _ _ h => h.elim)
  clear hA
  have HB1 := hide (fun b hb => Nat.le_trans (hb1 b hb) hm9)
  have HB2 := hide (fun b hb => Nat.le_trans (hb2 b hb) hm9)
  have HC1 := hide hb1
  have HC2 := hide hb2
  have HR1 := hide hr1
  have HR2 := hide hr2
  clear hb1 hb2 hr1 hr2
  have nilB : ∀ W, Binds A W (.slice none 0 0) [] := fun W => by simp only [Binds, RepD, List.map_nil]; exact ⟨none, 0, 0, rfl, rfl, by omega, by omega, by simp⟩
  have NILB := hide nilB
  clear nilB
  go_wp2_with fail
  refine (subcheck_calls ss A _ _ HB1.out hsb).mono ?_
  rintro e w1 ⟨rfl, B1⟩
  have HCK1 := hide (show check3 ss = if rightBs ss then 0 else 1 from rfl)
  cases hrs : rightBs ss
  · have e1 := HCK1.out
    rw [hrs] at e1
    simp only [Bool.false_eq_true, if_false] at e1
    rw [e1]
    have HT := hide (show thenT ss us = ([], 1) by rw [thenT, if_neg]; simp [hrs])
    clear hrs e1 HCK1
    go_wp2
    exact bodyPost_ret (v := .tuple #[.slice none 0 0, .int .i64 1]) (by simp [results, Try.results47, go_sem]) rfl ⟨_, by rw [HT.out], by rw [HT.out]; exact NILB.out _, B1⟩
  have e1 := HCK1.out
  rw [hrs] at e1
  simp only [if_true] at e1
  rw [e1]
  have HRS := hide hrs
  clear hrs e1 HCK1
  go_wp2_with fail
  refine (subcheck_calls us A _ _ HB2.out (hub.below B1)).mono ?_
  rintro e w2 ⟨rfl, h2⟩
  have B2 := more_below B1 h2
  clear h2 B1
  have HCK2 := hide (show check3 us = if rightBs us then 0 else 1 from rfl)
  cases hru : rightBs us
  · have e1 := HCK2.out
    rw [hru] at e1
    simp only [Bool.false_eq_true, if_false] at e1
    rw [e1]
    have HT := hide (show thenT ss us = ([], 1) by rw [thenT, if_neg]; simp [hru])
    clear hru e1 HCK2
    go_wp2
    exact bodyPost_ret (v := .tuple #[.slice none 0 0, .int .i64 1]) (by simp [results, Try.results47, go_sem]) rfl ⟨_, by rw [HT.out], by rw [HT.out]; exact NILB.out _, B2⟩
  have e1 := HCK2.out
  rw [hru] at e1
  simp only [if_true] at e1
  rw [e1]
  have HRU := hide hru
  have HT := hide (show thenT ss us = thenP ss us (varsL ss us) by rw [thenT, if_pos ⟨HRS.out, hru⟩, (varsL_ok HRS.out hru).1])
  have HVR := hide (varsL_ok HRS.out hru).2
  have HVL := hide (varsL_length ss us)
  clear hru e1 HCK2
  go_wp2_with fail
  have hal : Below w2.heap.size w2 (w2.alloc (.cells #[.slice a1 ss.length d1, .slice a2 us.length d2] 22)) := (Below.refl _ _).alloc (Nat.le_refl _) _
  have kg : (w2.alloc (.cells #[.slice a1 ss.length d1, .slice a2 us.length d2] 22)).heap[w2.heap.size]? = some (.cells #[.slice a1 ss.length d1, .slice a2 us.length d2] 22 (0, 0)) := World.alloc_heap_new _ _
  have Bg := more_below B2 hal
  obtain ⟨Lg, z0, z1, -, -⟩ := box2 kg
  refine (concat_calls ss us w2.heap.size _ _ _ (by omega) (by omega) z0 z1 Lg (Binds.below HSF.out Bg) (Binds.below HUF.out Bg)).mono ?_
  rintro e w3 ⟨vc, rfl, hcc, h3⟩
  have B3 := more_below Bg h3
  clear hal kg Bg Lg z0 z1 h3 B2
  obtain ⟨ac, cc, rfl, hcl, hcl'⟩ := hcc.shape
  generalize hAll : ss ++ us = all at *
  have hal9 : all.length ≤ 2000 := by rw [← hAll, List.length_append]; omega
  have HVD := hide (show varsL ss us = Lib.compact (sortI (all.map Bd.v)) by rw [varsL, hAll])
  clear hAll
  go_wp2
  go_loopw [6, 29] (fun v i wr => ∃ k : Nat, k ≤ all.length ∧ i = .int .i64 k ∧ Below w3.heap.size w3 wr ∧ wr.ownsRow w3.heap.size 3 1 v k (((all.take k).map Bd.v).map (Value.int .i64))) (fun _ i _ => all.length - (intOf i).toNat)
  case atStart => exact ⟨0, by omega, rfl, Below.refl _ _, World.ownsRow_nil _ _ _ _⟩
  case round =>
    obtain ⟨k, hk, rfl, hB, hO⟩ := hrel
    by_cases hlt : k < all.length
    · obtain ⟨b, off, a', c', rfl, hbs, hbA, g0, g1, g2, g3⟩ := hcc.get k hlt
      have q1 := (hB.cell (p := ⟨b, off + k * 3, none⟩) hbs).trans g0
      have q2 := (hB.cell (p := ⟨b, off + k * 3 + 1, none⟩) hbs).trans g1
      have q3 := (hB.cell (p := ⟨b, off + k * 3 + 2, none⟩) hbs).trans g2
      have hsz := hB.size
      have HO := hide hO
      have HTK := hide (show ((all.take (k + 1)).map Bd.v).map (Value.int .i64) = ((all.take k).map Bd.v).map (Value.int .i64) ++ [.int .i64 all[k].v] by rw [List.take_succ_eq_append_getElem hlt, List.map_append, List.map_append]; rfl)
      clear g0 g1 g2 hO
      have hal : Below w3.heap.size w3 (wr.alloc (.cells #[.int .i64 all[k].v, .int .i64 all[k].t.h, .slice a' all[k].t.args.length c'] 60)) := hB.alloc hB.size _
      have hO2 := HO.out.alloc (.cells #[.int .i64 all[k].v, .int .i64 all[k].t.h, .slice a' all[k].t.args.length c'] 60)
      have HO2 := hide hO2
      have hbase9 : w3.heap.size ≤ (wr.alloc (.cells #[.int .i64 all[k].v, .int .i64 all[k].t.h, .slice a' all[k].t.args.length c'] 60)).heap.size := by rw [World.size_alloc]; omega
      have HBS := hide hbase9
      have hk9 : (k + 1) * 8 ≤ 140737488355328 := by omega
      clear hO2 hbase9
      go_wp2_with (at_builtin; refine app_pl rfl _ _ 37 rfl w3.heap.size 3 (.int .i64 0) 1 8 Try.underlying37 (by kernel_rfl) rfl (by decide) (by decide) u6 k _ rfl HO2.out 1 1 _ rfl (by simp [Value.oneCell']) (by rw [World.size_alloc]; rfl) hk9 HBS.out ?_; intro v' w9 r1 r2 r3 r4)
      have hob := HO2.out.lt
      obtain ⟨va, vc, rfl⟩ := r4
      go_roundw
      case rel =>
        refine ⟨k + 1, by omega, by go_num, (hal.trans ((r2.below (fun b hb h => by have := hob b h; omega) HBS.out))), ?_⟩
        rw [HTK.out]; exact r1
      case measure => simp [intOf]; omega
    · obtain rfl : k = all.length := by omega
      rw [List.take_length] at hO
      have Bw := more_below B3 hB
      have hl9 : (all.map Bd.v).length = all.length := List.length_map ..
      have hO' : wr.ownsRow w3.heap.size 3 1 u6 (all.map Bd.v).length ((all.map Bd.v).map (Value.int .i64)) := by rw [hl9]; exact hO
      have HO := hide hO'
      have hl10 : (all.map Bd.v).length ≤ 1000000 := by omega
      have hll : (sortI (all.map Bd.v)).length = (all.map Bd.v).length := sortI_length _
      clear hO hO' hlt hk hcc
      generalize hVS : all.map Bd.v = vs0 at *
      have HVD' := hide (show varsL ss us = Lib.compact (sortI vs0) by rw [HVD.out])
      clear hVS HVD
      have hw3 : w.heap.size ≤ w3.heap.size := B3.size
      go_wp2_with fail
      refine (sort_own vs0 w3.heap.size 3 u6 wr hl10 HO.out).mono ?_
      rintro en w5 ⟨rfl, row5, kp5⟩
      have hlt5 := HO.out.lt
      have k5 : Below w3.heap.size wr w5 := kp5.below (fun b hb h => by have := hlt5 b h; omega) hB.size
      have B5 : Below w.heap.size w w5 := Bw.trans (k5.mono hw3)
      have hw5 : w3.heap.size ≤ w5.heap.size := Nat.le_trans hB.size k5.size
      have hss := hsb.oldA hw3 B5
      clear kp5 HO hlt5
      go_wp2_with fail
      refine (open_calls ss (fun b => w3.heap.size ≤ b ∨ A b) _ w5 HR1.out hss).mono ?_
      rintro e w6 ⟨rfl, mb1, h6⟩
      have B6 := more_below B5 h6
      have row6 := ownsRow_keep row5 (Keep.of_below (S := fun _ => True) h6) (fun _ _ => trivial)
      have hw6 : w3.heap.size ≤ w6.heap.size := Nat.le_trans hw5 h6.size
      have huu := hub.oldA hw3 B6
      go_wp2_with fail
      refine (open_calls us (fun b => w3.heap.size ≤ b ∨ A b) _ w6 HR2.out huu).mono ?_
      rintro e w7 ⟨rfl, mb2, h7⟩
      have B7 := more_below B6 h7
      have row7 := ownsRow_keep row6 (Keep.of_below (S := fun _ => True) h7) (fun _ _ => trivial)
      have mb1' := mb1.below h7
      have HL5 := hide row5.lt
      have h6s := h6.size
      have h7s := h7.size
      have row7' : w7.ownsRow w3.heap.size 3 1 u6 (sortI vs0).length ((sortI vs0).map (Value.int .i64)) := by rw [hll]; exact row7
      have HR7 := hide row7'
      have hl11 : (sortI vs0).length ≤ 1000000 := by omega
      clear row5 row6 row7 row7' mb1 hss huu h6 h7 B5 B6 k5
      go_wp2_with fail
      refine (compact_own (sortI vs0) w3.heap.size 3 u6 w7 hl11 HR7.out).mono ?_
      rintro en w8 ⟨vv, rfl, iv, kp8⟩
      have B8 : Below w.heap.size w w8 := B7.trans (kp8.below (fun b hb h => by have := HL5.out b h; omega) (by omega))
      have M1 := (mb1'.keep kp8 (fun h => by have := HL5.out _ h; omega) (fun c _ hc h => hc (.inl (HL5.out c h).1))).bar (B := A) (fun _ _ h => .inr h)
      have M2 := (mb2.keep kp8 (fun h => by have := HL5.out _ h; omega) (fun c _ hc h => hc (.inl (HL5.out c h).1))).bar (B := A) (fun _ _ h => .inr h)
      rw [← HVD'.out] at iv
      generalize hvs : varsL ss us = vs at *
      have hvl : vs.length ≤ 2000 := by have := HVL.out; omega
      obtain ⟨av, cv, rfl, hvc, hvc'⟩ := iv.shape
      clear hvs HVD' kp8 mb1' mb2 HR7 HL5 B7 hll
      go_wp2
      go_loopw [11, 48] (fun v i wr => ∃ k : Nat, k ≤ vs.length ∧ i = .int .i64 k ∧ Below w8.heap.size w8 wr ∧ OwnD A wr w8.heap.size 60 3 v ((bothL ss us (vs.take k)).map Bd.d) ∧ Hid (thenE ss us (vs.take k) = 0)) (fun _ i _ => vs.length - (intOf i).toNat)
      case atStart => exact ⟨0, by omega, rfl, Below.refl _ _, by simpa [bothL] using OwnD.nil _ _ _ _ _, hide rfl⟩
      case round =>
        obtain ⟨k, hk, rfl, hB, hO, hE⟩ := hrel
        by_cases hlt : k < vs.length
        · obtain ⟨b, off, rfl, hbs, -, g0⟩ := iv.get k hlt
          have hv := HVR.out vs[k] (List.getElem_mem hlt)
          have q1 := (hB.cell (p := ⟨b, off + k, none⟩) hbs).trans g0
          have hw1 : IntKind.i64.wrap (-1 - vs[k]) = -1 - vs[k] := IntWalk.i64_in _ (by omega)
          have HO := hide hO
          have HSTOP := hide (thenE_stop (s := ss) (u := us) hlt hE.out)
          have HSN := hide (thenE_snoc (s := ss) (u := us) hlt hE.out)
          have HBS := hide (bothL_snoc (s := ss) (u := us) hlt)
          have HMV := hide (show movesB ss us vs[k] = ((bothT ss us vs[k]).h != -1 - vs[k]) from rfl)
          have HXG := hide (ofBs_good HRS.out hv.1 hv.2)
          have HXS := hide (ofBs_size vs[k] hm ss HC1.out)
          have HBT := hide (show bothT ss us vs[k] = putT us (ofBs vs[k] ss) from rfl)
          clear g0 hO
          go_wp2_with fail
          have hol := HO.out.lt
          have MA1 := (M1.bar (B := fun b => A b ∨ u11.ownBlock = some b) (fun c hc h => by rcases h with h | h; (exact h); (have := (hol c h).1; omega))).below hB
          have MA2 := (M2.bar (B := fun b => A b ∨ u11.ownBlock = some b) (fun c hc h => by rcases h with h | h; (exact h); (have := (hol c h).1; omega))).below hB
          have ht := tabof_calls ss (.node (-1 - vs[k]) []) w5.heap.size (fun b => A b ∨ u11.ownBlock = some b) (-1 - vs[k]) (.slice none 0 0) wr (by simp only [Tm.h]; omega) (by simp only [Tm.h]; omega) MA1 ⟨rfl, Terms.nil _ _⟩
          rw [ofT_var] at ht
          refine ht.mono ?_
          rintro e w9 ⟨s9, rfl, t9, h9⟩
          clear ht
          generalize hx : ofBs vs[k] ss = x at *
          have HX := hide hx
          clear hx
          obtain ⟨a9, c9, rfl, -, -⟩ := t9.shape
          have B9 := hB.trans (h9.mono hB.size)
          go_wp2_with fail
          have hrb := rebuild_calls (serves_table w6.heap.size us) _ x (fun b => A b ∨ u11.ownBlock = some b) x.h (.slice a9 x.args.length c9) w9 (Nat.le_refl _) (fun b h => by rcases h with h | h; (have := HAO.out b h; have := B8.size; have := B9.size; omega); (exact Nat.lt_of_lt_of_le (hol b h).2 h9.size)) HXG.out (MA2.below h9) ⟨rfl, t9⟩
          rw [rbT_put us x HXG.out] at hrb
          refine hrb.mono ?_
          rintro e w10 ⟨s10, rfl, t10, h10⟩
          clear hrb
          have hys : (putT us x).size ≤ 1000000000 := Nat.le_trans (putT_size us hm HC2.out x) (Nat.le_trans (Nat.mul_le_mul_right m HXS.out) hm2)
          rw [← HBT.out] at hys t10
          rw [← HBT.out]
          generalize hy : bothT ss us vs[k] = y at *
          have HY := hide hy
          clear hy HBT
          obtain ⟨a10, c10, rfl, -, -⟩ := t10.shape
          have B10 := B9.trans (h10.mono B9.size)
          go_wp2_with fail
          have hen := end_calls y (fun b => A b ∨ u11.ownBlock = some b) y.h (.slice a10 y.args.length c10) w10 hys ⟨rfl, t10⟩
          refine hen.mono ?_
          rintro e w11 ⟨s11, he, t11, h11⟩
          have B11 := B10.trans (h11.mono B10.size)
          have B11w : Below w.heap.size w w11 := more_below B8 B11
          have O11 := ((HO.out.below h9).below h10).below h11
          clear hen h9 h10 h11 t9 t10 hB HO B9 B10 q1 hol MA1 MA2
          by_cases hck : chk y = 0
          · have HEN : endT y = (y, 0) := by rw [endT, if_pos hck]
            rw [HEN] at he t11
            subst he
            simp only at t11
            have HCK := hide hck
            clear hck HEN
            obtain ⟨a11, c11, rfl, -, -⟩ := t11.shape
            have kV : (w11.alloc (.cells #[.int .i64 y.h, .slice a11 y.args.length c11] 25)).heap[w11.heap.size]? = some (.cells #[.int .i64 y.h, .slice a11 y.args.length c11] 25 (0, 0)) := World.alloc_heap_new _ _
            have hal : Below w11.heap.size w11 (w11.alloc (.cells #[.int .i64 y.h, .slice a11 y.args.length c11] 25)) := (Below.refl _ _).alloc (Nat.le_refl _) _
            have hsz11 := B11.size
            have HE2 := hide (show thenE ss us (vs.take (k + 1)) = 0 by rw [HSN.out, HCK.out])
            by_cases hmv : y.h = -1 - vs[k]
            · have HNM := hide (show bothL ss us (vs.take (k + 1)) = bothL ss us (vs.take k) by rw [HBS.out, if_neg (by rw [HMV.out]; simpa using hmv), List.append_nil])
              have l1 : y.h ≤ -1 - vs[k] := by omega
              have l2 : -1 - vs[k] ≤ y.h := by omega
              have O12 := O11.below hal
              have B12 := B11.trans (hal.mono hsz11)
              clear hmv HSN HSTOP HBS HMV
              obtain ⟨-, z0, z1, -, -⟩ := box2 kV
              go_wp2
              go_roundw
              case rel => exact ⟨k + 1, by omega, by go_num, B12, by rw [HNM.out]; exact O12, HE2⟩
              case measure => simp [intOf]; omega
            · have HNM := hide (show bothL ss us (vs.take (k + 1)) = bothL ss us (vs.take k) ++ [⟨vs[k], y⟩] by rw [HBS.out, if_pos (by rw [HMV.out]; simpa using hmv)])
              have hal2 : Below w11.heap.size w11 ((w11.alloc (.cells #[.int .i64 y.h, .slice a11 y.args.length c11] 25)).alloc (.cells #[.int .i64 vs[k], .int .i64 y.h, .slice a11 y.args.length c11] 60)) := hal.alloc hal.size _
              have kb : ((w11.alloc (.cells #[.int .i64 y.h, .slice a11 y.args.length c11] 25)).alloc (.cells #[.int .i64 vs[k], .int .i64 y.h, .slice a11 y.args.length c11] 60)).heap[w11.heap.size + 1]? = some (.cells #[.int .i64 vs[k], .int .i64 y.h, .slice a11 y.args.length c11] 60 (0, 0)) := by
                have h := World.alloc_heap_new (w11.alloc (.cells #[.int .i64 y.h, .slice a11 y.args.length c11] 25)) (.cells #[.int .i64 vs[k], .int .i64 y.h, .slice a11 y.args.length c11] 60)
                rw [World.size_alloc] at h
                exact h
              have O12 := O11.below hal2
              have hlt12 := O11.lt
              have HD := hide (show RepD (fun b => A b ∨ u11.ownBlock = some b) ((w11.alloc (.cells #[.int .i64 y.h, .slice a11 y.args.length c11] 25)).alloc (.cells #[.int .i64 vs[k], .int .i64 y.h, .slice a11 y.args.length c11] 60)) (.row 3 (([⟨vs[k], y⟩] : List Bd).map Bd.d)) [.slice (some ⟨w11.heap.size + 1, 0, none⟩) 1 1] from
                binds1 (b1 := ⟨vs[k], y⟩) kb (fun h => by
                  rcases h with h | h
                  · have := HAO.out _ h; have := B8.size; omega
                  · have := hlt12 _ h; omega) (RepD.frame (fun b _ hlt => hal2.block b hlt) (fun b hb h => h) _ _ t11))
              have HO12 := hide O12
              have B12 := B11.trans (hal2.mono hsz11)
              have hbl := Nat.le_trans (bothL_length ss us (vs.take k)) (by rw [List.length_take]; exact Nat.min_le_left _ _)
              have hbase : w8.heap.size ≤ ((w11.alloc (.cells #[.int .i64 y.h, .slice a11 y.args.length c11] 25)).alloc (.cells #[.int .i64 vs[k], .int .i64 y.h, .slice a11 y.args.length c11] 60)).heap.size := Nat.le_trans hsz11 hal2.size
              have HBASE := hide hbase
              have HB12 := hide B12
              clear HSN HSTOP HBS HMV O12 B12 hbase hal hal2 hlt12 kb
              obtain ⟨-, z0, z1, -, -⟩ := box2 kV
              go_wp2_with (at_builtin; refine app_all_pl rfl (.tmp 72) (.tmp 76) 22 rfl w8.heap.size 60 (.agg #[.int .i64 0, .int .i64 0, .slice none 0 0]) 3 40 Try.underlying22 (by kernel_rfl) rfl (by decide) (v := u11) (xv := .slice (some ⟨w11.heap.size + 1, 0, none⟩) 1 1) rfl rfl HO12.out HD.out (fun d hd => by obtain ⟨z, -, rfl⟩ := List.mem_map.1 hd; exact Bd.oneD z) (by simp [maxLen]; omega) (by simp; omega) HBASE.out ?_; intro v' w' o' kp ob hsh)
              go_roundw
              case rel =>
                refine ⟨k + 1, by omega, by go_num, HB12.out.trans (kp.below (fun b hb h => by have := (HO12.out.lt b h).1; omega) HBASE.out), ?_, HE2⟩
                rw [HNM.out, List.map_append]; exact o'
              case measure => simp [intOf]; omega
          · have HEN : endT y = (.node 0 [], chk y) := by rw [endT, if_neg hck]
            rw [HEN] at he t11
            subst he
            obtain ⟨a11, c11, rfl, -, -⟩ := t11.shape
            have HRES := hide (show thenT ss us = ([], chk y) by rw [HT.out, thenP, HSTOP.out hck, if_neg hck])
            have hne : (chk y != 0) = true := by simpa using hck
            generalize chk y = ey at *
            clear hck HEN HSTOP HSN
            go_wp2
            exact bodyPost_ret (v := .tuple #[.slice none 0 0, .int .i64 ey]) (by simp [results, Try.results47, go_sem]) rfl ⟨_, by rw [HRES.out], by rw [HRES.out]; exact NILB.out _, B11w.alloc B11w.size _⟩
        · obtain rfl : k = vs.length := by omega
          have hE' := hE.out
          rw [List.take_length] at hO hE'
          have HRES := hide (show thenT ss us = (bothL ss us vs, 0) by rw [HT.out, thenP, if_pos hE'])
          have hR : Binds A wr u11 (bothL ss us vs) := hO.rep (fun b h => by have := HAO.out b h; have := B8.size; omega)
          have hBw := more_below B8 hB
          obtain ⟨ar, cr, rfl, -, -⟩ := hR.shape
          clear hE hE' hO hlt hk
          go_wp2
          exact bodyPost_ret (v := .tuple #[.slice ar (bothL ss us vs).length cr, .int .i64 0]) (by simp [results, Try.results47, go_sem]) rfl ⟨_, by rw [HRES.out], by rw [HRES.out]; exact hR, hBw⟩
end Go.Proofs.Ythplndalbfcbbaa
set_option linter.unusedSimpArgs false
set_option linter.unusedVariables false
namespace Go.Proofs.Ythplndalbfcbbaa
open Go.RowKit
section
variable {P : Program} {W : World} {ops : Array Oper} {rest : List Oper} {o : Oper} {a : Act} {Q : Exit → Act → World → Prop} {k e t : TypeId} {b : Nat} {f : Int → Option Value}
theorem MapAt.look1 (h : MapAt W b f) (hk : P.underlying k = some (.int .i64)) (ht : P.underlying t = some (.map k e)) {z : Value} (hz : (zeroValue e).run P W = .ok z W) {x : Int} (h0 : -9223372036854775808 ≤ x) (h1 : x ≤ 9223372036854775807) :
    (Instr.lookup t (.map (some b)) (.int .i64 x) false).run P W = .ok ((f x).getD z) W := by
  obtain ⟨es, clock, hb, hkeys, huniq, hval, hdom, hst⟩ := h
  have K := Maps.int_keyed (P := P) hk
  have hkey := Maps.keyOf_int_mk hk (wf_i64 h0 h1)
  rcases K.find W hkey es.toList (fun e he => by obtain ⟨y, hy, hy0, hy1⟩ := hkeys e he; rw [hy]; exact ⟨_, Maps.keyOf_int_mk hk (wf_i64 hy0 hy1)⟩) with ⟨g1, g2⟩ | ⟨j, e0, g1, g2, g3⟩
  · have hf : f x = none := by
      cases hfx : f x with
      | none => rfl
      | some v => obtain ⟨e, he, hek⟩ := hdom x v hfx; exact absurd hek (g2 e he)
    simp [Instr.lookup, run_underlying ht, MapKept.run_getObj_map hb, K.check W _ hkey, g1, hz, Result.andThen, hf]
  · have hf := hval e0 (List.mem_of_getElem? g2) x g3
    simp [Instr.lookup, run_underlying ht, MapKept.run_getObj_map hb, K.check W _ hkey, g1, Result.andThen, hf]
theorem look1_pl (hg : o.guard = none) (m x : Operand) (t : TypeId) (hop : o.op = .lookup t m x false) (hk : P.underlying k = some (.int .i64)) (ht : P.underlying t = some (.map k e)) {z : Value} (hz : (zeroValue e).run P W = .ok z W)
    (b : Nat) (f : Int → Option Value) (hm : a.eval m = .map (some b)) (h : MapAt W b f) (y : Int) (hx : a.eval x = .int .i64 y) (h0 : -9223372036854775808 ≤ y) (h1 : y ≤ 9223372036854775807)
    (hK : wpList P ops Q rest (a.put o.dst ((f y).getD z)) W) : wpList P ops Q (o :: rest) a W := by
  refine wpList_plain hg fun K' hK' => ?_
  have hrun := h.look1 hk ht hz h0 h1
  unfold Oper.wp
  simp [execOp, hop, hm, hx, hrun, Result.andThen]
  exact hK' _ _ hK
end
theorem Terms.old {A : Nat → Prop} {w W : World} {s : Value} {ts : List Tm} {n : Nat} (h : Terms A w s ts) (hn : w.heap.size ≤ n) (hB : Below w.heap.size w W) : Terms (fun b => n ≤ b ∨ A b) W s ts :=
  RepD.frame (fun b _ hlt => hB.block b hlt) (fun b hb h => h.elim (fun h => by omega) id) _ _ h
end Go.Proofs.Ythplndalbfcbbaa
set_option linter.unusedSimpArgs false
set_option linter.unusedVariables false
namespace Go.Proofs.Ythplndalbfcbbaa
open Go.RowKit
set_option maxHeartbeats 4000000 in
set_option maxRecDepth 100000 in
theorem same3_calls (bs : List Bd) (A A2 : Nat → Prop) (s s2 : Value) (w : World) (hsz : ∀ b, b ∈ bs → b.t.size ≤ 1000000000) (hs : Binds A w s bs) (hs2 : Binds A2 w s2 bs) :
    Calls Try.prog 45 #[s, s2] w fun e w' => e = .returned (.bool true) ∧ Below w.heap.size w w' := by
  obtain ⟨a, c1, rfl, hc1, hc1'⟩ := hs.shape
  obtain ⟨a', c2, rfl, hc2, hc2'⟩ := hs2.shape
  have HSZ := hide hsz
  clear hsz
  have hl : bs.length ≤ 9223372036854775807 := by omega
  go_enter Try.func45, Try.ntmps45
  go_wp2
  go_loopw [5] (fun i wr => ∃ k : Nat, k ≤ bs.length ∧ i = .int .i64 k ∧ Below w.heap.size w wr) (fun i _ => bs.length - (intOf i).toNat)
  case atStart => exact ⟨0, by omega, rfl, Below.refl _ _⟩
  case round =>
    obtain ⟨k, hk, rfl, hB⟩ := hrel
    by_cases hlt : k < bs.length
    · obtain ⟨b1, o1, a1, d1, rfl, p0, p1, p2, pt⟩ := hs.getW hB k hlt
      obtain ⟨b2, o2, a2, d2, rfl, q0, q1, q2, qt⟩ := hs2.getW hB k hlt
      have hb1 : b1 < wr.heap.size := World.block_lt_of_cell? wr _ p0
      have hb2 : b2 < wr.heap.size := World.block_lt_of_cell? wr _ q0
      have hm := HSZ.out bs[k] (List.getElem_mem hlt)
      have hi0 : (k : Int) < bs.length := by omega
      go_wp2
      have hS : ∀ W', Below wr.heap.size wr W' → Below wr.heap.size wr W' ∧ W'.cell? ⟨b1, o1 + k * 3, none⟩ = some (.int .i64 bs[k].v) ∧ W'.cell? ⟨b1, o1 + k * 3 + 1, none⟩ = some (.int .i64 bs[k].t.h) ∧ W'.cell? ⟨b1, o1 + k * 3 + 2, none⟩ = some (.slice a1 bs[k].t.args.length d1) ∧ W'.cell? ⟨b2, o2 + k * 3, none⟩ = some (.int .i64 bs[k].v) ∧ W'.cell? ⟨b2, o2 + k * 3 + 1, none⟩ = some (.int .i64 bs[k].t.h) ∧ W'.cell? ⟨b2, o2 + k * 3 + 2, none⟩ = some (.slice a2 bs[k].t.args.length d2) := fun W' hW =>
        ⟨hW, (hW.cell (p := ⟨b1, o1 + k * 3, none⟩) hb1).trans p0, (hW.cell (p := ⟨b1, o1 + k * 3 + 1, none⟩) hb1).trans p1, (hW.cell (p := ⟨b1, o1 + k * 3 + 2, none⟩) hb1).trans p2, (hW.cell (p := ⟨b2, o2 + k * 3, none⟩) hb2).trans q0, (hW.cell (p := ⟨b2, o2 + k * 3 + 1, none⟩) hb2).trans q1, (hW.cell (p := ⟨b2, o2 + k * 3 + 2, none⟩) hb2).trans q2⟩
      refine cut_cap (fun a0 a' w' => ∃ x17 x18 x19 x20 x21 x22 x23 x24 x25 x26 x27 x28 x29 x30 x31 x32 x33 x34 x35 x36 x37 x38 x39 x40, a' = ((((((((((((((((((((((((a0.put (some 17) x17).put (some 18) x18).put (some 19) x19).put (some 20) x20).put (some 21) x21).put (some 22) x22).put (some 23) x23).put (some 24) x24).put (some 25) x25).put (some 26) x26).put (some 27) x27).put (some 28) x28).put (some 29) x29).put (some 30) x30).put (some 31) x31).put (some 32) x32).put (some 33) x33).put (some 34) x34).put (some 35) x35).put (some 36) x36).put (some 37) x37).put (some 38) x38).put (some 39) x39).put (some 40) x40).put (some 41) (.bool false) ∧ Below wr.heap.size wr w') ?_ ?_
      · refine drawn_two (fun W' => Below wr.heap.size wr W' ∧ W'.cell? ⟨b1, o1 + k * 3, none⟩ = some (.int .i64 bs[k].v) ∧ W'.cell? ⟨b1, o1 + k * 3 + 1, none⟩ = some (.int .i64 bs[k].t.h) ∧ W'.cell? ⟨b1, o1 + k * 3 + 2, none⟩ = some (.slice a1 bs[k].t.args.length d1) ∧ W'.cell? ⟨b2, o2 + k * 3, none⟩ = some (.int .i64 bs[k].v) ∧ W'.cell? ⟨b2, o2 + k * 3 + 1, none⟩ = some (.int .i64 bs[k].t.h) ∧ W'.cell? ⟨b2, o2 + k * 3 + 2, none⟩ = some (.slice a2 bs[k].t.args.length d2)) [.take 0, .take 1, .take 2, .take 3, .take 4, .take 5, .take 6, .take 7, .take 8, .take 9, .take 10, .take 11, .take 12, .take 13, .take 14, .take 15, .take 16, .take 17, .take 18, .take 19, .take 20, .take 21, .one 22, .take 23, .take 24] (by kernel_rfl) (by kernel_rfl) (by kernel_rfl) (by kernel_rfl) (fun _ _ _ _ _ h => h) (hS _ (Below.refl _ _).drew) ?_
        clear p0 p1 p2 q0 q1 q2
        iterate 22 (refine p_take (v := ?_) rfl (by rfl) ?_ ?_; rotate_left; (intro w hS; obtain ⟨-, S1, S2, S3, S4, S5, S6⟩ := hS; go_simp; try with_reducible rfl); simp only [Act.put, List.setIfInBounds_toArray, List.set_cons_zero, List.set_cons_succ])
        refine p_one rfl (by rfl) ?_
        intro K hK
        go_simp
        refine (same_calls bs[k].t bs[k].t A A2 _ _ _ _ _ hm hm (pt.below (Below.refl _ _).drew) (qt.below (Below.refl _ _).drew)).mono ?_
        rw [sameB_self]
        rintro e x1 ⟨rfl, h1⟩
        have h1' := more_below (Below.refl wr.heap.size wr).drew h1
        refine hK.out _ _ (hS _ h1') ?_
        clear hK K h1
        try simp only [Act.put, List.setIfInBounds_toArray, List.set_cons_zero, List.set_cons_succ]
        iterate 2 (refine p_take (v := ?_) rfl (by rfl) ?_ ?_; rotate_left; (intro w hS; obtain ⟨-, S1, S2, S3, S4, S5, S6⟩ := hS; go_simp; try with_reducible rfl); simp only [Act.put, List.setIfInBounds_toArray, List.set_cons_zero, List.set_cons_succ])
        refine p_done ⟨.slice (some ⟨b1, o1, none⟩) bs.length c1, .int .i64 k, .pointer (some ⟨b1, o1 + k * 3, none⟩), .pointer (some ⟨b1, o1 + k * 3, none⟩), .int .i64 bs[k].v, .slice (some ⟨b2, o2, none⟩) bs.length c2, .int .i64 k, .pointer (some ⟨b2, o2 + k * 3, none⟩), .pointer (some ⟨b2, o2 + k * 3, none⟩), .int .i64 bs[k].v, .bool false, .bool false, .slice (some ⟨b1, o1, none⟩) bs.length c1, .int .i64 k, .pointer (some ⟨b1, o1 + k * 3, none⟩), .pointer (some ⟨b1, o1 + k * 3 + 1, none⟩), .agg #[.int .i64 bs[k].t.h, .slice a1 bs[k].t.args.length d1], .slice (some ⟨b2, o2, none⟩) bs.length c2, .int .i64 k, .pointer (some ⟨b2, o2 + k * 3, none⟩), .pointer (some ⟨b2, o2 + k * 3 + 1, none⟩), .agg #[.int .i64 bs[k].t.h, .slice a2 bs[k].t.args.length d2], .bool true, .bool false, ?_, h1'⟩
        try simp only [Act.put, List.setIfInBounds_toArray, List.set_cons_zero, List.set_cons_succ]
        try rfl
      rintro _ W2 ⟨x17, x18, x19, x20, x21, x22, x23, x24, x25, x26, x27, x28, x29, x30, x31, x32, x33, x34, x35, x36, x37, x38, x39, x40, rfl, hW2⟩
      simp only [Act.put, List.setIfInBounds_toArray, List.set_cons_zero, List.set_cons_succ]
      have hB2 := hB.trans (hW2.mono hB.size)
      clear hS p0 p1 p2 q0 q1 q2 pt qt
      go_wp2
      go_roundw
      case rel => exact ⟨k + 1, by omega, by go_num, hB2⟩
      case measure => simp [intOf]; omega
    · obtain rfl : k = bs.length := by omega
      clear hlt hk
      go_wp2
      go_ret
      exact ⟨rfl, hB⟩
end Go.Proofs.Ythplndalbfcbbaa
