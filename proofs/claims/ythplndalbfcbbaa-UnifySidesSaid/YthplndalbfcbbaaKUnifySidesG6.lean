/- What the proof of the law rests on: contracts of the functions, plain laws, and words. -/
import Derived.Sort.OwnSortedInts
import Derived.Lib.SlicesCompact
import Derived.Lib.RowBridge
import Derived.Shelf.SlIterI.Nil
import Derived.Lib.AppendZerosOnto
import Derived.Lib.SliceRun
import Derived.Test.YthplndalbfcbbaaKUnifySidesG5
import Derived.Test.YthplndalbfcbbaaKUnifySidesG4
import Derived.Test.YthplndalbfcbbaaKUnifySidesG1
import Derived.Test.YthplndalbfcbbaaKUnifySidesG2
import Derived.Test.YthplndalbfcbbaaKUnifySidesG3
set_option linter.unusedSimpArgs false
set_option linter.unusedVariables false
namespace Go.Proofs.Ythplndalbfcbbaa
open Go.RowKit Go.Sort
def sortI (l : List Int) : List Int := l.mergeSort fun x y => decide (x ≤ y)
theorem sortI_length (l : List Int) : (sortI l).length = l.length := by simp [sortI]
theorem sortI_mem (l : List Int) (v : Int) : v ∈ sortI l ↔ v ∈ l := by simp [sortI]
theorem sortI_sorted (l : List Int) : (sortI l).Pairwise (· ≤ ·) := by
  have := List.pairwise_mergeSort (le := fun x y : Int => decide (x ≤ y)) (fun a b c h1 h2 => by simp at *; omega) (fun a b => by simp; omega) l
  exact this.imp fun h => by simpa using h
end Go.Proofs.Ythplndalbfcbbaa
set_option linter.unusedSimpArgs false
set_option linter.unusedVariables false
namespace Go.Proofs.Ythplndalbfcbbaa
open Go.RowKit
def hasB (n : Int) (l : List Int) : Bool := l.any fun x => x == n
theorem hasB_iff {n : Int} {l : List Int} : hasB n l = true ↔ n ∈ l := by simp [hasB]
theorem hasB_drop (n : Int) (l : List Int) (k : Nat) (h : k < l.length) : hasB n (l.drop k) = (l[k] == n || hasB n (l.drop (k + 1))) := by
  rw [hasB, hasB, List.drop_eq_getElem_cons h, List.any_cons]
set_option maxHeartbeats 1000000 in
theorem in_calls (n : Int) (l : List Int) (A : Nat → Prop) (s : Value) (w : World) (hs : Ints A w s l) :
    Calls Try.prog 40 #[.int .i64 n, s] w fun e w' => e = .returned (.bool (hasB n l)) ∧ Below w.heap.size w w' := by
  obtain ⟨a, c, rfl, hlc, hc⟩ := hs.shape
  have hl : l.length ≤ 9223372036854775807 := by omega
  have HG := hide (show hasB n (l.drop 0) = hasB n l by simp)
  go_enter Try.func40, Try.ntmps40
  go_wp2
  go_loopw [5] (fun i wr => ∃ (k : Nat), k ≤ l.length ∧ i = .int .i64 k ∧ Hid (hasB n (l.drop k) = hasB n l) ∧ Below w.heap.size w wr) (fun i _ => l.length - (intOf i).toNat)
  case atStart => exact ⟨0, by omega, rfl, HG, Below.refl _ _⟩
  case round =>
    obtain ⟨k, hk, rfl, hx, hB⟩ := hrel
    by_cases hlt : k < l.length
    · obtain ⟨b, off, rfl, hbs, hbA, g0⟩ := hs.get k hlt
      have hc1 := (hB.cell (p := ⟨b, off + k, none⟩) hbs).trans g0
      clear g0
      have hx2 := hx.out
      rw [hasB_drop _ _ _ hlt] at hx2
      cases hv : l[k] == n
      · have HX := hide (show hasB n (l.drop (k + 1)) = hasB n l by rw [← hx2, hv, Bool.false_or])
        clear hx hx2
        go_wp2
        go_roundw
        case rel => exact ⟨k + 1, by omega, by go_num, HX, hB⟩
        case measure => simp [intOf]; omega
      · have HX := hide (show true = hasB n l by rw [← hx2, hv, Bool.true_or])
        clear hx hx2
        go_wp2
        go_ret
        rw [← HX.out]
        exact ⟨rfl, hB⟩
    · have HX := hide (show false = hasB n l by have := hx.out; rw [List.drop_of_length_le (by omega)] at this; simpa [hasB] using this)
      clear hx
      go_wp2
      go_ret
      rw [← HX.out]
      exact ⟨rfl, hB⟩
end Go.Proofs.Ythplndalbfcbbaa
set_option linter.unusedSimpArgs false
set_option linter.unusedVariables false
namespace Go.Proofs.Ythplndalbfcbbaa
open Go.RowKit
def idxI (n : Int) : List Int → Int → Int
  | [], _ => -1
  | x :: l, k => if n = x then k else idxI n l (k + 1)
theorem idxI_has (n : Int) : ∀ (l : List Int) (k : Int), 0 ≤ k → (decide (0 ≤ idxI n l k) = hasB n l ∧ -1 ≤ idxI n l k)
  | [], k, _ => by simp [idxI, hasB]
  | x :: l, k, h => by
    have ih := idxI_has n l (k + 1) (by omega)
    simp only [idxI, hasB, List.any_cons]
    split
    · rename_i hx; subst hx; simp; omega
    · rename_i hx
      have : (x == n) = false := by simp; omega
      rw [this, Bool.false_or]
      exact ih
theorem idxI_drop (n : Int) (l : List Int) (k : Nat) (h : k < l.length) : idxI n (l.drop k) k = if n = l[k] then (k : Int) else idxI n (l.drop (k + 1)) ((k + 1 : Nat) : Int) := by
  rw [List.drop_eq_getElem_cons h, idxI]; rfl
set_option maxHeartbeats 1000000 in
theorem index_calls (n : Int) (l : List Int) (A : Nat → Prop) (s : Value) (w : World) (hs : Ints A w s l) :
    Calls Try.prog 140 #[s, .int .i64 n] w fun e w' => e = .returned (.int .i64 (idxI n l 0)) ∧ Below w.heap.size w w' := by
  obtain ⟨a, c, rfl, hlc, hc⟩ := hs.shape
  have hl : l.length ≤ 9223372036854775807 := by omega
  have HG := hide (show idxI n (l.drop 0) ((0 : Nat) : Int) = idxI n l 0 by simp)
  go_enter Try.func140, Try.ntmps140
  go_wp2
  go_loopw [8] (fun i wr => ∃ (k : Nat), k ≤ l.length ∧ i = .int .i64 k ∧ Hid (idxI n (l.drop k) k = idxI n l 0) ∧ Below w.heap.size w wr) (fun i _ => l.length - (intOf i).toNat)
  case atStart => exact ⟨0, by omega, rfl, HG, Below.refl _ _⟩
  case round =>
    obtain ⟨k, hk, rfl, hx, hB⟩ := hrel
    by_cases hlt : k < l.length
    · obtain ⟨b, off, rfl, hbs, hbA, g0⟩ := hs.get k hlt
      have hc1 := (hB.cell (p := ⟨b, off + k, none⟩) hbs).trans g0
      clear g0
      have hx2 := hx.out
      rw [idxI_drop _ _ _ hlt] at hx2
      by_cases hv : n = l[k]
      · have HX := hide (show (k : Int) = idxI n l 0 by rw [← hx2, if_pos hv])
        have hv' : (n == l[k]) = true := by simpa using hv
        clear hx hx2 hv
        go_wp2
        go_ret
        rw [← HX.out]
        exact ⟨rfl, hB⟩
      · have HX := hide (show idxI n (l.drop (k + 1)) ((k + 1 : Nat) : Int) = idxI n l 0 by rw [← hx2, if_neg hv])
        have hv' : (n == l[k]) = false := by simpa using hv
        clear hx hx2 hv
        go_wp2
        go_roundw
        case rel => exact ⟨k + 1, by omega, by go_num, HX, hB⟩
        case measure => simp [intOf]; omega
    · have HX := hide (show -1 = idxI n l 0 by have := hx.out; rw [List.drop_of_length_le (by omega)] at this; simpa [idxI] using this)
      clear hx
      go_wp2
      go_ret
      rw [← HX.out]
      exact ⟨rfl, hB⟩
theorem contains_calls (n : Int) (l : List Int) (A : Nat → Prop) (s : Value) (w : World) (hs : Ints A w s l) :
    Calls Try.prog 95 #[s, .int .i64 n] w fun e w' => e = .returned (.bool (hasB n l)) ∧ Below w.heap.size w w' := by
  obtain ⟨a, c, rfl, hlc, hc⟩ := hs.shape
  have h9 := idxI_has n l 0 (by omega)
  go_enter Try.func95, Try.ntmps95
  go_wp2_with fail
  refine (index_calls n l A _ _ hs).mono ?_
  rintro e w1 ⟨rfl, h1⟩
  generalize idxI n l 0 = x at *
  have HX := hide h9
  clear h9
  by_cases h0 : 0 ≤ x
  · have HY := hide (show true = hasB n l by rw [← HX.out.1]; simp [h0])
    go_wp2
    go_ret
    rw [← HY.out]
    first | exact ⟨rfl, h1⟩ | exact ⟨by simp [h0], h1⟩
  · have HY := hide (show false = hasB n l by rw [← HX.out.1]; simp [h0])
    go_wp2
    go_ret
    rw [← HY.out]
    first | exact ⟨rfl, h1⟩ | exact ⟨by simp [h0], h1⟩
end Go.Proofs.Ythplndalbfcbbaa
set_option linter.unusedSimpArgs false
set_option linter.unusedVariables false
namespace Go.Proofs.Ythplndalbfcbbaa
open Go.RowKit Go.Shelf
attribute [local go_sem] Oper.semAt_some
theorem flat_ints : ∀ l : List Int, (l.map fun n => [Value.int .i64 n]).flatten = l.map (Value.int .i64)
  | [] => rfl
  | x :: l => by rw [List.map_cons, List.flatten_cons, flat_ints l, List.map_cons]; rfl
theorem Ints.of_own {A : Nat → Prop} {w : World} {base e : Nat} {v : Value} {l : List Int} (h : w.ownsRow base e 1 v l.length (l.map (Value.int .i64))) (hA : ∀ b, v.ownBlock = some b → ¬ A b) : Ints A w v l := by
  simp only [Ints, RepD]
  rcases h.2 with ⟨hv, h0⟩ | ⟨g, cap, cur, hv, hg, hh, hn, hm, hs, ht⟩
  · exact ⟨none, 0, 0, by rw [hv], by simp [h0], by omega, by omega, by omega⟩
  · refine ⟨_, _, _, by rw [hv], by simp, hn, Nat.le_trans hn (by simpa [maxLen] using hm), fun h0 => ⟨g, 0, rfl, (Array.getElem?_eq_some_iff.1 hh).1, hA g (by rw [hv]; rfl), ?_⟩⟩
    have hfl := flat_ints l
    refine RepR.of (l.map fun n => [Value.int .i64 n]) _ 0 (by simp) (fun j hj => ?_) ?_
    · rw [hfl] at hj ⊢
      have := h.cells (g := g) (by rw [hv]; rfl) j ((l.map (Value.int .i64))[j]) (by simp)
      rw [add_plain] at this
      rw [Nat.zero_add, this, List.getElem?_eq_getElem hj]
    · clear hfl h hv hh hn hm hs ht h0 hA
      induction l with
      | nil => exact .nil
      | cons x l ih => exact .cons (by simp [intD, RepD]) ih
structure VarsInv (n0 : Nat) (W : World) (O : Nat → Prop) (l : List Int) (v : Value) (Wx : World) : Prop where
  box : Wx.heap[n0 + 1]? = some (.cells #[v] 37 (0, 0))
  row : Wx.ownsRow W.heap.size 3 1 v l.length (l.map (Value.int .i64))
  ne : ∀ b, v.ownBlock = some b → ¬ O b
  kp : Keep (fun b => b < W.heap.size ∧ b ≠ n0 + 1) W Wx
def VarsI (n0 : Nat) (W : World) (O : Nat → Prop) (pre : List Raw) (Wx : World) : Prop := ∃ v, VarsInv n0 W O (varsH (pre.map fun r => r.2.1)) v Wx
theorem varsI_framed (n0 : Nat) (W : World) (hn : n0 + 1 < W.heap.size) (pre : List Raw) : Framed W.heap.size fun O Wx => VarsI n0 W O pre Wx := by
  rintro O O' Wx Wx' hO ⟨v, h⟩ hk hO'
  refine ⟨v, hk.obj (fun h => by have := (hO _ h).1; omega) h.box, ownsRow_keep h.row hk (fun b hb => h.ne b hb), fun b hb hb' => ?_, h.kp.trans (hk.mono fun b _ hb h => by have := (hO b h).1; have := hb.1; omega)⟩
  rcases hO' b hb' with h' | h'
  · exact h.ne b hb h'
  · have := (h.row.lt b hb).2; omega
set_option maxHeartbeats 4000000 in
set_option maxRecDepth 100000 in
theorem tvars_calls (t : Tm) (A A2 : Nat → Prop) (h : Int) (s : Value) (w : World) (hA : ∀ b, A b → b < w.heap.size) (hs : IsTm A2 w h s t) (hsz : t.size ≤ 1000000000) (hr : ∀ h, h ∈ t.heads → -256 ≤ h ∧ h ≤ 1023) :
    Calls Try.prog 37 #[.agg #[.int .i64 h, s]] w fun e w' => ∃ v, e = .returned v ∧ Ints A w' v (varsT t) ∧ Below w.heap.size w w' := by
  refine (callsIn_wide (n := 0)).1 ?_
  obtain ⟨rfl, a, c, rfl, hc1, hc2⟩ := hs.shape
  refine callsIn_of_wp_marks Try.func37 rfl trivial ?_ rfl
  simp only [Try.ntmps37, List.size_toArray, List.length_cons, List.length_nil, Nat.reduceAdd, Nat.reduceSub, Array.replicate_succ, Array.replicate_zero, List.push_toArray, List.append_toArray, List.nil_append, List.cons_append]
  gi_wp2_with fail
  refine ⟨trivial, rfl, (callsIn_wide.2 (parts_calls _ _ ⟨_, _, _, rfl⟩ _)).mono ?_⟩
  rintro e W ⟨rfl, hW⟩
  have HW := hide hW
  clear hW
  gi_wp2_with fail
  have hWa : W = allocs w [.cells #[.int .i64 t.h, .slice a t.args.length c] 25, .cells #[.slice none 0 0] 37, .cells #[.int .i64 t.h, .slice a t.args.length c] 25] := HW.out
  clear HW
  have hsW0 : W.heap.size = w.heap.size + 3 := by rw [hWa, allocs_size]; rfl
  have hsW1 : W.heap.size ≤ w.heap.size + 3 := by omega
  have hsW2 : w.heap.size + 3 ≤ W.heap.size := by omega
  clear hsW0
  have hbW : Below w.heap.size w W := by rw [hWa]; exact allocs_below _ _
  have e1 : W.heap[w.heap.size + 1]? = some (.cells #[.slice none 0 0] 37 (0, 0)) := by rw [hWa]; exact allocs_get _ _ 1 _ rfl
  have e2 : W.heap[w.heap.size + 2]? = some (.cells #[.int .i64 t.h, .slice a t.args.length c] 25 (0, 0)) := by rw [hWa]; exact allocs_get _ _ 2 _ rfl
  clear hWa
  have hT : Terms (fun b => w.heap.size ≤ b) W (.slice a t.args.length c) t.args :=
    RepD.frame (fun b hb hlt => hbW.block b hlt) (fun b hb h => by omega) _ _ hs.2
  refine wp_range_out (gf := 138) (lb := #[.pointer (some ⟨w.heap.size + 2, 0, none⟩)]) (xs := rawT W t 1 (t.h, .slice a t.args.length c)) (S := fun b => b < W.heap.size ∧ b ≠ w.heap.size + 1) rfl (enters_of Try.func138 (by kernel_rfl) rfl)
    (parts1_seq W (fun b => w.heap.size ≤ b) _ (w.heap.size + 2) t (t.h, .slice a t.args.length c) ⟨by omega, by omega⟩ (fun b hb h => ⟨hb, by omega⟩) (fun b hb => hb.1) (by simp [World.cell?, e2]) (by simp [World.cell?, e2]) rfl hT hsz) (fun x => rfl)
    (VarsI w.heap.size W) (fun _ _ _ _ => False) (varsI_framed _ _ (by omega)) (fun _ _ _ _ _ _ _ h _ _ => h)
    ⟨_, e1, World.ownsRow_nil _ _ _ _, fun b hb => by simp [Value.ownBlock] at hb, Keep.refl _ _⟩ (fun b hb => hb.1)
    (fun O pre x a' Wx => ∃ Bx, Wx.heap[Bx]? = some (.cells #[.int .i64 x.2.1, x.2.2] 25 (0, 0)) ∧ ¬ O Bx ∧ W.heap.size ≤ Bx ∧ Bx < Wx.heap.size ∧ a' = { tmps := #[.agg #[.int .i64 t.h, .slice a t.args.length c], .pointer (some ⟨w.heap.size, 0, none⟩), .slice none 0 0, .pointer (some ⟨w.heap.size + 1, 0, none⟩), undef, .pointer (some ⟨Bx, 0, none⟩), undef, .agg #[.int .i64 t.h, .slice a t.args.length c], .func (.func 138) #[] #[.pointer (some ⟨w.heap.size + 2, 0, none⟩)], .int .i64 x.1, .agg #[.int .i64 x.2.1, x.2.2], undef, undef, undef, undef, undef, undef, undef, undef, undef, undef, undef, undef, undef, undef, undef, undef], defers := [] }) ?hAx ?assign ?body ?done (fun _ _ _ _ _ _ _ _ _ h => h.elim)
  case hAx =>
    rintro O pre x a' Wx Wx' ⟨Bx, h1, h2, h3, h4, h5⟩ hk
    exact ⟨Bx, hk.obj h2 h1, h2, h3, Nat.lt_of_lt_of_le h4 hk.size, h5⟩
  case assign =>
    intro l O pre x Wx K hpx hI hO hK
    obtain ⟨xa, xn, xc, hxe⟩ := raw_mem_shape rfl hT (pre_mem hpx)
    obtain ⟨v, hI⟩ := hI
    have hsz := hI.kp.size
    clear hpx hI
    obtain ⟨xd, xh, xs⟩ := x
    simp only at hxe
    subst hxe
    simp only [encP]
    have HK := hide hK
    clear hK e1 e2
    gi_wp2
    exact HK.out _ _ ((Keep.refl _ _).alloc _) ⟨Wx.heap.size, World.alloc_heap_new _ _, fun h => by have := (hO _ h).2; omega, by omega, by simp, rfl⟩
  case body =>
    rintro l O pre x a' Wx hpx hO hOl hrec hkx ⟨v, hI⟩ ⟨Bx, hBx1, hBx2, hBx3, hBx4, rfl⟩
    obtain ⟨xa, xn, xc, hxe⟩ := raw_mem_shape rfl hT (pre_mem hpx)
    have hlen : pre.length < 1000000000 := by
      have h1 := hpx.length_le
      have h2 := (rawT_pre t 1 (t.h, .slice a t.args.length c) rfl hT).length
      have h3 := preT_length 1 t
      simp at h1; omega
    have hrx : -256 ≤ x.2.1 ∧ x.2.1 ≤ 1023 := by
      refine hr _ ?_
      rw [← raw_heads (r := (t.h, .slice a t.args.length c)) (W := W) (d := 1) rfl hT]
      exact List.mem_map.2 ⟨x, pre_mem hpx, rfl⟩
    have hll : (varsH (pre.map fun r => r.2.1)).length ≤ pre.length := by
      have := foldl_vstep_length (pre.map fun r => r.2.1) []
      simpa [varsH] using this
    have hsn : varsH ((pre ++ [x]).map fun r => r.2.1) = vstep (varsH (pre.map fun r => r.2.1)) x.2.1 := by rw [List.map_append, List.map_cons, List.map_nil, varsH_snoc]
    have HSN := hide hsn
    clear hpx e1 e2 hsn
    obtain ⟨xd, xh, xs⟩ := x
    simp only at hxe hBx1 hrx
    subst hxe
    generalize hL : varsH (pre.map fun r => r.2.1) = L at *
    clear hL
    have hbc := cell_of_one hI.box
    have hbf := free_of_one hI.box
    have c0 : Wx.cell? ⟨Bx, 0, none⟩ = some (.int .i64 xh) := by simp [World.cell?, hBx1]
    have hlt : w.heap.size + 3 ≤ Wx.heap.size := by have := hI.kp.size; omega
    have hw1 : IntKind.i64.wrap (-1 - xh) = -1 - xh := IntWalk.i64_in _ (by omega)
    obtain ⟨va, vc, rfl⟩ : ∃ va vc, v = .slice va L.length vc := by
      rcases hI.row.2 with ⟨h, h'⟩ | ⟨g, cap, cur, h, _⟩
      · exact ⟨none, 0, by rw [h, h']⟩
      · exact ⟨_, _, h⟩
    have hkeep : ∀ W', Below Wx.heap.size Wx W' → vstep L xh = L → ∀ a', postI (fun b => b < W.heap.size ∧ b ≠ w.heap.size + 1) O (VarsI w.heap.size W) (fun _ _ _ _ => False) (pre ++ [(xd, xh, .slice xa xn xc)]) Wx .normal a' W' := fun W' hB hv a' => by
      refine ⟨.of_below hB, .slice va L.length vc, ?_⟩
      rw [HSN.out, hv]
      have hk := Keep.of_below (S := fun _ => True) hB
      exact ⟨hk.obj trivial hI.box, ownsRow_keep hI.row hk (fun _ _ => trivial), hI.ne, hI.kp.trans (hk.mono fun _ _ _ => trivial)⟩
    have HKEEP := hide hkeep
    clear hkeep
    by_cases hneg : xh < 0
    · have hge : 0 ≤ -1 - xh := by omega
      gi_wp2_with fail
      refine ⟨trivial, rfl, (callsIn_wide.2 (contains_calls (-1 - xh) L (fun _ => False) _ _ (Ints.of_own hI.row fun _ _ h => h))).mono ?_⟩
      rintro e W1 ⟨rfl, hB1⟩
      cases hb : hasB (-1 - xh) L
      · have hnm : ¬ (-1 - xh) ∈ L := fun h => by rw [hasB_iff.2 h] at hb; cases hb
        have HV := hide (show vstep L xh = L ++ [-1 - xh] by unfold vstep; rw [if_pos ⟨hneg, hnm⟩])
        clear hb hnm
        have hk1 := Keep.of_below (S := fun _ => True) hB1
        have hbx1 := hk1.obj trivial hI.box
        have hrow1 := ownsRow_keep hI.row hk1 (fun _ _ => trivial)
        have hbc1 := cell_of_one hbx1
        have hbf1 := free_of_one hbx1
        have hbase : W.heap.size ≤ W1.heap.size := by have := hI.kp.size; have := hB1.size; omega
        have hs1 := hB1.size
        have hne := hI.ne
        have hkp := hI.kp
        clear hbc hbf c0 hBx1
        gi_wp2_with (gi_at_builtin; refine app_in rfl _ _ 37 rfl W.heap.size 3 (.int .i64 0) 1 8 Try.underlying37 (by kernel_rfl) rfl (by decide) (by decide) _ _ _ rfl hrow1 1 1 _ rfl (by simp [Value.oneCell']) rfl (by omega) hbase ?_; intro v' w1 r1 r2 r3 r4; obtain ⟨va', vc', rfl⟩ := r4; have hb1 := r2.obj (fun h => by have := (hrow1.lt _ h).1; omega) hbx1; have hc1 := cell_of_one hb1; have hf1 := free_of_one hb1)
        have hfin : postI (fun b => b < W.heap.size ∧ b ≠ w.heap.size + 1) O (VarsI w.heap.size W) (fun _ _ _ _ => False) (pre ++ [(xd, xh, .slice xa xn xc)]) Wx .normal { tmps := #[], defers := [] } (w1.setCell ⟨w.heap.size + 1, 0, none⟩ (.slice va' (L.length + 1) vc')) := by
          have hlv := hrow1.lt
          have hkk : Keep (fun b => b ≠ w.heap.size + 1 ∧ (Value.slice va L.length vc).ownBlock ≠ some b) Wx (w1.setCell ⟨w.heap.size + 1, 0, none⟩ (.slice va' (L.length + 1) vc')) :=
            (((Keep.of_below hB1).trans (r2.mono fun b _ h => h.2)).setCell (fun h => h.1 rfl) _)
          have hown' : ∀ b, (Value.slice va' (L.length + 1) vc').ownBlock = some b → (Value.slice va L.length vc).ownBlock = some b ∨ W1.heap.size < b := r3
          refine ⟨hkk.mono fun b hb h => ⟨?_, ?_⟩, .slice va' (L.length + 1) vc', ?_⟩
          · rcases h with h | h
            · exact h.2
            · have := (hO b h).1; omega
          · rcases h with h | h
            · intro e; have := (hI.row.lt b e).1; omega
            · intro e; exact hne b e h
          · rw [HSN.out, HV.out]
            refine ⟨setCell_box hb1 _, ?_, fun b hb hb' => ?_, ?_⟩
            · have := ownsRow_keep r1 ((Keep.refl (fun b => b ≠ w.heap.size + 1) w1).setCell (p := ⟨w.heap.size + 1, 0, none⟩) (by simp) (.slice va' (L.length + 1) vc')) (fun b hb => by
                rcases hown' b hb with h | h
                · have := (hlv b h).1; omega
                · omega)
              simpa using this
            · rcases hown' b hb with h | h
              · exact hne b h hb'
              · have := (hO b hb').2; omega
            · exact hkp.trans (hkk.mono fun b hb h => ⟨h.2, fun e => by have := (hI.row.lt b e).1; omega⟩)
        exact hfin
      · have HV := hide (show vstep L xh = L by unfold vstep; rw [if_neg (fun h => h.2 (hasB_iff.1 hb))])
        clear hb
        gi_wp2
        exact HKEEP.out _ hB1 HV.out _
    · have HV := hide (show vstep L xh = L by unfold vstep; rw [if_neg (fun h => hneg h.1)])
      have hge : ¬ 0 ≤ -1 - xh := by omega
      gi_wp2
      refine ⟨trivial, ?_⟩
      gi_wp2
      exact HKEEP.out _ (Below.refl _ _) HV.out _
  case done =>
    intro O Wx hO hOw hkx hdef ⟨v, hI⟩
    rw [raw_heads (r := (t.h, .slice a t.args.length c)) rfl hT] at hI
    have k1 := cell_of_one hI.box
    have hB : Below w.heap.size w Wx := hbW.trans (hI.kp.below (fun b hb => ⟨by omega, by omega⟩) (by omega))
    have hszx := hI.kp.size
    obtain ⟨va, vc, rfl⟩ : ∃ va vc, v = .slice va (varsH t.heads).length vc := by
      rcases hI.row.2 with ⟨h, h'⟩ | ⟨g, cap, cur, h, _⟩
      · exact ⟨none, 0, by rw [h, h']⟩
      · exact ⟨_, _, h⟩
    have fin : ∀ (tm : Array Value), tm[2]? = some (.slice va (varsH t.heads).length vc) → LeavesInM Fence.wide 0 Try.prog Try.f37 tm (fun e w' => ∃ v, e = .returned v ∧ Ints A w' v (varsT t) ∧ Below w.heap.size w w') (marks [W.heap.size]) .returning Wx := by
      intro tm h1
      refine leaves_marks [W.heap.size] Wx ⟨by simp, fun D hD => by simp at hD; subst hD; exact hdef⟩ fun W' hk => ⟨_, results_tmp rfl _ _ _, ?_⟩
      refine ⟨.slice va (varsH t.heads).length vc, by simp [h1, Array.getD_eq_getD_getElem?], ?_, hB.trans (hk.below (fun b hb => by simp; omega) (by omega))⟩
      exact Ints.of_own (ownsRow_keep hI.row hk (fun b hb => by simp; exact fun e => hI.ne b hb (e ▸ hOw))) fun b hb h => by have := (hI.row.lt b hb).1; have := hA b h; omega
    have FIN := hide fin
    clear fin e1 e2 hkx
    gi_wp2
    exact FIN.out _ rfl
end Go.Proofs.Ythplndalbfcbbaa
set_option linter.unusedSimpArgs false
set_option linter.unusedVariables false
namespace Go.Proofs.Ythplndalbfcbbaa
open Go.RowKit Go.Maps Go.Sort Go.Shelf
theorem sortsA (m : Nat) : AnyZI.SortsIn Try.prog Try.sortedA_ren Fence.wide m :=
  ⟨fun blk off cap ss W hH hblk hsz => callsIn_wide.2 (Try.slices_Sort_int blk off cap ss W hH hblk hsz),
   fun p cap W => callsIn_wide.2 (Try.slices_Sort_int_none p cap W)⟩
theorem keys_calls (mb : Nat) (w : World) : Calls Try.prog 99 #[.map (some mb)] w fun e w' =>
    e = .returned (.func (.func 144) #[] #[.pointer (some ⟨w.heap.size, 0, none⟩)]) ∧ w' = w.alloc (.cells #[.map (some mb)] 97) :=
  callsIn_wide.1 (AnyZI.keys_in Try.keysA Fence.wide 5 trivial rfl (some mb) w)
theorem sorted_calls (mb : Nat) (f : Int → Option Value) (w : World) (h : MapAt w mb f) (hr : ∀ x v, f x = some v → 0 ≤ x ∧ x ≤ 255) :
    Calls Try.prog 98 #[.func (.func 144) #[] #[.pointer (some ⟨w.heap.size, 0, none⟩)]] (w.alloc (.cells #[.map (some mb)] 97)) fun e w' =>
      ∃ (v : Value) (vs : List Int), e = .returned v ∧ vs.Pairwise (· < ·) ∧ (∀ x, x ∈ vs ↔ ∃ u, f x = some u) ∧ Ints (fun _ => False) w' v vs ∧ Below w.heap.size w w' := by
  obtain ⟨D, hown, hk, hnd⟩ := h.owns (P := Try.prog) (k := 3) Try.underlying3 hr
  have hbl := hown.lt
  have hsz : Maps.size D ≤ 256 := hown.size_le
  refine (callsIn_wide (n := 5)).1 ?_
  have hseq : SeqGives Fence.wide 2 Try.prog 144 #[.pointer (some ⟨w.heap.size, 0, none⟩)] encZ (fun ss => ss.Perm (intKeys D)) (Maps.size D) (w.alloc (.cells #[.map (some mb)] 97)) :=
    AnyZI.keys_gives (ρ := Try.keysA_ren) { Try.keysA with } Fence.wide _ trivial rfl (by omega) w.heap.size mb 256 D _ (by simp) (by simp) (by
      obtain ⟨es, clock, hb, Ft, hs, hD⟩ := hown
      exact ⟨es, clock, (Below.heap_alloc _ _ mb hbl).trans hb, Ft, hs, hD⟩)
  have cS := AnyZI.sorted_in Try.sortedA Fence.wide 5 trivial trivial trivial trivial rfl (by omega) (sortsA _) (enters_of Try.func104 (by kernel_rfl) rfl) 144 #[.pointer (some ⟨w.heap.size, 0, none⟩)] trivial (enters_of Try.func144 (by kernel_rfl) rfl) _ _ (by unfold maxLen; omega) (by omega) _ hseq
  change CallsIn _ _ Try.prog 98 _ _ _ at cS
  refine cS.mono ?_
  rintro e w' ⟨v, ss, rfl, hS, hrow, hnil, hb⟩
  have hle := sortI_sorted ss
  have hn2 : (sortI ss).Nodup := ((List.mergeSort_perm ss _).trans hS).nodup_iff.2 hnd
  have hl : (sortI ss).length = ss.length := sortI_length ss
  refine ⟨v, sortI ss, rfl, ?_, fun x => ?_, ?_, ?_⟩
  · exact (hle.and (List.nodup_iff_pairwise_ne.1 hn2)).imp fun ⟨h1, h2⟩ => by omega
  · rw [sortI_mem, hS.mem_iff, hk]
  · refine Ints.of_own (base := (w.alloc (.cells #[.map (some mb)] 97)).heap.size) (e := 3) ?_ (fun b _ h => h)
    rw [hl]; exact hrow
  · exact ((Below.refl _ w).alloc (Nat.le_refl _) _).trans (hb.mono (by simp))
end Go.Proofs.Ythplndalbfcbbaa
set_option linter.unusedSimpArgs false
set_option linter.unusedVariables false
namespace Go.Proofs.Ythplndalbfcbbaa
open Go.RowKit
def badI : List Tm → Int → Int
  | [], _ => -1
  | t :: ts, k => if chk t = 0 then badI ts (k + 1) else k
theorem badI_drop (l : List Tm) (k : Nat) (h : k < l.length) : badI (l.drop k) k = if chk l[k] = 0 then badI (l.drop (k + 1)) ((k + 1 : Nat) : Int) else (k : Int) := by
  rw [List.drop_eq_getElem_cons h, badI]; rfl
theorem badI_all : ∀ (l : List Tm) (k : Int), 0 ≤ k → (decide (0 ≤ badI l k) = !l.all rightB)
  | [], k, _ => by simp [badI]
  | t :: ts, k, h => by
    have ih := badI_all ts (k + 1) (by omega)
    simp only [badI, List.all_cons]
    split
    · rename_i hc
      rw [show rightB t = true by simp [rightB, hc], Bool.true_and]
      exact ih
    · rename_i hc
      rw [show rightB t = false by simp [rightB, hc]]
      simp [h]
end Go.Proofs.Ythplndalbfcbbaa
set_option linter.unusedSimpArgs false
set_option linter.unusedVariables false
namespace Go.Proofs.Ythplndalbfcbbaa
open Go.RowKit
theorem binds1 {A : Nat → Prop} {W : World} {b : Nat} {T : TypeId} {s1 : Value} {b1 : Bd} (hb : W.heap[b]? = some (.cells #[.int .i64 b1.v, .int .i64 b1.t.h, s1] T (0, 0))) (hA : ¬ A b) (h1 : Terms A W s1 b1.t.args) : Binds A W (.slice (some ⟨b, 0, none⟩) 1 1) [b1] := by
  simp only [Binds, RepD]
  refine ⟨_, _, _, rfl, by simp, Nat.le_refl _, by omega, fun _ => ⟨b, 0, rfl, (Array.getElem?_eq_some_iff.1 hb).1, hA, ?_⟩⟩
  refine RepR.of [[.int .i64 b1.v, .int .i64 b1.t.h, s1]] _ 0 (by simp) (fun j hj => ?_) (.cons (repBd.2 ⟨s1, rfl, h1⟩) .nil)
  rw [Nat.zero_add]; simp only [World.cell?, hb]; simp
end Go.Proofs.Ythplndalbfcbbaa
set_option linter.unusedSimpArgs false
set_option linter.unusedVariables false
namespace Go.Proofs.Ythplndalbfcbbaa
open Go.RowKit
section
variable {P : Program} {W : World} {ops : Array Oper} {rest : List Oper} {o : Oper} {a : Act} {Q : Exit → Act → World → Prop} {k e t : TypeId} {b : Nat} {f : Int → Option Value}
theorem MapAt.look1 (h : MapAt W b f) (hk : P.underlying k = some (.int .i64)) (ht : P.underlying t = some (.map k e)) {z : Value} (hz : (zeroValue e).run P W = .ok z W) {x : Int} (h0 : -9223372036854775808 ≤ x) (h1 : x ≤ 9223372036854775807) :
    (Instr.lookup t (.map (some b)) (.int .i64 x) false).run P W = .ok ((f x).getD z) W := by
  obtain ⟨es, clock, hb, hkeys, huniq, hval, hdom, hst⟩ := h
  have K := Maps.int_keyed (P := P) hk
  have hkey := Maps.keyOf_int_mk hk (wf_i64 h0 h1)
  rcases K.find W hkey es.toList (fun e he => by obtain ⟨y, hy, hy0, hy1⟩ := hkeys e he; rw [hy]; exact ⟨_, Maps.keyOf_int_mk hk (wf_i64 hy0 hy1)⟩) with ⟨g1, g2⟩ | ⟨j, e0, g1, g2, g3⟩
  · have hf : f x = none := by
      cases hfx : f x with
      | none => rfl
      | some v => obtain ⟨e, he, hek⟩ := hdom x v hfx; exact absurd hek (g2 e he)
    simp [Instr.lookup, run_underlying ht, MapKept.run_getObj_map hb, K.check W _ hkey, g1, hz, Result.andThen, hf]
  · have hf := hval e0 (List.mem_of_getElem? g2) x g3
    simp [Instr.lookup, run_underlying ht, MapKept.run_getObj_map hb, K.check W _ hkey, g1, Result.andThen, hf]
theorem look1_pl (hg : o.guard = none) (m x : Operand) (t : TypeId) (hop : o.op = .lookup t m x false) (hk : P.underlying k = some (.int .i64)) (ht : P.underlying t = some (.map k e)) {z : Value} (hz : (zeroValue e).run P W = .ok z W)
    (b : Nat) (f : Int → Option Value) (hm : a.eval m = .map (some b)) (h : MapAt W b f) (y : Int) (hx : a.eval x = .int .i64 y) (h0 : -9223372036854775808 ≤ y) (h1 : y ≤ 9223372036854775807)
    (hK : wpList P ops Q rest (a.put o.dst ((f y).getD z)) W) : wpList P ops Q (o :: rest) a W := by
  refine wpList_plain hg fun K' hK' => ?_
  have hrun := h.look1 hk ht hz h0 h1
  unfold Oper.wp
  simp [execOp, hop, hm, hx, hrun, Result.andThen]
  exact hK' _ _ hK
end
theorem Terms.old {A : Nat → Prop} {w W : World} {s : Value} {ts : List Tm} {n : Nat} (h : Terms A w s ts) (hn : w.heap.size ≤ n) (hB : Below w.heap.size w W) : Terms (fun b => n ≤ b ∨ A b) W s ts :=
  RepD.frame (fun b _ hlt => hB.block b hlt) (fun b hb h => h.elim (fun h => by omega) id) _ _ h
end Go.Proofs.Ythplndalbfcbbaa
set_option linter.unusedSimpArgs false
set_option linter.unusedVariables false
namespace Go.Proofs.Ythplndalbfcbbaa
open Go.RowKit
set_option maxHeartbeats 4000000 in
set_option maxRecDepth 100000 in
theorem same3_calls (bs : List Bd) (A A2 : Nat → Prop) (s s2 : Value) (w : World) (hsz : ∀ b, b ∈ bs → b.t.size ≤ 1000000000) (hs : Binds A w s bs) (hs2 : Binds A2 w s2 bs) :
    Calls Try.prog 45 #[s, s2] w fun e w' => e = .returned (.bool true) ∧ Below w.heap.size w w' := by
  obtain ⟨a, c1, rfl, hc1, hc1'⟩ := hs.shape
  obtain ⟨a', c2, rfl, hc2, hc2'⟩ := hs2.shape
  have HSZ := hide hsz
  clear hsz
  have hl : bs.length ≤ 9223372036854775807 := by omega
  go_enter Try.func45, Try.ntmps45
  go_wp2
  go_loopw [5] (fun i wr => ∃ k : Nat, k ≤ bs.length ∧ i = .int .i64 k ∧ Below w.heap.size w wr) (fun i _ => bs.length - (intOf i).toNat)
  case atStart => exact ⟨0, by omega, rfl, Below.refl _ _⟩
  case round =>
    obtain ⟨k, hk, rfl, hB⟩ := hrel
    by_cases hlt : k < bs.length
    · obtain ⟨b1, o1, a1, d1, rfl, p0, p1, p2, pt⟩ := hs.getW hB k hlt
      obtain ⟨b2, o2, a2, d2, rfl, q0, q1, q2, qt⟩ := hs2.getW hB k hlt
      have hb1 : b1 < wr.heap.size := World.block_lt_of_cell? wr _ p0
      have hb2 : b2 < wr.heap.size := World.block_lt_of_cell? wr _ q0
      have hm := HSZ.out bs[k] (List.getElem_mem hlt)
      have hi0 : (k : Int) < bs.length := by omega
      go_wp2
      have hS : ∀ W', Below wr.heap.size wr W' → Below wr.heap.size wr W' ∧ W'.cell? ⟨b1, o1 + k * 3, none⟩ = some (.int .i64 bs[k].v) ∧ W'.cell? ⟨b1, o1 + k * 3 + 1, none⟩ = some (.int .i64 bs[k].t.h) ∧ W'.cell? ⟨b1, o1 + k * 3 + 2, none⟩ = some (.slice a1 bs[k].t.args.length d1) ∧ W'.cell? ⟨b2, o2 + k * 3, none⟩ = some (.int .i64 bs[k].v) ∧ W'.cell? ⟨b2, o2 + k * 3 + 1, none⟩ = some (.int .i64 bs[k].t.h) ∧ W'.cell? ⟨b2, o2 + k * 3 + 2, none⟩ = some (.slice a2 bs[k].t.args.length d2) := fun W' hW =>
        ⟨hW, (hW.cell (p := ⟨b1, o1 + k * 3, none⟩) hb1).trans p0, (hW.cell (p := ⟨b1, o1 + k * 3 + 1, none⟩) hb1).trans p1, (hW.cell (p := ⟨b1, o1 + k * 3 + 2, none⟩) hb1).trans p2, (hW.cell (p := ⟨b2, o2 + k * 3, none⟩) hb2).trans q0, (hW.cell (p := ⟨b2, o2 + k * 3 + 1, none⟩) hb2).trans q1, (hW.cell (p := ⟨b2, o2 + k * 3 + 2, none⟩) hb2).trans q2⟩
      refine cut_cap (fun a0 a' w' => ∃ x17 x18 x19 x20 x21 x22 x23 x24 x25 x26 x27 x28 x29 x30 x31 x32 x33 x34 x35 x36 x37 x38 x39 x40, a' = ((((((((((((((((((((((((a0.put (some 17) x17).put (some 18) x18).put (some 19) x19).put (some 20) x20).put (some 21) x21).put (some 22) x22).put (some 23) x23).put (some 24) x24).put (some 25) x25).put (some 26) x26).put (some 27) x27).put (some 28) x28).put (some 29) x29).put (some 30) x30).put (some 31) x31).put (some 32) x32).put (some 33) x33).put (some 34) x34).put (some 35) x35).put (some 36) x36).put (some 37) x37).put (some 38) x38).put (some 39) x39).put (some 40) x40).put (some 41) (.bool false) ∧ Below wr.heap.size wr w') ?_ ?_
      · refine drawn_two (fun W' => Below wr.heap.size wr W' ∧ W'.cell? ⟨b1, o1 + k * 3, none⟩ = some (.int .i64 bs[k].v) ∧ W'.cell? ⟨b1, o1 + k * 3 + 1, none⟩ = some (.int .i64 bs[k].t.h) ∧ W'.cell? ⟨b1, o1 + k * 3 + 2, none⟩ = some (.slice a1 bs[k].t.args.length d1) ∧ W'.cell? ⟨b2, o2 + k * 3, none⟩ = some (.int .i64 bs[k].v) ∧ W'.cell? ⟨b2, o2 + k * 3 + 1, none⟩ = some (.int .i64 bs[k].t.h) ∧ W'.cell? ⟨b2, o2 + k * 3 + 2, none⟩ = some (.slice a2 bs[k].t.args.length d2)) [.take 0, .take 1, .take 2, .take 3, .take 4, .take 5, .take 6, .take 7, .take 8, .take 9, .take 10, .take 11, .take 12, .take 13, .take 14, .take 15, .take 16, .take 17, .take 18, .take 19, .take 20, .take 21, .one 22, .take 23, .take 24] (by kernel_rfl) (by kernel_rfl) (by kernel_rfl) (by kernel_rfl) (fun _ _ _ _ _ h => h) (hS _ (Below.refl _ _).drew) ?_
        clear p0 p1 p2 q0 q1 q2
        iterate 22 (refine p_take (v := ?_) rfl (by rfl) ?_ ?_; rotate_left; (intro w hS; obtain ⟨-, S1, S2, S3, S4, S5, S6⟩ := hS; go_simp; try with_reducible rfl); simp only [Act.put, List.setIfInBounds_toArray, List.set_cons_zero, List.set_cons_succ])
        refine p_one rfl (by rfl) ?_
        intro K hK
        go_simp
        refine (same_calls bs[k].t bs[k].t A A2 _ _ _ _ _ hm hm (pt.below (Below.refl _ _).drew) (qt.below (Below.refl _ _).drew)).mono ?_
        rw [sameB_self]
        rintro e x1 ⟨rfl, h1⟩
        have h1' := more_below (Below.refl wr.heap.size wr).drew h1
        refine hK.out _ _ (hS _ h1') ?_
        clear hK K h1
        try simp only [Act.put, List.setIfInBounds_toArray, List.set_cons_zero, List.set_cons_succ]
        iterate 2 (refine p_take (v := ?_) rfl (by rfl) ?_ ?_; rotate_left; (intro w hS; obtain ⟨-, S1, S2, S3, S4, S5, S6⟩ := hS; go_simp; try with_reducible rfl); simp only [Act.put, List.setIfInBounds_toArray, List.set_cons_zero, List.set_cons_succ])
        refine p_done ⟨.slice (some ⟨b1, o1, none⟩) bs.length c1, .int .i64 k, .pointer (some ⟨b1, o1 + k * 3, none⟩), .pointer (some ⟨b1, o1 + k * 3, none⟩), .int .i64 bs[k].v, .slice (some ⟨b2, o2, none⟩) bs.length c2, .int .i64 k, .pointer (some ⟨b2, o2 + k * 3, none⟩), .pointer (some ⟨b2, o2 + k * 3, none⟩), .int .i64 bs[k].v, .bool false, .bool false, .slice (some ⟨b1, o1, none⟩) bs.length c1, .int .i64 k, .pointer (some ⟨b1, o1 + k * 3, none⟩), .pointer (some ⟨b1, o1 + k * 3 + 1, none⟩), .agg #[.int .i64 bs[k].t.h, .slice a1 bs[k].t.args.length d1], .slice (some ⟨b2, o2, none⟩) bs.length c2, .int .i64 k, .pointer (some ⟨b2, o2 + k * 3, none⟩), .pointer (some ⟨b2, o2 + k * 3 + 1, none⟩), .agg #[.int .i64 bs[k].t.h, .slice a2 bs[k].t.args.length d2], .bool true, .bool false, ?_, h1'⟩
        try simp only [Act.put, List.setIfInBounds_toArray, List.set_cons_zero, List.set_cons_succ]
        try rfl
      rintro _ W2 ⟨x17, x18, x19, x20, x21, x22, x23, x24, x25, x26, x27, x28, x29, x30, x31, x32, x33, x34, x35, x36, x37, x38, x39, x40, rfl, hW2⟩
      simp only [Act.put, List.setIfInBounds_toArray, List.set_cons_zero, List.set_cons_succ]
      have hB2 := hB.trans (hW2.mono hB.size)
      clear hS p0 p1 p2 q0 q1 q2 pt qt
      go_wp2
      go_roundw
      case rel => exact ⟨k + 1, by omega, by go_num, hB2⟩
      case measure => simp [intOf]; omega
    · obtain rfl : k = bs.length := by omega
      clear hlt hk
      go_wp2
      go_ret
      exact ⟨rfl, hB⟩
end Go.Proofs.Ythplndalbfcbbaa
