/- What the proof of the law rests on: contracts of the functions, plain laws, and words. -/
import Derived.Sort.OwnSortedInts
import Derived.Lib.SlicesCompact
import Derived.Lib.RowBridge
import Derived.Shelf.SlIterI.Nil
import Derived.Lib.AppendZerosOnto
import Derived.Lib.SliceRun
import Derived.Test.YthplndalbfcbbaaKMatchUnifiesG5
import Derived.Test.YthplndalbfcbbaaKMatchUnifiesG4
import Derived.Test.YthplndalbfcbbaaKMatchUnifiesG1
import Derived.Test.YthplndalbfcbbaaKMatchUnifiesG2
import Derived.Test.YthplndalbfcbbaaKMatchUnifiesG3
set_option linter.unusedSimpArgs false
set_option linter.unusedVariables false
namespace Go.Proofs.Ythplndalbfcbbaa
open Go.RowKit Go.Sort
def sortI (l : List Int) : List Int := l.mergeSort fun x y => decide (x ≤ y)
theorem sortI_length (l : List Int) : (sortI l).length = l.length := by simp [sortI]
theorem sortI_mem (l : List Int) (v : Int) : v ∈ sortI l ↔ v ∈ l := by simp [sortI]
theorem sortI_sorted (l : List Int) : (sortI l).Pairwise (· ≤ ·) := by
  have := List.pairwise_mergeSort (le := fun x y : Int => decide (x ≤ y)) (fun a b c h1 h2 => by simp at *; omega) (fun a b => by simp; omega) l
  exact this.imp fun h => by simpa using h
end Go.Proofs.Ythplndalbfcbbaa
set_option linter.unusedSimpArgs false
set_option linter.unusedVariables false
namespace Go.Proofs.Ythplndalbfcbbaa
open Go.RowKit
def hasB (n : Int) (l : List Int) : Bool := l.any fun x => x == n
theorem hasB_iff {n : Int} {l : List Int} : hasB n l = true ↔ n ∈ l := by simp [hasB]
theorem hasB_drop (n : Int) (l : List Int) (k : Nat) (h : k < l.length) : hasB n (l.drop k) = (l[k] == n || hasB n (l.drop (k + 1))) := by
  rw [hasB, hasB, List.drop_eq_getElem_cons h, List.any_cons]
set_option maxHeartbeats 1000000 in
theorem in_calls (n : Int) (l : List Int) (A : Nat → Prop) (s : Value) (w : World) (hs : Ints A w s l) :
    Calls Try.prog 40 #[.int .i64 n, s] w fun e w' => e = .returned (.bool (hasB n l)) ∧ Below w.heap.size w w' := by
  obtain ⟨a, c, rfl, hlc, hc⟩ := hs.shape
  have hl : l.length ≤ 9223372036854775807 := by omega
  have HG := hide (show hasB n (l.drop 0) = hasB n l by simp)
  go_enter Try.func40, Try.ntmps40
  go_wp2
  go_loopw [5] (fun i wr => ∃ (k : Nat), k ≤ l.length ∧ i = .int .i64 k ∧ Hid (hasB n (l.drop k) = hasB n l) ∧ Below w.heap.size w wr) (fun i _ => l.length - (intOf i).toNat)
  case atStart => exact ⟨0, by omega, rfl, HG, Below.refl _ _⟩
  case round =>
    obtain ⟨k, hk, rfl, hx, hB⟩ := hrel
    by_cases hlt : k < l.length
    · obtain ⟨b, off, rfl, hbs, hbA, g0⟩ := hs.get k hlt
      have hc1 := (hB.cell (p := ⟨b, off + k, none⟩) hbs).trans g0
      clear g0
      have hx2 := hx.out
      rw [hasB_drop _ _ _ hlt] at hx2
      cases hv : l[k] == n
      · have HX := hide (show hasB n (l.drop (k + 1)) = hasB n l by rw [← hx2, hv, Bool.false_or])
        clear hx hx2
        go_wp2
        go_roundw
        case rel => exact ⟨k + 1, by omega, by go_num, HX, hB⟩
        case measure => simp [intOf]; omega
      · have HX := hide (show true = hasB n l by rw [← hx2, hv, Bool.true_or])
        clear hx hx2
        go_wp2
        go_ret
        rw [← HX.out]
        exact ⟨rfl, hB⟩
    · have HX := hide (show false = hasB n l by have := hx.out; rw [List.drop_of_length_le (by omega)] at this; simpa [hasB] using this)
      clear hx
      go_wp2
      go_ret
      rw [← HX.out]
      exact ⟨rfl, hB⟩
end Go.Proofs.Ythplndalbfcbbaa
set_option linter.unusedSimpArgs false
set_option linter.unusedVariables false
namespace Go.Proofs.Ythplndalbfcbbaa
open Go.RowKit Go.Shelf
attribute [local go_sem] Oper.semAt_some
theorem flat_ints : ∀ l : List Int, (l.map fun n => [Value.int .i64 n]).flatten = l.map (Value.int .i64)
  | [] => rfl
  | x :: l => by rw [List.map_cons, List.flatten_cons, flat_ints l, List.map_cons]; rfl
theorem Ints.of_own {A : Nat → Prop} {w : World} {base e : Nat} {v : Value} {l : List Int} (h : w.ownsRow base e 1 v l.length (l.map (Value.int .i64))) (hA : ∀ b, v.ownBlock = some b → ¬ A b) : Ints A w v l := by
  simp only [Ints, RepD]
  rcases h.2 with ⟨hv, h0⟩ | ⟨g, cap, cur, hv, hg, hh, hn, hm, hs, ht⟩
  · exact ⟨none, 0, 0, by rw [hv], by simp [h0], by omega, by omega, by omega⟩
  · refine ⟨_, _, _, by rw [hv], by simp, hn, Nat.le_trans hn (by simpa [maxLen] using hm), fun h0 => ⟨g, 0, rfl, (Array.getElem?_eq_some_iff.1 hh).1, hA g (by rw [hv]; rfl), ?_⟩⟩
    have hfl := flat_ints l
    refine RepR.of (l.map fun n => [Value.int .i64 n]) _ 0 (by simp) (fun j hj => ?_) ?_
    · rw [hfl] at hj ⊢
      have := h.cells (g := g) (by rw [hv]; rfl) j ((l.map (Value.int .i64))[j]) (by simp)
      rw [add_plain] at this
      rw [Nat.zero_add, this, List.getElem?_eq_getElem hj]
    · clear hfl h hv hh hn hm hs ht h0 hA
      induction l with
      | nil => exact .nil
      | cons x l ih => exact .cons (by simp [intD, RepD]) ih
end Go.Proofs.Ythplndalbfcbbaa
set_option linter.unusedSimpArgs false
set_option linter.unusedVariables false
namespace Go.Proofs.Ythplndalbfcbbaa
open Go.RowKit Go.Maps Go.Sort Go.Shelf
theorem sortsA (m : Nat) : AnyZI.SortsIn Try.prog Try.sortedA_ren Fence.wide m :=
  ⟨fun blk off cap ss W hH hblk hsz => callsIn_wide.2 (Try.slices_Sort_int blk off cap ss W hH hblk hsz),
   fun p cap W => callsIn_wide.2 (Try.slices_Sort_int_none p cap W)⟩
theorem keys_calls (mb : Nat) (w : World) : Calls Try.prog 99 #[.map (some mb)] w fun e w' =>
    e = .returned (.func (.func 144) #[] #[.pointer (some ⟨w.heap.size, 0, none⟩)]) ∧ w' = w.alloc (.cells #[.map (some mb)] 97) :=
  callsIn_wide.1 (AnyZI.keys_in Try.keysA Fence.wide 5 trivial rfl (some mb) w)
theorem sorted_calls (mb : Nat) (f : Int → Option Value) (w : World) (h : MapAt w mb f) (hr : ∀ x v, f x = some v → 0 ≤ x ∧ x ≤ 255) :
    Calls Try.prog 98 #[.func (.func 144) #[] #[.pointer (some ⟨w.heap.size, 0, none⟩)]] (w.alloc (.cells #[.map (some mb)] 97)) fun e w' =>
      ∃ (v : Value) (vs : List Int), e = .returned v ∧ vs.Pairwise (· < ·) ∧ (∀ x, x ∈ vs ↔ ∃ u, f x = some u) ∧ Ints (fun _ => False) w' v vs ∧ Below w.heap.size w w' := by
  obtain ⟨D, hown, hk, hnd⟩ := h.owns (P := Try.prog) (k := 3) Try.underlying3 hr
  have hbl := hown.lt
  have hsz : Maps.size D ≤ 256 := hown.size_le
  refine (callsIn_wide (n := 5)).1 ?_
  have hseq : SeqGives Fence.wide 2 Try.prog 144 #[.pointer (some ⟨w.heap.size, 0, none⟩)] encZ (fun ss => ss.Perm (intKeys D)) (Maps.size D) (w.alloc (.cells #[.map (some mb)] 97)) :=
    AnyZI.keys_gives (ρ := Try.keysA_ren) { Try.keysA with } Fence.wide _ trivial rfl (by omega) w.heap.size mb 256 D _ (by simp) (by simp) (by
      obtain ⟨es, clock, hb, Ft, hs, hD⟩ := hown
      exact ⟨es, clock, (Below.heap_alloc _ _ mb hbl).trans hb, Ft, hs, hD⟩)
  have cS := AnyZI.sorted_in Try.sortedA Fence.wide 5 trivial trivial trivial trivial rfl (by omega) (sortsA _) (enters_of Try.func104 (by kernel_rfl) rfl) 144 #[.pointer (some ⟨w.heap.size, 0, none⟩)] trivial (enters_of Try.func144 (by kernel_rfl) rfl) _ _ (by unfold maxLen; omega) (by omega) _ hseq
  change CallsIn _ _ Try.prog 98 _ _ _ at cS
  refine cS.mono ?_
  rintro e w' ⟨v, ss, rfl, hS, hrow, hnil, hb⟩
  have hle := sortI_sorted ss
  have hn2 : (sortI ss).Nodup := ((List.mergeSort_perm ss _).trans hS).nodup_iff.2 hnd
  have hl : (sortI ss).length = ss.length := sortI_length ss
  refine ⟨v, sortI ss, rfl, ?_, fun x => ?_, ?_, ?_⟩
  · exact (hle.and (List.nodup_iff_pairwise_ne.1 hn2)).imp fun ⟨h1, h2⟩ => by omega
  · rw [sortI_mem, hS.mem_iff, hk]
  · refine Ints.of_own (base := (w.alloc (.cells #[.map (some mb)] 97)).heap.size) (e := 3) ?_ (fun b _ h => h)
    rw [hl]; exact hrow
  · exact ((Below.refl _ w).alloc (Nat.le_refl _) _).trans (hb.mono (by simp))
end Go.Proofs.Ythplndalbfcbbaa
set_option linter.unusedSimpArgs false
set_option linter.unusedVariables false
namespace Go.Proofs.Ythplndalbfcbbaa
open Go.RowKit
theorem wrong1_calls (t : Tm) (A : Nat → Prop) (h : Int) (s : Value) (w : World) (hs : IsTm A w h s t) (hsz : t.size ≤ 1000000000) :
    Calls Try.prog 141 #[.agg #[.int .i64 h, s]] w fun e w' => e = .returned (.bool (chk t != 0)) ∧ Below w.heap.size w w' := by
  obtain ⟨rfl, a, c, rfl, hc1, hc2⟩ := hs.shape
  go_enter Try.func141, Try.ntmps141
  have B0 : Below w.heap.size w (w.alloc (.cells #[.int .i64 t.h, .slice a t.args.length c] 25)) := (Below.refl _ _).alloc (Nat.le_refl _) _
  go_wp2_with fail
  refine (check_calls t A _ _ _ (hs.below B0) hsz).mono ?_
  rintro e w1 ⟨rfl, h1⟩
  have B1 := more_below B0 h1
  generalize hx : chk t = x at *
  have HX := hide hx
  clear hx
  go_wp2
  go_ret
  rw [HX.out]
  exact ⟨rfl, B1⟩
def badI : List Tm → Int → Int
  | [], _ => -1
  | t :: ts, k => if chk t = 0 then badI ts (k + 1) else k
theorem badI_drop (l : List Tm) (k : Nat) (h : k < l.length) : badI (l.drop k) k = if chk l[k] = 0 then badI (l.drop (k + 1)) ((k + 1 : Nat) : Int) else (k : Int) := by
  rw [List.drop_eq_getElem_cons h, badI]; rfl
theorem badI_all : ∀ (l : List Tm) (k : Int), 0 ≤ k → (decide (0 ≤ badI l k) = !l.all rightB)
  | [], k, _ => by simp [badI]
  | t :: ts, k, h => by
    have ih := badI_all ts (k + 1) (by omega)
    simp only [badI, List.all_cons]
    split
    · rename_i hc
      rw [show rightB t = true by simp [rightB, hc], Bool.true_and]
      exact ih
    · rename_i hc
      rw [show rightB t = false by simp [rightB, hc]]
      simp [h]
set_option maxHeartbeats 2000000 in
set_option maxRecDepth 100000 in
theorem indexf_calls (ts : List Tm) (A : Nat → Prop) (s : Value) (w : World) (hs : Terms A w s ts) (hsz : ∀ t, t ∈ ts → t.size ≤ 1000000000) :
    Calls Try.prog 151 #[s, .func (.func 141) #[] #[]] w fun e w' => e = .returned (.int .i64 (badI ts 0)) ∧ Below w.heap.size w w' := by
  obtain ⟨a, c, rfl, hlc, hc⟩ := hs.shape
  have hl : ts.length ≤ 9223372036854775807 := by omega
  have HSZ := hide hsz
  clear hsz
  have HG := hide (show badI (ts.drop 0) ((0 : Nat) : Int) = badI ts 0 by simp)
  go_enter Try.func151, Try.ntmps151
  go_wp2
  go_loopw [8] (fun i wr => ∃ (k : Nat), k ≤ ts.length ∧ i = .int .i64 k ∧ Hid (badI (ts.drop k) k = badI ts 0) ∧ Below w.heap.size w wr) (fun i _ => ts.length - (intOf i).toNat)
  case atStart => exact ⟨0, by omega, rfl, HG, Below.refl _ _⟩
  case round =>
    obtain ⟨k, hk, rfl, hx, hB⟩ := hrel
    by_cases hlt : k < ts.length
    · obtain ⟨b, off, a', c', rfl, g0, g1, gt⟩ := hs.getW hB k hlt
      have hz := HSZ.out ts[k] (List.getElem_mem hlt)
      have HX2 := hide (hx.out.symm.trans (badI_drop _ _ hlt))
      clear hx
      go_wp2_with fail
      refine (wrong1_calls ts[k] A _ _ _ gt hz).mono ?_
      rintro e w4 ⟨rfl, h4⟩
      have hB4 := more_below hB h4
      generalize chk ts[k] = x at *
      clear h4 hB g0 g1 gt
      by_cases hx : x = 0
      · have HX := hide (show badI (ts.drop (k + 1)) ((k + 1 : Nat) : Int) = badI ts 0 by rw [HX2.out, if_pos hx])
        subst hx
        clear HX2
        go_wp2
        go_roundw
        case rel => exact ⟨k + 1, by omega, by go_num, HX, hB4⟩
        case measure => simp [intOf]; omega
      · have HX := hide (show (k : Int) = badI ts 0 by rw [HX2.out, if_neg hx])
        have hne : (x != 0) = true := by simpa using hx
        clear hx HX2
        go_wp2
        go_ret
        rw [← HX.out]
        exact ⟨rfl, hB4⟩
    · have HX := hide (show -1 = badI ts 0 by have := hx.out; rw [List.drop_of_length_le (by omega)] at this; simpa [badI] using this)
      clear hx
      go_wp2
      go_ret
      rw [← HX.out]
      exact ⟨rfl, hB⟩
theorem wrong_calls (ts : List Tm) (A : Nat → Prop) (s : Value) (w : World) (hs : Terms A w s ts) (hsz : ∀ t, t ∈ ts → t.size ≤ 1000000000) :
    Calls Try.prog 96 #[s] w fun e w' => e = .returned (.bool (!ts.all rightB)) ∧ Below w.heap.size w w' := by
  obtain ⟨a, c, rfl, hlc, hc⟩ := hs.shape
  have HSZ := hide hsz
  have H9 := hide (badI_all ts 0 (by omega))
  clear hsz
  go_enter Try.func96, Try.ntmps96
  go_wp2_with fail
  go_enter Try.func114, Try.ntmps114
  go_wp2_with fail
  refine (indexf_calls ts A _ _ hs HSZ.out).mono ?_
  rintro e w1 ⟨rfl, h1⟩
  generalize badI ts 0 = x at *
  by_cases h0 : 0 ≤ x
  · have HY := hide (show true = !ts.all rightB by rw [← H9.out]; simp [h0])
    clear H9
    go_wp2
    go_ret
    rw [← HY.out]
    exact ⟨rfl, h1⟩
  · have HY := hide (show false = !ts.all rightB by rw [← H9.out]; simp [h0])
    clear H9
    go_wp2
    go_ret
    rw [← HY.out]
    exact ⟨by simp [h0], h1⟩
end Go.Proofs.Ythplndalbfcbbaa
set_option linter.unusedSimpArgs false
set_option linter.unusedVariables false
namespace Go.Proofs.Ythplndalbfcbbaa
open Go.RowKit
theorem binds1 {A : Nat → Prop} {W : World} {b : Nat} {T : TypeId} {s1 : Value} {b1 : Bd} (hb : W.heap[b]? = some (.cells #[.int .i64 b1.v, .int .i64 b1.t.h, s1] T (0, 0))) (hA : ¬ A b) (h1 : Terms A W s1 b1.t.args) : Binds A W (.slice (some ⟨b, 0, none⟩) 1 1) [b1] := by
  simp only [Binds, RepD]
  refine ⟨_, _, _, rfl, by simp, Nat.le_refl _, by omega, fun _ => ⟨b, 0, rfl, (Array.getElem?_eq_some_iff.1 hb).1, hA, ?_⟩⟩
  refine RepR.of [[.int .i64 b1.v, .int .i64 b1.t.h, s1]] _ 0 (by simp) (fun j hj => ?_) (.cons (repBd.2 ⟨s1, rfl, h1⟩) .nil)
  rw [Nat.zero_add]; simp only [World.cell?, hb]; simp
end Go.Proofs.Ythplndalbfcbbaa
set_option linter.unusedSimpArgs false
set_option linter.unusedVariables false
namespace Go.Proofs.Ythplndalbfcbbaa
open Go.RowKit
section
variable {P : Program} {W : World} {ops : Array Oper} {rest : List Oper} {o : Oper} {a : Act} {Q : Exit → Act → World → Prop} {k e t : TypeId} {b : Nat} {f : Int → Option Value}
theorem MapAt.look1 (h : MapAt W b f) (hk : P.underlying k = some (.int .i64)) (ht : P.underlying t = some (.map k e)) {z : Value} (hz : (zeroValue e).run P W = .ok z W) {x : Int} (h0 : -9223372036854775808 ≤ x) (h1 : x ≤ 9223372036854775807) :
    (Instr.lookup t (.map (some b)) (.int .i64 x) false).run P W = .ok ((f x).getD z) W := by
  obtain ⟨es, clock, hb, hkeys, huniq, hval, hdom, hst⟩ := h
  have K := Maps.int_keyed (P := P) hk
  have hkey := Maps.keyOf_int_mk hk (wf_i64 h0 h1)
  rcases K.find W hkey es.toList (fun e he => by obtain ⟨y, hy, hy0, hy1⟩ := hkeys e he; rw [hy]; exact ⟨_, Maps.keyOf_int_mk hk (wf_i64 hy0 hy1)⟩) with ⟨g1, g2⟩ | ⟨j, e0, g1, g2, g3⟩
  · have hf : f x = none := by
      cases hfx : f x with
      | none => rfl
      | some v => obtain ⟨e, he, hek⟩ := hdom x v hfx; exact absurd hek (g2 e he)
    simp [Instr.lookup, run_underlying ht, MapKept.run_getObj_map hb, K.check W _ hkey, g1, hz, Result.andThen, hf]
  · have hf := hval e0 (List.mem_of_getElem? g2) x g3
    simp [Instr.lookup, run_underlying ht, MapKept.run_getObj_map hb, K.check W _ hkey, g1, Result.andThen, hf]
theorem look1_pl (hg : o.guard = none) (m x : Operand) (t : TypeId) (hop : o.op = .lookup t m x false) (hk : P.underlying k = some (.int .i64)) (ht : P.underlying t = some (.map k e)) {z : Value} (hz : (zeroValue e).run P W = .ok z W)
    (b : Nat) (f : Int → Option Value) (hm : a.eval m = .map (some b)) (h : MapAt W b f) (y : Int) (hx : a.eval x = .int .i64 y) (h0 : -9223372036854775808 ≤ y) (h1 : y ≤ 9223372036854775807)
    (hK : wpList P ops Q rest (a.put o.dst ((f y).getD z)) W) : wpList P ops Q (o :: rest) a W := by
  refine wpList_plain hg fun K' hK' => ?_
  have hrun := h.look1 hk ht hz h0 h1
  unfold Oper.wp
  simp [execOp, hop, hm, hx, hrun, Result.andThen]
  exact hK' _ _ hK
end
theorem field_pl {P : Program} {W : World} {ops : Array Oper} {rest : List Oper} {o : Oper} {a : Act} {Q : Exit → Act → World → Prop} (hg : o.guard = none) (t : TypeId) (x : Operand) (i : Nat) (hop : o.op = .field t x i) (x0 v : Value) (hx : a.eval x = x0)
    (hrun : (Instr.field t x0 i).run P W = .ok v W) (hK : wpList P ops Q rest (a.put o.dst v) W) : wpList P ops Q (o :: rest) a W := by
  refine wpList_plain hg fun K' hK' => ?_
  unfold Oper.wp
  simp [execOp, hop, hx, hrun, Result.andThen]
  exact hK' _ _ hK
theorem fieldHead (W : World) (h s : Value) : (Instr.field 25 (.agg #[h, s]) 0).run Try.prog W = .ok h W := by kernel_rfl
theorem Terms.old {A : Nat → Prop} {w W : World} {s : Value} {ts : List Tm} {n : Nat} (h : Terms A w s ts) (hn : w.heap.size ≤ n) (hB : Below w.heap.size w W) : Terms (fun b => n ≤ b ∨ A b) W s ts :=
  RepD.frame (fun b _ hlt => hB.block b hlt) (fun b hb h => h.elim (fun h => by omega) id) _ _ h
set_option maxHeartbeats 8000000 in
set_option maxRecDepth 100000 in
theorem matchall_calls (A : Nat → Prop) (ps ts : List Tm) (s1 s2 : Value) (w : World) (hp9 : Tm.sizes ps ≤ 1000000000) (ht9 : Tm.sizes ts ≤ 1000000000) (hA : ∀ b, A b → b < w.heap.size) (hs : Terms A w s1 ps) (ht : Terms A w s2 ts) :
    Calls Try.prog 42 #[s1, s2] w fun e w' => ∃ v, e = .returned (.tuple #[v, .bool (matchT ps ts).2.1, .int .i64 (matchT ps ts).2.2]) ∧ Binds (A) w' v (matchT ps ts).1 ∧ Below w.heap.size w w' := by
  obtain ⟨a1, d1, rfl, hd1, hd1'⟩ := hs.shape
  obtain ⟨a2, d2, rfl, hd2, hd2'⟩ := ht.shape
  have HAO := hide hA
  have NILB := hide (fun W => (by simp only [Binds, RepD, List.map_nil]; exact ⟨none, 0, 0, rfl, rfl, by omega, by omega, by simp⟩ : Binds (A) W (.slice none 0 0) []))
  have HPS := hide (fun t (h : t ∈ ps) => (by obtain ⟨i, hi, rfl⟩ := List.getElem_of_mem h; exact Nat.le_trans (Tm.size_get ps i hi) hp9 : t.size ≤ 1000000000))
  have HTS := hide (fun t (h : t ∈ ts) => (by obtain ⟨i, hi, rfl⟩ := List.getElem_of_mem h; exact Nat.le_trans (Tm.size_get ts i hi) ht9 : t.size ≤ 1000000000))
  go_enter Try.func42, Try.ntmps42
  by_cases hlen : ps.length = ts.length
  rotate_left
  · have HM := hide (show matchT ps ts = ([], false, 1) by rw [matchT, if_neg (fun h => hlen h.1)])
    have hd : ((ps.length : Int) != ts.length) = true := by simp; omega
    clear hlen
    go_wp2
    exact bodyPost_ret (v := .tuple #[.slice none 0 0, .bool false, .int .i64 1]) (by simp [results, Try.results42, go_sem]) rfl ⟨_, by rw [HM.out], by rw [HM.out]; exact NILB.out _, Below.refl _ _⟩
  have hd : ((ps.length : Int) != ts.length) = false := by simp; omega
  have HL := hide hlen
  clear hlen
  go_wp2_with fail
  refine (wrong_calls ps (A) _ _ hs HPS.out).mono ?_
  rintro e w1 ⟨rfl, B1⟩
  cases hpr : ps.all rightB
  · have HM := hide (show matchT ps ts = ([], false, 1) by rw [matchT, if_neg (fun h => by rw [hpr] at h; exact absurd h.2.1 (by simp))])
    have HPR := hide hpr
    clear hpr
    simp only [Bool.not_false]
    go_wp2
    exact bodyPost_ret (v := .tuple #[.slice none 0 0, .bool false, .int .i64 1]) (by simp [results, Try.results42, go_sem]) rfl ⟨_, by rw [HM.out], by rw [HM.out]; exact NILB.out _, B1⟩
  have HPR := hide hpr
  clear hpr
  simp only [Bool.not_true]
  go_wp2_with fail
  refine (wrong_calls ts (A) _ _ (ht.below B1) HTS.out).mono ?_
  rintro e w2 ⟨rfl, h2⟩
  have B2 := more_below B1 h2
  clear h2 B1
  cases htr : ts.all rightB
  · have HM := hide (show matchT ps ts = ([], false, 1) by rw [matchT, if_neg (fun h => by rw [htr] at h; exact absurd h.2.2 (by simp))])
    have HTR := hide htr
    clear htr
    simp only [Bool.not_false]
    go_wp2
    exact bodyPost_ret (v := .tuple #[.slice none 0 0, .bool false, .int .i64 1]) (by simp [results, Try.results42, go_sem]) rfl ⟨_, by rw [HM.out], by rw [HM.out]; exact NILB.out _, B2⟩
  have HM := hide (show matchT ps ts = (match gatherL ps ts noE with | some f => (tidyT f, true, 0) | none => ([], false, 0)) by rw [matchT, if_pos ⟨HL.out, HPR.out, htr⟩]; rfl)
  have HTR := hide htr
  clear htr
  simp only [Bool.not_true]
  have hmm := @run_makeMap Try.prog
  go_wp2_with fail
  have hal : Below w2.heap.size w2 (w2.alloc (.map #[] 0)) := (Below.refl _ _).alloc (Nat.le_refl _) _
  have B3 := more_below B2 hal
  have hm0 : MapEnv (fun b => w2.heap.size ≤ b ∨ A b) (w2.alloc (.map #[] 0)) w2.heap.size noE := MapEnv.made _ _
  have hgo := goods_of_right HPR.out
  have hw2 := B2.size
  refine (gather_calls A ps ts w2.heap.size (.slice a1 ps.length d1) (.slice a2 ts.length d2) (w2.alloc (.map #[] 0)) HL.out hp9 ht9 hgo (by simp) (hs.old hw2 B3) (ht.old hw2 B3) hm0).mono ?_
  rintro e w4 ⟨C4, hm4, ⟨f, hf, rfl, hme⟩ | ⟨hf, rfl⟩⟩
  rotate_left
  · have HM2 := hide (show matchT ps ts = ([], false, 0) by rw [HM.out, hf])
    have B4 : Below w.heap.size w w4 := B3.trans (C4.mono hw2)
    clear hf HM
    go_wp2
    exact bodyPost_ret (v := .tuple #[.slice none 0 0, .bool false, .int .i64 0]) (by simp [results, Try.results42, go_sem]) rfl ⟨_, by rw [HM2.out], by rw [HM2.out]; exact NILB.out _, B4⟩
  have B4 : Below w.heap.size w w4 := B3.trans (C4.mono hw2)
  have HMR := hide (show matchT ps ts = (tidyT f, true, 0) by rw [HM.out, hf])
  have HDOM := hide (gatherL_dom ps ts noE f hgo hf (fun v u h => by cases h))
  have hb4 : w2.heap.size < w4.heap.size := by rw [World.size_alloc] at hm4; omega
  generalize hmb : w2.heap.size = mb at *
  obtain ⟨F, hF, hFv⟩ := hme
  have HFV := hide hFv
  have HR := hide (show ∀ x v, F x = some v → 0 ≤ x ∧ x ≤ 255 from fun x v hx => by
    cases hfx : f x with
    | none => rw [(hFv x).1 hfx] at hx; cases hx
    | some t => exact HDOM.out x t hfx)
  have HFW := hide hF
  clear hf HM hFv C4 hm4 hm0 hal B3 B2 hgo hmb hw2 hF
  go_wp2_with fail
  refine (keys_calls mb w4).mono ?_
  rintro e w5 ⟨rfl, hw5⟩
  subst hw5
  go_wp2_with fail
  refine (sorted_calls mb F w4 HFW.out HR.out).mono ?_
  rintro e w6 ⟨vv, vs, rfl, hvs, hvm, iv, h6⟩
  have B6 := more_below B4 h6
  have HFA := hide (HFW.out.below h6)
  have HTER := hide (show ∀ x t, f x = some t → ∃ s, F x = some (.agg #[.int .i64 t.h, s]) ∧ Terms (fun b => mb ≤ b ∨ A b) w6 s t.args from fun x t h => by
    obtain ⟨s, h1, h2⟩ := (HFV.out x).2 t h
    exact ⟨s, h1, h2.below h6⟩)
  have HVM := hide (show ∀ x, x ∈ vs ↔ ∃ t, f x = some t from fun x => by
    rw [hvm x]
    constructor
    · rintro ⟨u, hu⟩
      cases hfx : f x with
      | none => rw [(HFV.out x).1 hfx] at hu; cases hu
      | some t => exact ⟨t, rfl⟩
    · rintro ⟨t, ht⟩
      obtain ⟨s, h1, _⟩ := (HFV.out x).2 t ht
      exact ⟨_, h1⟩)
  have HTD := hide (tidy_dom hvs HVM.out HDOM.out)
  have hvl : vs.length ≤ 256 := pigeon 256 vs (List.nodup_iff_pairwise_ne.2 (hvs.imp fun h => by omega)) fun x hx => by
    obtain ⟨t, ht⟩ := (HVM.out x).1 hx
    have := HDOM.out x t ht
    exact ⟨this.1, by have := this.2; omega⟩
  obtain ⟨av, cv, rfl, hcv, hcv'⟩ := iv.shape
  have hmb6 : mb < w6.heap.size := by have := h6.size; omega
  clear hvs hvm h6 B4 HFW HFV
  go_wp2
  go_loopw [8, 34] (fun v i wr => ∃ k : Nat, k ≤ vs.length ∧ i = .int .i64 k ∧ Below w6.heap.size w6 wr ∧ OwnD (A) wr w6.heap.size 60 3 v (((vs.take k).filterMap (bindOf f)).map Bd.d)) (fun _ i _ => vs.length - (intOf i).toNat)
  case atStart => exact ⟨0, by omega, rfl, Below.refl _ _, by simpa using OwnD.nil _ _ _ _ _⟩
  case round =>
    obtain ⟨k, hk, rfl, hB, hO⟩ := hrel
    by_cases hlt : k < vs.length
    · obtain ⟨b, off, rfl, hbs, -, g0⟩ := iv.get k hlt
      have q1 := (hB.cell (p := ⟨b, off + k, none⟩) hbs).trans g0
      obtain ⟨t, htk⟩ := (HVM.out vs[k]).1 (List.getElem_mem hlt)
      have hr := HDOM.out vs[k] t htk
      obtain ⟨hr0, hr1⟩ := hr
      obtain ⟨st, hFk, tt⟩ := HTER.out vs[k] t htk
      obtain ⟨at', ct, rfl, -, -⟩ := tt.shape
      have HFX := hide hFk
      have HSN := hide (bindOf_snoc (f := f) hlt htk)
      have HFA1 := hide (HFA.out.below hB)
      have hw1 : IntKind.i64.wrap (-1 - vs[k]) = -1 - vs[k] := IntWalk.i64_in _ (by omega)
      have ttr := tt.below hB
      clear g0 htk hFk
      by_cases hmv : t.h = -1 - vs[k]
      · have HNM := hide (show (vs.take (k + 1)).filterMap (bindOf f) = (vs.take k).filterMap (bindOf f) by rw [HSN.out, if_neg (by simpa using hmv), List.append_nil])
        have hd : (t.h != -1 - vs[k]) = false := by simpa using hmv
        clear hmv HSN
        go_wp2_with (first | (at_lookup; refine look1_pl rfl _ _ 97 rfl Try.underlying3 Try.underlying97 (zeroTerm _) mb F rfl HFA1.out vs[k] rfl (by omega) (by omega) ?_; rw [HFX.out]) | (refine field_pl rfl 25 (.tmp 40) 0 rfl (.agg #[.int .i64 t.h, .slice at' t.args.length ct]) (.int .i64 t.h) rfl (fieldHead _ _ _) ?_))
        go_roundw
        case rel => exact ⟨k + 1, by omega, by go_num, hB, by rw [HNM.out]; exact hO⟩
        case measure => simp [intOf]; omega
      · have HNM := hide (show (vs.take (k + 1)).filterMap (bindOf f) = (vs.take k).filterMap (bindOf f) ++ [⟨vs[k], t⟩] by rw [HSN.out, if_pos (by simpa using hmv)])
        have hd : (t.h != -1 - vs[k]) = true := by simpa using hmv
        have hal : Below wr.heap.size wr (wr.alloc (.cells #[.int .i64 vs[k], .int .i64 t.h, .slice at' t.args.length ct] 60)) := (Below.refl _ _).alloc (Nat.le_refl _) _
        have kb := World.alloc_heap_new wr (.cells #[.int .i64 vs[k], .int .i64 t.h, .slice at' t.args.length ct] 60)
        have hlt12 := hO.lt
        have HD := hide (show RepD (fun b => A b ∨ u8.ownBlock = some b) (wr.alloc (.cells #[.int .i64 vs[k], .int .i64 t.h, .slice at' t.args.length ct] 60)) (.row 3 (([⟨vs[k], t⟩] : List Bd).map Bd.d)) [.slice (some ⟨wr.heap.size, 0, none⟩) 1 1] from
          binds1 (b1 := ⟨vs[k], t⟩) kb (fun h => by
            rcases h with h | h
            · have := HAO.out _ h; have := B6.size; have := hB.size; omega
            · have := hlt12 _ h; omega) (RepD.frame (fun b _ hlt => hal.block b hlt) (fun b hb h => by
            rcases h with h | h
            · exact .inr h
            · exact .inl (by have := hlt12 b h; omega)) _ _ ttr))
        have HO12 := hide (hO.below hal)
        have hbl : ((vs.take k).filterMap (bindOf f)).length ≤ 256 := Nat.le_trans (List.length_filterMap_le _ _) (by rw [List.length_take]; omega)
        have HBASE := hide (show w6.heap.size ≤ (wr.alloc (.cells #[.int .i64 vs[k], .int .i64 t.h, .slice at' t.args.length ct] 60)).heap.size from Nat.le_trans hB.size hal.size)
        have HB12 := hide (hB.trans (hal.mono hB.size))
        clear hmv HSN hal hlt12 kb hO
        go_wp2_with (first | (at_lookup; refine look1_pl rfl _ _ 97 rfl Try.underlying3 Try.underlying97 (zeroTerm _) mb F rfl HFA1.out vs[k] rfl (by omega) (by omega) ?_; rw [HFX.out]) | (refine field_pl rfl 25 (.tmp 40) 0 rfl (.agg #[.int .i64 t.h, .slice at' t.args.length ct]) (.int .i64 t.h) rfl (fieldHead _ _ _) ?_) | (at_builtin; refine app_all_pl rfl (.tmp 45) (.tmp 51) 22 rfl w6.heap.size 60 (.agg #[.int .i64 0, .int .i64 0, .slice none 0 0]) 3 40 Try.underlying22 (by kernel_rfl) rfl (by decide) (v := u8) (xv := .slice (some ⟨wr.heap.size, 0, none⟩) 1 1) rfl rfl HO12.out HD.out (fun d hd => by obtain ⟨z, -, rfl⟩ := List.mem_map.1 hd; exact Bd.oneD z) (by simp [maxLen]; omega) (by simp; omega) HBASE.out ?_; intro v' w' o' kp ob hsh))
        go_roundw
        case rel =>
          refine ⟨k + 1, by omega, by go_num, HB12.out.trans (kp.below (fun b hb h => by have := (HO12.out.lt b h).1; omega) HBASE.out), ?_⟩
          rw [HNM.out, List.map_append]; exact o'
        case measure => simp [intOf]; omega
    · obtain rfl : k = vs.length := by omega
      rw [List.take_length, HTD.out] at hO
      have hR : Binds (A) wr u8 (tidyT f) := hO.rep (fun b h => by have := HAO.out b h; have := B6.size; omega)
      have hBw := more_below B6 hB
      obtain ⟨ar, cr, rfl, -, -⟩ := hR.shape
      clear hO hlt hk
      go_wp2
      exact bodyPost_ret (v := .tuple #[.slice ar (tidyT f).length cr, .bool true, .int .i64 0]) (by simp [results, Try.results42, go_sem]) rfl ⟨_, by rw [HMR.out], by rw [HMR.out]; exact hR, hBw⟩
end Go.Proofs.Ythplndalbfcbbaa
set_option linter.unusedSimpArgs false
set_option linter.unusedVariables false
namespace Go.Proofs.Ythplndalbfcbbaa
open Go.RowKit
set_option maxHeartbeats 4000000 in
set_option maxRecDepth 100000 in
theorem same3_calls (bs : List Bd) (A A2 : Nat → Prop) (s s2 : Value) (w : World) (hsz : ∀ b, b ∈ bs → b.t.size ≤ 1000000000) (hs : Binds A w s bs) (hs2 : Binds A2 w s2 bs) :
    Calls Try.prog 45 #[s, s2] w fun e w' => e = .returned (.bool true) ∧ Below w.heap.size w w' := by
  obtain ⟨a, c1, rfl, hc1, hc1'⟩ := hs.shape
  obtain ⟨a', c2, rfl, hc2, hc2'⟩ := hs2.shape
  have HSZ := hide hsz
  clear hsz
  have hl : bs.length ≤ 9223372036854775807 := by omega
  go_enter Try.func45, Try.ntmps45
  go_wp2
  go_loopw [5] (fun i wr => ∃ k : Nat, k ≤ bs.length ∧ i = .int .i64 k ∧ Below w.heap.size w wr) (fun i _ => bs.length - (intOf i).toNat)
  case atStart => exact ⟨0, by omega, rfl, Below.refl _ _⟩
  case round =>
    obtain ⟨k, hk, rfl, hB⟩ := hrel
    by_cases hlt : k < bs.length
    · obtain ⟨b1, o1, a1, d1, rfl, p0, p1, p2, pt⟩ := hs.getW hB k hlt
      obtain ⟨b2, o2, a2, d2, rfl, q0, q1, q2, qt⟩ := hs2.getW hB k hlt
      have hb1 : b1 < wr.heap.size := World.block_lt_of_cell? wr _ p0
      have hb2 : b2 < wr.heap.size := World.block_lt_of_cell? wr _ q0
      have hm := HSZ.out bs[k] (List.getElem_mem hlt)
      have hi0 : (k : Int) < bs.length := by omega
      go_wp2
      have hS : ∀ W', Below wr.heap.size wr W' → Below wr.heap.size wr W' ∧ W'.cell? ⟨b1, o1 + k * 3, none⟩ = some (.int .i64 bs[k].v) ∧ W'.cell? ⟨b1, o1 + k * 3 + 1, none⟩ = some (.int .i64 bs[k].t.h) ∧ W'.cell? ⟨b1, o1 + k * 3 + 2, none⟩ = some (.slice a1 bs[k].t.args.length d1) ∧ W'.cell? ⟨b2, o2 + k * 3, none⟩ = some (.int .i64 bs[k].v) ∧ W'.cell? ⟨b2, o2 + k * 3 + 1, none⟩ = some (.int .i64 bs[k].t.h) ∧ W'.cell? ⟨b2, o2 + k * 3 + 2, none⟩ = some (.slice a2 bs[k].t.args.length d2) := fun W' hW =>
        ⟨hW, (hW.cell (p := ⟨b1, o1 + k * 3, none⟩) hb1).trans p0, (hW.cell (p := ⟨b1, o1 + k * 3 + 1, none⟩) hb1).trans p1, (hW.cell (p := ⟨b1, o1 + k * 3 + 2, none⟩) hb1).trans p2, (hW.cell (p := ⟨b2, o2 + k * 3, none⟩) hb2).trans q0, (hW.cell (p := ⟨b2, o2 + k * 3 + 1, none⟩) hb2).trans q1, (hW.cell (p := ⟨b2, o2 + k * 3 + 2, none⟩) hb2).trans q2⟩
      refine cut_cap (fun a0 a' w' => ∃ x17 x18 x19 x20 x21 x22 x23 x24 x25 x26 x27 x28 x29 x30 x31 x32 x33 x34 x35 x36 x37 x38 x39 x40, a' = ((((((((((((((((((((((((a0.put (some 17) x17).put (some 18) x18).put (some 19) x19).put (some 20) x20).put (some 21) x21).put (some 22) x22).put (some 23) x23).put (some 24) x24).put (some 25) x25).put (some 26) x26).put (some 27) x27).put (some 28) x28).put (some 29) x29).put (some 30) x30).put (some 31) x31).put (some 32) x32).put (some 33) x33).put (some 34) x34).put (some 35) x35).put (some 36) x36).put (some 37) x37).put (some 38) x38).put (some 39) x39).put (some 40) x40).put (some 41) (.bool false) ∧ Below wr.heap.size wr w') ?_ ?_
      · refine drawn_two (fun W' => Below wr.heap.size wr W' ∧ W'.cell? ⟨b1, o1 + k * 3, none⟩ = some (.int .i64 bs[k].v) ∧ W'.cell? ⟨b1, o1 + k * 3 + 1, none⟩ = some (.int .i64 bs[k].t.h) ∧ W'.cell? ⟨b1, o1 + k * 3 + 2, none⟩ = some (.slice a1 bs[k].t.args.length d1) ∧ W'.cell? ⟨b2, o2 + k * 3, none⟩ = some (.int .i64 bs[k].v) ∧ W'.cell? ⟨b2, o2 + k * 3 + 1, none⟩ = some (.int .i64 bs[k].t.h) ∧ W'.cell? ⟨b2, o2 + k * 3 + 2, none⟩ = some (.slice a2 bs[k].t.args.length d2)) [.take 0, .take 1, .take 2, .take 3, .take 4, .take 5, .take 6, .take 7, .take 8, .take 9, .take 10, .take 11, .take 12, .take 13, .take 14, .take 15, .take 16, .take 17, .take 18, .take 19, .take 20, .take 21, .one 22, .take 23, .take 24] (by kernel_rfl) (by kernel_rfl) (by kernel_rfl) (by kernel_rfl) (fun _ _ _ _ _ h => h) (hS _ (Below.refl _ _).drew) ?_
        clear p0 p1 p2 q0 q1 q2
        iterate 22 (refine p_take (v := ?_) rfl (by rfl) ?_ ?_; rotate_left; (intro w hS; obtain ⟨-, S1, S2, S3, S4, S5, S6⟩ := hS; go_simp; try with_reducible rfl); simp only [Act.put, List.setIfInBounds_toArray, List.set_cons_zero, List.set_cons_succ])
        refine p_one rfl (by rfl) ?_
        intro K hK
        go_simp
        refine (same_calls bs[k].t bs[k].t A A2 _ _ _ _ _ hm hm (pt.below (Below.refl _ _).drew) (qt.below (Below.refl _ _).drew)).mono ?_
        rw [sameB_self]
        rintro e x1 ⟨rfl, h1⟩
        have h1' := more_below (Below.refl wr.heap.size wr).drew h1
        refine hK.out _ _ (hS _ h1') ?_
        clear hK K h1
        try simp only [Act.put, List.setIfInBounds_toArray, List.set_cons_zero, List.set_cons_succ]
        iterate 2 (refine p_take (v := ?_) rfl (by rfl) ?_ ?_; rotate_left; (intro w hS; obtain ⟨-, S1, S2, S3, S4, S5, S6⟩ := hS; go_simp; try with_reducible rfl); simp only [Act.put, List.setIfInBounds_toArray, List.set_cons_zero, List.set_cons_succ])
        refine p_done ⟨.slice (some ⟨b1, o1, none⟩) bs.length c1, .int .i64 k, .pointer (some ⟨b1, o1 + k * 3, none⟩), .pointer (some ⟨b1, o1 + k * 3, none⟩), .int .i64 bs[k].v, .slice (some ⟨b2, o2, none⟩) bs.length c2, .int .i64 k, .pointer (some ⟨b2, o2 + k * 3, none⟩), .pointer (some ⟨b2, o2 + k * 3, none⟩), .int .i64 bs[k].v, .bool false, .bool false, .slice (some ⟨b1, o1, none⟩) bs.length c1, .int .i64 k, .pointer (some ⟨b1, o1 + k * 3, none⟩), .pointer (some ⟨b1, o1 + k * 3 + 1, none⟩), .agg #[.int .i64 bs[k].t.h, .slice a1 bs[k].t.args.length d1], .slice (some ⟨b2, o2, none⟩) bs.length c2, .int .i64 k, .pointer (some ⟨b2, o2 + k * 3, none⟩), .pointer (some ⟨b2, o2 + k * 3 + 1, none⟩), .agg #[.int .i64 bs[k].t.h, .slice a2 bs[k].t.args.length d2], .bool true, .bool false, ?_, h1'⟩
        try simp only [Act.put, List.setIfInBounds_toArray, List.set_cons_zero, List.set_cons_succ]
        try rfl
      rintro _ W2 ⟨x17, x18, x19, x20, x21, x22, x23, x24, x25, x26, x27, x28, x29, x30, x31, x32, x33, x34, x35, x36, x37, x38, x39, x40, rfl, hW2⟩
      simp only [Act.put, List.setIfInBounds_toArray, List.set_cons_zero, List.set_cons_succ]
      have hB2 := hB.trans (hW2.mono hB.size)
      clear hS p0 p1 p2 q0 q1 q2 pt qt
      go_wp2
      go_roundw
      case rel => exact ⟨k + 1, by omega, by go_num, hB2⟩
      case measure => simp [intOf]; omega
    · obtain rfl : k = bs.length := by omega
      clear hlt hk
      go_wp2
      go_ret
      exact ⟨rfl, hB⟩
end Go.Proofs.Ythplndalbfcbbaa
