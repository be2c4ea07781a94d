/- What the proof of the law rests on: contracts of the functions, plain laws, and words. -/
import Derived.Test.YthplndalbfcbbaaKMatchUnifiesXSolver
set_option linter.unusedSimpArgs false
set_option linter.unusedVariables false
namespace Go.Proofs.Ythplndalbfcbbaa
open Go.RowKit
def KnAt (T : TypeId) (w : World) (kb lo : Nat) (F : Int → Option Value) : Prop :=
  ∃ m : Option Nat, w.heap[kb]? = some (.cells #[.map m] T (0, 0)) ∧ (m = none → ∀ x, F x = none) ∧ ∀ mb, m = some mb → MapAt w mb F ∧ lo < mb
structure KStep (kb : Nat) (w w' : World) : Prop where
  keep : Keep (fun b => b ≠ kb ∧ w.cell? ⟨kb, 0, none⟩ ≠ some (.map (some b))) w w'
  map : ∀ mb, w'.cell? ⟨kb, 0, none⟩ = some (.map (some mb)) → w.cell? ⟨kb, 0, none⟩ = some (.map (some mb)) ∨ w.heap.size ≤ mb
  stay : ∀ mb, w.cell? ⟨kb, 0, none⟩ = some (.map (some mb)) → w'.cell? ⟨kb, 0, none⟩ = some (.map (some mb))
theorem KStep.trans {kb : Nat} {a b c : World} (h : KStep kb a b) (k : KStep kb b c) : KStep kb a c where
  keep := ⟨k.keep.os.trans h.keep.os, k.keep.tape.trans h.keep.tape, k.keep.output.trans h.keep.output, Nat.le_trans h.keep.size k.keep.size, fun x hx hs => (k.keep.block x (by have := h.keep.size; omega) ⟨hs.1, fun e => (h.map x e).elim hs.2 fun hle => by omega⟩).trans (h.keep.block x hx hs)⟩
  map := fun mb e => (k.map mb e).elim (h.map mb) fun hle => .inr (by have := h.keep.size; omega)
  stay := fun mb e => k.stay mb (h.stay mb e)
theorem KStep.of_below {kb : Nat} {w w' : World} (hB : Below w.heap.size w w') (hk : kb < w.heap.size) : KStep kb w w' := by
  have e : w'.cell? ⟨kb, 0, none⟩ = w.cell? ⟨kb, 0, none⟩ := by simp only [World.cell?, hB.block kb hk]
  exact ⟨.of_below hB, fun mb h => .inl (e ▸ h), fun mb h => e ▸ h⟩
def Boxed (kb : Nat) (w : World) (b : Nat) (o : Obj) : Prop := w.heap[b]? = some o ∧ b ≠ kb ∧ w.cell? ⟨kb, 0, none⟩ ≠ some (.map (some b))
theorem Boxed.step {kb b : Nat} {w w' : World} {o : Obj} (h : Boxed kb w b o) (k : KStep kb w w') : Boxed kb w' b o :=
  ⟨k.keep.obj ⟨h.2.1, h.2.2⟩ h.1, h.2.1, fun e => (k.map b e).elim h.2.2 fun hle => by have := (Array.getElem?_eq_some_iff.1 h.1).1; omega⟩
theorem KnAt.lt {T : TypeId} {w : World} {kb lo : Nat} {F : Int → Option Value} (h : KnAt T w kb lo F) : kb < w.heap.size := by
  obtain ⟨m, h, -⟩ := h
  exact (Array.getElem?_eq_some_iff.1 h).1
theorem KnAt.mlt {T : TypeId} {w : World} {kb lo : Nat} {F : Int → Option Value} (h : KnAt T w kb lo F) {b : Nat} (hc : w.cell? ⟨kb, 0, none⟩ = some (.map (some b))) : b < w.heap.size ∧ lo < b := by
  obtain ⟨m, h, -, h2⟩ := h
  rw [(box1 h).2.1] at hc
  simp only [Option.some.injEq, Value.map.injEq] at hc
  obtain ⟨h3, h4⟩ := h2 b hc
  exact ⟨h3.lt, h4⟩
theorem KnAt.boxed {T : TypeId} {w w' : World} {kb lo : Nat} {F : Int → Option Value} (h : KnAt T w kb lo F) {b : Nat} {o : Obj} (hB : Below w.heap.size w w') (hb : w'.heap[b]? = some o) (hn : w.heap.size ≤ b) : Boxed kb w' b o := by
  have hlt := h.lt
  refine ⟨hb, by omega, fun e => ?_⟩
  have e2 : w'.cell? ⟨kb, 0, none⟩ = w.cell? ⟨kb, 0, none⟩ := by simp only [World.cell?, hB.block kb hlt]
  rw [e2] at e
  have := (h.mlt e).1
  omega
theorem KnAt.below {T : TypeId} {w w' : World} {kb lo : Nat} {F : Int → Option Value} (h : KnAt T w kb lo F) (hB : Below w.heap.size w w') : KnAt T w' kb lo F := by
  obtain ⟨m, h1, h2, h3⟩ := h
  refine ⟨m, (hB.block kb (Array.getElem?_eq_some_iff.1 h1).1).trans h1, h2, fun mb hm => ⟨(h3 mb hm).1.keep (S := fun _ => True) (.of_below hB) trivial, (h3 mb hm).2⟩⟩
theorem KStep.low {T : TypeId} {w w' : World} {kb lo : Nat} {F : Int → Option Value} (h : KStep kb w w') (hk : KnAt T w kb lo F) (hlo : lo < kb) : Keep (fun b => b ≤ lo) w w' :=
  h.keep.mono fun b _ hb => ⟨by omega, fun e => by have := (hk.mlt e).2; omega⟩
theorem KnAt.made {T : TypeId} {w : World} {kb lo : Nat} {F : Int → Option Value} (h1 : w.heap[kb]? = some (.cells #[.map none] T (0, 0))) (hF : ∀ x, F x = none) (hlo : lo < w.heap.size) (hk : kb < w.heap.size) :
    KnAt T ((w.setCell ⟨kb, 0, none⟩ (.map (some w.heap.size))).alloc (.map #[] 0)) kb lo F ∧ KStep kb w ((w.setCell ⟨kb, 0, none⟩ (.map (some w.heap.size))).alloc (.map #[] 0)) ∧ ((w.setCell ⟨kb, 0, none⟩ (.map (some w.heap.size))).alloc (.map #[] 0)).cell? ⟨kb, 0, none⟩ = some (.map (some w.heap.size)) := by
  have hn : (w.setCell ⟨kb, 0, none⟩ (.map (some w.heap.size))).heap[kb]? = some (.cells #[.map (some w.heap.size)] T (0, 0)) := by
    simp [World.setCell, Array.getElem?_modify, h1]
  have hz : (w.setCell ⟨kb, 0, none⟩ (.map (some w.heap.size))).heap.size = w.heap.size := by simp [World.setCell]
  have hs : ((w.setCell ⟨kb, 0, none⟩ (.map (some w.heap.size))).alloc (.map #[] 0)).heap[kb]? = some (.cells #[.map (some w.heap.size)] T (0, 0)) := (Below.heap_alloc _ _ _ (by omega)).trans hn
  have hk2 : Keep (fun b => b ≠ kb) w ((w.setCell ⟨kb, 0, none⟩ (.map (some w.heap.size))).alloc (.map #[] 0)) := ((Keep.refl _ w).setCell (p := ⟨kb, 0, none⟩) (by simp) _).alloc _
  have hm := MapAt.made0 (w.setCell ⟨kb, 0, none⟩ (.map (some w.heap.size)))
  rw [hz] at hm
  have hF' : F = numF [] := by funext x; rw [hF x]; simp [numF]
  refine ⟨⟨_, hs, (fun h => by cases h), fun mb e => ?_⟩, ⟨hk2.mono fun b _ hb => hb.1, fun mb e => ?_, fun mb e => ?_⟩, (box1 hs).2.1⟩
  · cases e
    refine ⟨?_, hlo⟩
    rw [hF']
    exact hm
  · rw [(box1 hs).2.1] at e
    simp only [Option.some.injEq, Value.map.injEq] at e
    exact .inr (by omega)
  · rw [(box1 h1).2.1] at e
    simp at e
theorem KnAt.told {T : TypeId} {w w' : World} {kb lo mb : Nat} {F G : Int → Option Value} (h : KnAt T w kb lo F) (hc : w.cell? ⟨kb, 0, none⟩ = some (.map (some mb))) (hm : MapAt w' mb G) (hk : Keep (fun c => c ≠ mb) w w') : KnAt T w' kb lo G ∧ KStep kb w w' := by
  obtain ⟨m, h1, h2, h3⟩ := h
  have e := hc
  rw [(box1 h1).2.1] at e
  simp only [Option.some.injEq, Value.map.injEq] at e
  subst e
  obtain ⟨k1, k2⟩ := h3 mb rfl
  have hne : kb ≠ mb := fun e => by
    obtain ⟨es, cl, k1, -⟩ := k1
    rw [← e, h1] at k1; cases k1
  have h1' := hk.obj hne h1
  have ec : w'.cell? ⟨kb, 0, none⟩ = some (.map (some mb)) := (box1 h1').2.1
  refine ⟨⟨_, h1', (fun h => by cases h), fun mb' e => by cases e; exact ⟨hm, k2⟩⟩, ⟨hk.mono fun b _ hb e => hb.2 (e ▸ hc), fun mb' e => .inl ?_, fun mb' e => ?_⟩⟩
  · rw [ec] at e; rw [hc]; exact e
  · rw [hc] at e; rw [ec]; exact e
theorem KnAt.cellOf {T : TypeId} {w : World} {kb lo mb : Nat} {F : Int → Option Value} (h : KnAt T w kb lo F) (hc : w.cell? ⟨kb, 0, none⟩ = some (.map (some mb))) : w.heap[kb]? = some (.cells #[.map (some mb)] T (0, 0)) ∧ MapAt w mb F := by
  obtain ⟨m, h1, h2, h3⟩ := h
  have e := hc
  rw [(box1 h1).2.1] at e
  simp only [Option.some.injEq, Value.map.injEq] at e
  subst e
  exact ⟨h1, (h3 mb rfl).1⟩
def TellPost (T : TypeId) (kb lo : Nat) (x : Value) (Q : (Int → Option Value) → Prop) (w1 : World) (e : Ending) (w2 : World) : Prop :=
  e = .returned x ∧ ∃ F2, Q F2 ∧ KStep kb w1 w2 ∧ KnAt T w2 kb lo F2
def OfPost (T : TypeId) (kb lo : Nat) (n : Int) (F : Int → Option Value) (x : Value) (Q : (Int → Option Value) → Prop) (w : World) (e : Ending) (w' : World) : Prop :=
  ∃ F', KStep kb w w' ∧ KnAt T w' kb lo F' ∧ ((∃ v, F n = some v ∧ e = .returned v ∧ F' = F) ∨ (F n = none ∧ e = .returned x ∧ ∃ F2, Q F2 ∧ F' = fun z => if z = n then some x else F2 z))
theorem zeroBool (W : World) : (zeroValue 4).run Try.prog W = .ok (.bool false) W := by kernel_rfl
set_option maxHeartbeats 4000000 in
set_option maxRecDepth 100000 in
theorem ofB_calls (kb lo : Nat) (n : Int) (F : Int → Option Value) (xb : Bool) (Q : (Int → Option Value) → Prop) (p0 p1 : Value) (w : World) (h0 : 0 ≤ n) (h1 : n ≤ 255) (hlo : lo < kb) (hsh : ∀ y v, F y = some v → ∃ b, v = .bool b) (hk : KnAt 236 w kb lo F)
    (hT : ∀ w1, KStep kb w w1 → KnAt 236 w1 kb lo F → F n = none → Calls Try.prog 203 #[p0, p1] w1 fun e w2 => TellPost 236 kb lo (.bool xb) Q w1 e w2) :
    Calls Try.prog 202 #[.pointer (some ⟨kb, 0, none⟩), .int .i64 n, .func (.func 203) #[] #[p0, p1]] w fun e w' => OfPost 236 kb lo n F (.bool xb) Q w e w' := by
  have HK := hide hk
  have HT := hide hT
  have hlt := hk.lt
  obtain ⟨m, hm, hm0, hm1⟩ := hk
  obtain ⟨-, hm2, hm3⟩ := box1 hm
  have HM0 := hide hm0
  have HM1 := hide hm1
  have HM := hide hm
  have HSH := hide hsh
  have hmm := @run_makeMap Try.prog
  have he1 : ∀ W, (binOp .eql 234 (.map none) (.map none)).run Try.prog W = .ok (.bool true) W := fun W => by kernel_rfl
  have he2 : ∀ b W, (binOp .eql 234 (.map (some b)) (.map none)).run Try.prog W = .ok (.bool false) W := fun b W => by kernel_rfl
  clear hT hm0 hm1 hm hsh
  go_enter Try.func202, Try.ntmps202
  cases m with
  | none =>
    have HF := hide (HM0.out rfl n)
    obtain ⟨k1, k2, k3⟩ := KnAt.made (lo := lo) HM.out (HM0.out rfl) (by omega) hlt
    have K1 := hide k1
    have K2 := hide k2
    have K3 := hide k3
    have K4 := hide (k1.cellOf k3)
    clear k1 k2
    go_wp2_with (first | (at_lookup; refine look_pl rfl _ _ 234 rfl Try.underlying3 Try.underlying234 (zeroBool _) (w.heap.size) F rfl K4.out.2 n rfl (by omega) (by omega) ?_; rw [HF.out]))
    refine (HT.out _ K2.out K1.out HF.out).mono ?_
    rintro e w2 ⟨rfl, F2, hQ, hs2, hk2⟩
    have hc2 := hs2.stay _ K3.out
    obtain ⟨hb2, hma2⟩ := hk2.cellOf hc2
    have HMA2 := hide hma2
    have HK2 := hide hk2
    have HS2 := hide (KStep.trans K2.out hs2)
    clear hk2 hs2 hma2
    obtain ⟨-, c1, c2⟩ := box1 hb2
    go_wp2_with (at_mapUpdate; refine store_pl rfl _ _ _ 234 rfl Try.underlying3 Try.underlying234 (w.heap.size) F2 rfl HMA2.out n rfl (by omega) (by omega) (.bool xb) rfl ?_; intro W9 hm9 hk9)
    go_ret
    obtain ⟨k1, k2⟩ := HK2.out.told hc2 hm9 hk9
    exact ⟨_, HS2.out.trans k2, k1, .inr ⟨HF.out, rfl, F2, hQ, rfl⟩⟩
  | some mb =>
    have HMA := hide (HM1.out mb rfl).1
    cases hf : F n with
    | none =>
      have HF := hide hf
      have hrf := KStep.of_below (Below.refl w.heap.size w) hlt
      clear hf
      go_wp2_with (first | (at_lookup; refine look_pl rfl _ _ 234 rfl Try.underlying3 Try.underlying234 (zeroBool _) (mb) F rfl HMA.out n rfl (by omega) (by omega) ?_; rw [HF.out]))
      refine (HT.out _ hrf HK.out HF.out).mono ?_
      rintro e w2 ⟨rfl, F2, hQ, hs2, hk2⟩
      have hc2 := hs2.stay _ hm2
      obtain ⟨hb2, hma2⟩ := hk2.cellOf hc2
      have HMA2 := hide hma2
      have HK2 := hide hk2
      have HS2 := hide (KStep.trans hrf hs2)
      clear hk2 hs2 hma2
      obtain ⟨-, c1, c2⟩ := box1 hb2
      go_wp2_with (at_mapUpdate; refine store_pl rfl _ _ _ 234 rfl Try.underlying3 Try.underlying234 (mb) F2 rfl HMA2.out n rfl (by omega) (by omega) (.bool xb) rfl ?_; intro W9 hm9 hk9)
      go_ret
      obtain ⟨k1, k2⟩ := HK2.out.told hc2 hm9 hk9
      exact ⟨_, HS2.out.trans k2, k1, .inr ⟨HF.out, rfl, F2, hQ, rfl⟩⟩
    | some v =>
      have HF := hide hf
      obtain ⟨b, rfl⟩ := HSH.out n v hf
      clear hf
      go_wp2_with (first | (at_lookup; refine look_pl rfl _ _ 234 rfl Try.underlying3 Try.underlying234 (zeroBool _) (mb) F rfl HMA.out n rfl (by omega) (by omega) ?_; rw [HF.out]))
      go_ret
      exact ⟨F, KStep.of_below (Below.refl w.heap.size w) hlt, HK.out, .inl ⟨_, HF.out, rfl, rfl⟩⟩
theorem zeroPair (W : World) : (zeroValue 190).run Try.prog W = .ok (.agg #[.int .i64 0, .int .i64 0]) W := by kernel_rfl
theorem store_op {P : Program} {W : World} {o : Oper} {a : Act} {K : Act → World → Prop} {Q : Exit → Act → World → Prop} {k e : TypeId} (m x v : Operand) (t : TypeId) (hop : o.op = .mapUpdate t m x v) (hk : P.underlying k = some (.int .i64)) (ht : P.underlying t = some (.map k e))
    (b : Nat) (f : Int → Option Value) (hm : a.eval m = .map (some b)) (h : MapAt W b f) (y : Int) (hx : a.eval x = .int .i64 y) (h0 : -9223372036854775808 ≤ y) (h1 : y ≤ 9223372036854775807) (u : Value) (hv : a.eval v = u)
    (hK : ∀ W', MapAt W' b (fun z => if z = y then some u else f z) → Keep (fun c => c ≠ b) W W' → K (a.put o.dst undef) W') : Oper.wp P o a W K Q := by
  obtain ⟨w', hrun, r1, r2⟩ := h.store hk ht h0 h1 u
  unfold Oper.wp
  simp [execOp, hop, hm, hx, hv, hrun, Result.andThen]
  exact hK w' r1 r2
set_option maxHeartbeats 4000000 in
set_option maxRecDepth 100000 in
theorem ofA_calls (kb lo : Nat) (n : Int) (F : Int → Option Value) (xa xb : Int) (Q : (Int → Option Value) → Prop) (p0 p1 p2 : Value) (w0 : World) (h0 : 0 ≤ n) (h1 : n ≤ 255) (hlo : lo < kb) (hsh : ∀ y v, F y = some v → ∃ a b, v = .agg #[.int .i64 a, .int .i64 b]) (hk : KnAt 189 w0 kb lo F)
    (hT : ∀ w1, KStep kb w0 w1 → KnAt 189 w1 kb lo F → F n = none → Calls Try.prog 184 #[p0, p1, p2] w1 fun e w2 => TellPost 189 kb lo (.agg #[.int .i64 xa, .int .i64 xb]) Q w1 e w2) :
    Calls Try.prog 183 #[.pointer (some ⟨kb, 0, none⟩), .int .i64 n, .func (.func 184) #[] #[p0, p1, p2]] w0 fun e w' => OfPost 189 kb lo n F (.agg #[.int .i64 xa, .int .i64 xb]) Q w0 e w' := by
  have HT0 := hide hT
  have HSH := hide hsh
  have hmm := @run_makeMap Try.prog
  have he1 : ∀ W, (binOp .eql 187 (.map none) (.map none)).run Try.prog W = .ok (.bool true) W := fun W => by kernel_rfl
  have he2 : ∀ b W, (binOp .eql 187 (.map (some b)) (.map none)).run Try.prog W = .ok (.bool false) W := fun b W => by kernel_rfl
  clear hT hsh
  go_enter Try.func183, Try.ntmps183
  refine seq_cut (fun a' w' => a' = { tmps := #[.pointer (some ⟨kb, 0, none⟩), .int .i64 n, .func (.func 184) #[] #[p0, p1, p2], undef, undef, undef, .pointer (some ⟨w0.heap.size, 0, none⟩), undef, undef, undef, undef, undef, undef, undef, undef, undef, undef, undef, undef, undef, undef, undef, undef, undef, undef, undef, undef, undef, undef, undef, undef, undef, undef, undef, undef, undef, undef, undef, undef], defers := [] } ∧ w' = w0.alloc (.cells #[.int .i64 0, .int .i64 0] 190)) ?_ ?_
  · go_wp2
    first | done | exact ⟨rfl, rfl⟩ | exact ⟨trivial, trivial⟩
  rintro _ w ⟨rfl, hw⟩
  have hB0 : Below w0.heap.size w0 w := by rw [hw]; exact (Below.refl _ _).alloc (Nat.le_refl _) _
  have hb0 : w.heap[w0.heap.size]? = some (.cells #[.int .i64 0, .int .i64 0] 190 (0, 0)) := by rw [hw]; exact World.alloc_heap_new _ _
  clear hw
  have HBX := hide (hk.boxed hB0 hb0 (Nat.le_refl _))
  have HS0 := hide (KStep.of_below hB0 hk.lt)
  replace hk := hk.below hB0
  have hrb : w0.heap.size < w.heap.size := (Array.getElem?_eq_some_iff.1 hb0).1
  clear hB0 hb0
  have HT := hide (show ∀ w1, KStep kb w w1 → KnAt 189 w1 kb lo F → F n = none → Calls Try.prog 184 #[p0, p1, p2] w1 fun e w2 => TellPost 189 kb lo (.agg #[.int .i64 xa, .int .i64 xb]) Q w1 e w2 from fun w1 h => HT0.out w1 (HS0.out.trans h))
  have HFIN : Hid (∀ (w9 : World) (F9 : Int → Option Value) (va vb : Int), KStep kb w w9 → KnAt 189 w9 kb lo F9 → ((∃ v, F n = some v ∧ Ending.returned (.agg #[.int .i64 va, .int .i64 vb]) = .returned v ∧ F9 = F) ∨ (F n = none ∧ Ending.returned (.agg #[.int .i64 va, .int .i64 vb]) = .returned (.agg #[.int .i64 xa, .int .i64 xb]) ∧ ∃ F2, Q F2 ∧ F9 = fun z => if z = n then some (.agg #[.int .i64 xa, .int .i64 xb]) else F2 z)) → OfPost 189 kb lo n F (.agg #[.int .i64 xa, .int .i64 xb]) Q w0 (.returned (.agg #[.int .i64 va, .int .i64 vb])) ((w9.setCell ⟨w0.heap.size, 0, none⟩ (.int .i64 va)).setCell ⟨w0.heap.size, 1, none⟩ (.int .i64 vb))) := by
    refine hide fun w9 F9 va vb hs9 hk9 hor => ?_
    have hbx := HBX.out.step hs9
    obtain ⟨m9, e1, e2, e3⟩ := hk9
    have hkp : Keep (fun b => b ≠ w0.heap.size) w9 ((w9.setCell ⟨w0.heap.size, 0, none⟩ (.int .i64 va)).setCell ⟨w0.heap.size, 1, none⟩ (.int .i64 vb)) := ((Keep.refl _ _).setCell (p := ⟨w0.heap.size, 0, none⟩) (by simp) _).setCell (p := ⟨w0.heap.size, 1, none⟩) (by simp) _
    have hkne : kb ≠ w0.heap.size := fun e => hbx.2.1 e.symm
    have hcc := (box1 e1).2.1
    have hmne : ∀ mb, m9 = some mb → mb ≠ w0.heap.size := fun mb e h => hbx.2.2 (by rw [hcc, e, h])
    have hk9' : KnAt 189 ((w9.setCell ⟨w0.heap.size, 0, none⟩ (.int .i64 va)).setCell ⟨w0.heap.size, 1, none⟩ (.int .i64 vb)) kb lo F9 := ⟨m9, hkp.obj hkne e1, e2, fun mb e => ⟨(e3 mb e).1.keep hkp (hmne mb e), (e3 mb e).2⟩⟩
    refine ⟨F9, ?_, hk9', hor⟩
    have h1 := HS0.out.trans hs9
    have hcell : ((w9.setCell ⟨w0.heap.size, 0, none⟩ (.int .i64 va)).setCell ⟨w0.heap.size, 1, none⟩ (.int .i64 vb)).cell? ⟨kb, 0, none⟩ = w9.cell? ⟨kb, 0, none⟩ := by rw [hcc]; exact (box1 (hkp.obj hkne e1)).2.1
    exact ⟨⟨hkp.os.trans h1.keep.os, hkp.tape.trans h1.keep.tape, hkp.output.trans h1.keep.output, Nat.le_trans h1.keep.size hkp.size, fun x hx hs => (hkp.block x (by have := h1.keep.size; omega) (by omega)).trans (h1.keep.block x hx hs)⟩, fun mb e => h1.map mb (hcell ▸ e), fun mb e => hcell.symm ▸ h1.stay mb e⟩
  have HK := hide hk
  have hlt := hk.lt
  obtain ⟨m, hm, hm0, hm1⟩ := hk
  obtain ⟨-, hm2, hm3⟩ := box1 hm
  have HM0 := hide hm0
  have HM1 := hide hm1
  have HM := hide hm
  clear hm0 hm1 hm HT0
  cases m with
  | none =>
    have HF := hide (HM0.out rfl n)
    obtain ⟨k1, k2, k3⟩ := KnAt.made (lo := lo) HM.out (HM0.out rfl) (by have := HK.out.lt; omega) hlt
    have K1 := hide k1
    have K2 := hide k2
    have K3 := hide k3
    have K4 := hide (k1.cellOf k3)
    clear k1 k2
    go_wp2_with (first | (at_lookup; refine look_pl rfl _ _ 187 rfl Try.underlying3 Try.underlying187 (zeroPair _) (w.heap.size) F rfl K4.out.2 n rfl (by omega) (by omega) ?_; rw [HF.out]))
    have hal : Below ((w.setCell ⟨kb, 0, none⟩ (.map (some w.heap.size))).alloc (.map #[] 0)).heap.size ((w.setCell ⟨kb, 0, none⟩ (.map (some w.heap.size))).alloc (.map #[] 0)) (((w.setCell ⟨kb, 0, none⟩ (.map (some w.heap.size))).alloc (.map #[] 0)).alloc (.cells #[.int .i64 0, .int .i64 0] 190)) := (Below.refl _ _).alloc (Nat.le_refl _) _
    have ST := hide (KStep.trans K2.out (KStep.of_below hal (K1.out.lt)))
    refine (HT.out _ ST.out (K1.out.below hal) HF.out).mono ?_
    rintro e w2 ⟨rfl, F2, hQ, hs2, hk2⟩
    have hc1 : (((w.setCell ⟨kb, 0, none⟩ (.map (some w.heap.size))).alloc (.map #[] 0)).alloc (.cells #[.int .i64 0, .int .i64 0] 190)).cell? ⟨kb, 0, none⟩ = some (.map (some (w.heap.size))) := (World.cell?_alloc_lt _ _ _ (K1.out.lt)).trans K3.out
    have hc2 := hs2.stay _ hc1
    have HS2 := hide (ST.out.trans hs2)
    have HQ := hide hQ
    clear hal hs2 hc1 hQ
    go_wp2
    have hal : Below w2.heap.size w2 (w2.alloc (.cells #[.int .i64 xa, .int .i64 xb] 190)) := (Below.refl _ _).alloc (Nat.le_refl _) _
    have hn9 : (w2.alloc (.cells #[.int .i64 xa, .int .i64 xb] 190)).heap[w2.heap.size]? = some (.cells #[.int .i64 xa, .int .i64 xb] 190 (0, 0)) := World.alloc_heap_new _ _
    have hbx9 := hk2.boxed hal hn9 (Nat.le_refl _)
    have HS3 := hide (HS2.out.trans (KStep.of_below hal hk2.lt))
    have hc3 := (World.cell?_alloc_lt _ (.cells #[.int .i64 xa, .int .i64 xb] 190) _ (show (⟨kb, 0, none⟩ : Addr).block < w2.heap.size from hk2.lt)).trans hc2
    replace hk2 := hk2.below hal
    generalize (w2.alloc (.cells #[.int .i64 xa, .int .i64 xb] 190)) = w3 at *
    generalize hbb : w2.heap.size = bb at *
    clear hal hc2
    obtain ⟨hb3, hma3⟩ := hk2.cellOf hc3
    have HK3 := hide hk2
    obtain ⟨-, n0, n1, -, -⟩ := box2 hn9
    clear hk2 hb3
    refine drawn_text (fun W' => W'.cell? ⟨kb, 0, none⟩ = some (.map (some (w.heap.size))) ∧ W'.cell? ⟨bb, 0, none⟩ = some (.int .i64 xa) ∧ W'.cell? ⟨bb, 1, none⟩ = some (.int .i64 xb)) [false, false, false, false, false, false, true] [some 32, some 33, some 34, some 35, some 36, some 37, none] (by kernel_rfl) rfl (by kernel_rfl) (by kernel_rfl) (by kernel_rfl) (fun _ _ _ _ _ h => h) ⟨hc3, n0, n1⟩ ?_
    iterate 6 (refine txt_take (v := ?_) rfl ?_ ?_; rotate_left; (intro w hS; obtain ⟨hS0, hS1, hS2⟩ := hS; go_simp; try with_reducible rfl); simp only [Act.put, List.setIfInBounds_toArray, List.set_cons_zero, List.set_cons_succ])
    refine txt_do rfl ?_
    intro K hK
    refine store_op (.tmp 35) (.tmp 36) (.tmp 37) 187 rfl Try.underlying3 Try.underlying187 (w.heap.size) F2 rfl (hma3.keep (S := fun _ => True) (.of_below (Below.refl _ _).drew) trivial) n rfl (by omega) (by omega) (.agg #[.int .i64 xa, .int .i64 xb]) rfl ?_
    intro W9 hm9 hk9
    have hk9' : Keep (fun c => c ≠ (w.heap.size)) w3 W9 := Keep.trans ((Keep.refl _ _).drew) hk9
    obtain ⟨k1, k2⟩ := HK3.out.told hc3 hm9 hk9'
    have hc9 := k2.stay _ hc3
    obtain ⟨hb9, -, -⟩ := hbx9.step k2
    obtain ⟨-, u0, u1, -, -⟩ := box2 hb9
    refine hK.out _ _ ⟨hc9, u0, u1⟩ ?_
    clear hK K
    refine txt_done ?_
    have hst9 := HS3.out.trans k2
    have HF9 := hide (HFIN.out W9 _ xa xb hst9 k1 (.inr ⟨HF.out, rfl, F2, HQ.out, rfl⟩))
    obtain ⟨hbr, -, -⟩ := HBX.out.step hst9
    obtain ⟨-, q0, q1, q2, q3⟩ := box2 hbr
    obtain ⟨-, r0, r1, -, -⟩ := box2 (box2_set hbr (.int .i64 xa) (.int .i64 xb))
    clear k1 k2 hm9 hk9 hk9' hst9 hbx9 hma3 n0 n1 hc3 hc9 hbr hb9
    go_wp2
    exact bodyPost_ret (v := .agg #[.int .i64 xa, .int .i64 xb]) (by simp [results, Try.results183, go_sem, r0, r1]) rfl HF9.out
  | some mb =>
    have HMA := hide (HM1.out mb rfl).1
    cases hf : F n with
    | none =>
      have HF := hide hf
      have hrf := KStep.of_below (Below.refl w.heap.size w) hlt
      clear hf
      go_wp2_with (first | (at_lookup; refine look_pl rfl _ _ 187 rfl Try.underlying3 Try.underlying187 (zeroPair _) (mb) F rfl HMA.out n rfl (by omega) (by omega) ?_; rw [HF.out]))
      have hal : Below (w).heap.size (w) ((w).alloc (.cells #[.int .i64 0, .int .i64 0] 190)) := (Below.refl _ _).alloc (Nat.le_refl _) _
      have ST := hide (KStep.trans hrf (KStep.of_below hal (HK.out.lt)))
      refine (HT.out _ ST.out (HK.out.below hal) HF.out).mono ?_
      rintro e w2 ⟨rfl, F2, hQ, hs2, hk2⟩
      have hc1 : ((w).alloc (.cells #[.int .i64 0, .int .i64 0] 190)).cell? ⟨kb, 0, none⟩ = some (.map (some (mb))) := (World.cell?_alloc_lt _ _ _ (HK.out.lt)).trans hm2
      have hc2 := hs2.stay _ hc1
      have HS2 := hide (ST.out.trans hs2)
      have HQ := hide hQ
      clear hal hs2 hc1 hQ
      go_wp2
      have hal : Below w2.heap.size w2 (w2.alloc (.cells #[.int .i64 xa, .int .i64 xb] 190)) := (Below.refl _ _).alloc (Nat.le_refl _) _
      have hn9 : (w2.alloc (.cells #[.int .i64 xa, .int .i64 xb] 190)).heap[w2.heap.size]? = some (.cells #[.int .i64 xa, .int .i64 xb] 190 (0, 0)) := World.alloc_heap_new _ _
      have hbx9 := hk2.boxed hal hn9 (Nat.le_refl _)
      have HS3 := hide (HS2.out.trans (KStep.of_below hal hk2.lt))
      have hc3 := (World.cell?_alloc_lt _ (.cells #[.int .i64 xa, .int .i64 xb] 190) _ (show (⟨kb, 0, none⟩ : Addr).block < w2.heap.size from hk2.lt)).trans hc2
      replace hk2 := hk2.below hal
      generalize (w2.alloc (.cells #[.int .i64 xa, .int .i64 xb] 190)) = w3 at *
      generalize hbb : w2.heap.size = bb at *
      clear hal hc2
      obtain ⟨hb3, hma3⟩ := hk2.cellOf hc3
      have HK3 := hide hk2
      obtain ⟨-, n0, n1, -, -⟩ := box2 hn9
      clear hk2 hb3
      refine drawn_text (fun W' => W'.cell? ⟨kb, 0, none⟩ = some (.map (some (mb))) ∧ W'.cell? ⟨bb, 0, none⟩ = some (.int .i64 xa) ∧ W'.cell? ⟨bb, 1, none⟩ = some (.int .i64 xb)) [false, false, false, false, false, false, true] [some 32, some 33, some 34, some 35, some 36, some 37, none] (by kernel_rfl) rfl (by kernel_rfl) (by kernel_rfl) (by kernel_rfl) (fun _ _ _ _ _ h => h) ⟨hc3, n0, n1⟩ ?_
      iterate 6 (refine txt_take (v := ?_) rfl ?_ ?_; rotate_left; (intro w hS; obtain ⟨hS0, hS1, hS2⟩ := hS; go_simp; try with_reducible rfl); simp only [Act.put, List.setIfInBounds_toArray, List.set_cons_zero, List.set_cons_succ])
      refine txt_do rfl ?_
      intro K hK
      refine store_op (.tmp 35) (.tmp 36) (.tmp 37) 187 rfl Try.underlying3 Try.underlying187 (mb) F2 rfl (hma3.keep (S := fun _ => True) (.of_below (Below.refl _ _).drew) trivial) n rfl (by omega) (by omega) (.agg #[.int .i64 xa, .int .i64 xb]) rfl ?_
      intro W9 hm9 hk9
      have hk9' : Keep (fun c => c ≠ (mb)) w3 W9 := Keep.trans ((Keep.refl _ _).drew) hk9
      obtain ⟨k1, k2⟩ := HK3.out.told hc3 hm9 hk9'
      have hc9 := k2.stay _ hc3
      obtain ⟨hb9, -, -⟩ := hbx9.step k2
      obtain ⟨-, u0, u1, -, -⟩ := box2 hb9
      refine hK.out _ _ ⟨hc9, u0, u1⟩ ?_
      clear hK K
      refine txt_done ?_
      have hst9 := HS3.out.trans k2
      have HF9 := hide (HFIN.out W9 _ xa xb hst9 k1 (.inr ⟨HF.out, rfl, F2, HQ.out, rfl⟩))
      obtain ⟨hbr, -, -⟩ := HBX.out.step hst9
      obtain ⟨-, q0, q1, q2, q3⟩ := box2 hbr
      obtain ⟨-, r0, r1, -, -⟩ := box2 (box2_set hbr (.int .i64 xa) (.int .i64 xb))
      clear k1 k2 hm9 hk9 hk9' hst9 hbx9 hma3 n0 n1 hc3 hc9 hbr hb9
      go_wp2
      exact bodyPost_ret (v := .agg #[.int .i64 xa, .int .i64 xb]) (by simp [results, Try.results183, go_sem, r0, r1]) rfl HF9.out
    | some v =>
      have HF := hide hf
      obtain ⟨va, vb, rfl⟩ := HSH.out n v hf
      have HF9 := hide (show OfPost 189 kb lo n F (.agg #[.int .i64 xa, .int .i64 xb]) Q w0 (.returned (.agg #[.int .i64 va, .int .i64 vb])) (((w.setCell ⟨w0.heap.size, 0, none⟩ (.int .i64 va)).setCell ⟨w0.heap.size, 1, none⟩ (.int .i64 vb)).alloc (.cells #[.int .i64 va, .int .i64 vb] 190)) by
        obtain ⟨F', s1, k1, hor⟩ := HFIN.out w F va vb (KStep.of_below (Below.refl w.heap.size w) hlt) HK.out (.inl ⟨_, hf, rfl, rfl⟩)
        have hal := (Below.refl ((w.setCell ⟨w0.heap.size, 0, none⟩ (.int .i64 va)).setCell ⟨w0.heap.size, 1, none⟩ (.int .i64 vb)).heap.size ((w.setCell ⟨w0.heap.size, 0, none⟩ (.int .i64 va)).setCell ⟨w0.heap.size, 1, none⟩ (.int .i64 vb))).alloc (Nat.le_refl _) (.cells #[.int .i64 va, .int .i64 vb] 190)
        exact ⟨F', s1.trans (KStep.of_below hal k1.lt), k1.below hal, hor⟩)
      obtain ⟨hbr, -, -⟩ := HBX.out
      obtain ⟨-, q0, q1, q2, q3⟩ := box2 hbr
      have hbs := box2_set hbr (.int .i64 va) (.int .i64 vb)
      obtain ⟨-, r0, r1, -, -⟩ := box2 ((Below.heap_alloc _ (.cells #[.int .i64 va, .int .i64 vb] 190) _ (Array.getElem?_eq_some_iff.1 hbs).1).trans hbs)
      clear hf hbr hbs
      go_wp2_with (first | (at_lookup; refine look_pl rfl _ _ 187 rfl Try.underlying3 Try.underlying187 (zeroPair _) (mb) F rfl HMA.out n rfl (by omega) (by omega) ?_; rw [HF.out]))
      exact bodyPost_ret (v := .agg #[.int .i64 va, .int .i64 vb]) (by simp [results, Try.results183, go_sem, r0, r1]) rfl HF9.out
end Go.Proofs.Ythplndalbfcbbaa
