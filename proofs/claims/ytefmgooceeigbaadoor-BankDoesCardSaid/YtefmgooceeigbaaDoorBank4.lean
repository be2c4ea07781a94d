/- (*bank.Bank).put, walked. -/
import Derived.Test.YtefmgooceeigbaaDoorBank3
import Derived.Test.YtefmgooceeigbaaDoorCheck
set_option linter.unusedSimpArgs false
set_option linter.unusedVariables false
namespace Go.Proofs.YtefmgooceeigbaaDoor
open Go.RowKit

theorem flat_ints : ∀ l : List Int, (l.map fun n => [Value.int .i64 n]).flatten = l.map (Value.int .i64)
  | [] => rfl
  | x :: l => by rw [List.map_cons, List.flatten_cons, flat_ints l, List.map_cons]; rfl
theorem Ints.of_own {A : Nat → Prop} {w : World} {base e : Nat} {v : Value} {l : List Int} (h : w.ownsRow base e 1 v l.length (l.map (Value.int .i64))) (hA : ∀ b, v.ownBlock = some b → ¬ A b) : Ints A w v l := by
  simp only [Ints, RepD]
  rcases h.2 with ⟨hv, h0⟩ | ⟨g, cap, cur, hv, hg, hh, hn, hm, hs, ht⟩
  · exact ⟨none, 0, 0, by rw [hv], by simp [h0], by omega, by omega, by omega⟩
  · refine ⟨_, _, _, by rw [hv], by simp, hn, Nat.le_trans hn (by simpa [maxLen] using hm), fun h0 => ⟨g, 0, rfl, (Array.getElem?_eq_some_iff.1 hh).1, hA g (by rw [hv]; rfl), ?_⟩⟩
    have hfl := flat_ints l
    refine RepR.of (l.map fun n => [Value.int .i64 n]) _ 0 (by simp) (fun j hj => ?_) ?_
    · rw [hfl] at hj ⊢
      have := h.cells (g := g) (by rw [hv]; rfl) j ((l.map (Value.int .i64))[j]) (by simp)
      rw [add_plain] at this
      rw [Nat.zero_add, this, List.getElem?_eq_getElem hj]
    · clear hfl h hv hh hn hm hs ht h0 hA
      induction l with
      | nil => exact .nil
      | cons x l ih => exact .cons (by simp [intD, RepD]) ih
/-! ### Heads that are numbers -/
mutual
def HOk : Tm → Prop
  | .node h l => (-9223372036854775808 ≤ h ∧ h ≤ 9223372036854775807) ∧ HOks l
def HOks : List Tm → Prop
  | [] => True
  | t :: ts => HOk t ∧ HOks ts
end
theorem HOk.head {t : Tm} (h : HOk t) : -9223372036854775808 ≤ t.h ∧ t.h ≤ 9223372036854775807 := by
  cases t with
  | node hd l => simp only [HOk] at h; exact h.1
theorem HOk.args {t : Tm} (h : HOk t) : HOks t.args := by
  cases t with
  | node hd l => simp only [HOk] at h; exact h.2
theorem HOks.get : ∀ {l : List Tm}, HOks l → ∀ (k : Nat) (hk : k < l.length), HOk l[k]
  | t :: ts, h, 0, _ => by simp only [HOks] at h; exact h.1
  | t :: ts, h, k + 1, hk => by simp only [HOks] at h; exact h.2.get k (by simpa using hk)
mutual
theorem good_hok : ∀ (t : Tm), t.good = true → HOk t
  | .node h l, hg => by
    simp only [Tm.good, Bool.and_eq_true] at hg
    simp only [HOk]
    refine ⟨?_, goods_hok l hg.2⟩
    have h1 := hg.1
    simp only [okP, Tm.h, Bool.not_eq_true', Bool.or_eq_false_iff, decide_eq_false_iff_not] at h1
    obtain ⟨⟨⟨-, h2⟩, h3⟩, -⟩ := h1
    have h4 := of_decide_eq_false h2
    have h5 := of_decide_eq_false h3
    omega
theorem goods_hok : ∀ (l : List Tm), Tm.goods l = true → HOks l
  | [], _ => by simp only [HOks]
  | t :: ts, hg => by
    simp only [Tm.goods, Bool.and_eq_true] at hg
    simp only [HOks]
    exact ⟨good_hok t hg.1, goods_hok ts hg.2⟩
end
theorem chk_hok {t : Tm} (h : chk t = 0) : HOk t ∧ t.size ≤ 400 := by
  unfold chk at h
  split at h
  · cases h
  · split at h
    · cases h
    · split at h
      · next h1 _ h2 => exact ⟨good_hok t h2, by omega⟩
      · cases h
def errV (o : Option Nat) : Int := if o.isSome then 0 else 9
theorem putT_eq (R : List Rw) (t : Tm) : putT R t = match putL R t.args with
    | (R1, none) => (R1, none)
    | (R1, some ns) => match idx R1 (t.h, ns) with
      | some i => (R1, some i)
      | none => if 4096 ≤ R1.length then (R1, none) else (R1 ++ [(t.h, ns)], some R1.length) := by
  cases t with
  | node h l => rw [putT]; rfl
theorem putL_at {R R1 : List Rw} {l : List Tm} {j : Nat} {ns : List Nat} (h : j < l.length) (hp : putL R (l.take j) = (R1, some ns)) :
    (∀ R2 n, putT R1 l[j] = (R2, some n) → putL R (l.take (j + 1)) = (R2, some (ns ++ [n]))) ∧ (∀ R2, putT R1 l[j] = (R2, none) → putL R l = (R2, none)) := by
  have h1 := putL_snoc (l.take j) R l[j]
  rw [← List.take_succ_eq_append_getElem h, hp] at h1
  simp only at h1
  refine ⟨fun R2 n h2 => by rw [h1, h2], fun R2 h2 => ?_⟩
  rw [h2] at h1
  have := putL_stop _ (l.drop (j + 1)) R R2 h1
  rwa [List.take_append_drop] at this

theorem BankAt.bar {w : World} {A B : Nat → Prop} {xb mb : Nat} {R : List Rw} {rv : Value} {f : Value → Option Value} {base : Nat} (h : BankAt w A xb mb R rv f base) (hB : ∀ b, B b → A b) : BankAt w B xb mb R rv f base :=
  { h with
    r := h.r.bar fun b _ hb => by
      rcases hb with hb | hb
      · exact .inl (hB b hb)
      · exact .inr hb
    na := fun b hb hz => h.na b hb (hB b hz)
    la := fun b hb => h.la b (hB b hb) }
theorem Moved.add {Z Z' : Nat → Prop} {w w' : World} (h : Moved Z Z' w w') (X : Nat → Prop) : Moved (fun b => Z b ∨ X b) (fun b => Z' b ∨ X b) w w' := ⟨h.1.mono fun b _ hz hb => hz (.inl hb), fun b hb => by
  rcases hb with hb | hb
  · rcases h.2 b hb with h9 | h9
    · exact .inl (.inl h9)
    · exact .inr h9
  · exact .inl (.inr hb)⟩
theorem Moved.addl {Z Z' : Nat → Prop} {w w' : World} (h : Moved Z Z' w w') (X : Nat → Prop) : Moved (fun b => X b ∨ Z b) (fun b => X b ∨ Z' b) w w' := ⟨h.1.mono fun b _ hz hb => hz (.inr hb), fun b hb => by
  rcases hb with hb | hb
  · exact .inl (.inl hb)
  · rcases h.2 b hb with h9 | h9
    · exact .inl (.inr h9)
    · exact .inr h9⟩
theorem Moved.onward {Z Z' : Nat → Prop} {w w' w2 : World} (h : Moved Z Z' w w') (k : Below w.heap.size w' w2) : Moved Z Z' w w2 := by
  refine ⟨⟨k.os.trans h.1.os, k.tape.trans h.1.tape, k.output.trans h.1.output, Nat.le_trans h.1.size k.size, fun b hb hn => (k.block b hb).trans (h.1.block b hb hn)⟩, h.2⟩
/-- What the call writes itself: the row's box, the numbers. -/
def RB (rb : Nat) (av : Value) : Nat → Prop := fun b => b = rb ∨ av.ownBlock = some b
/-- Behind j arguments. -/
def PutInv (A : Nat → Prop) (xb mb base : Nat) (w : World) (R : List Rw) (rv : Value) (t : Tm) (s : Value) (wr : World) (j : Nat) : Prop :=
  ∃ R' rv' f' ns av, putL R (t.args.take j) = (R', some ns) ∧ BankAt wr (fun b => A b ∨ RB (w.heap.size + 1) av b) xb mb R' rv' f' base ∧ Moved (BZ xb mb rv) (BZ xb mb rv') w wr ∧ Terms (fun b => BZ xb mb rv' b ∨ RB (w.heap.size + 1) av b) wr s t.args ∧
    wr.heap[w.heap.size + 1]? = some (.cells #[.int .i64 t.h, av] 64 (0, 0)) ∧ wr.ownsRow (w.heap.size + 2) 3 1 av ns.length ((zs ns).map (Value.int .i64)) ∧ ns.length = j ∧ w.heap.size + 2 ≤ wr.heap.size

set_option maxHeartbeats 8000000 in
set_option maxRecDepth 100000 in
theorem bput_calls (xb mb base : Nat) (n0 : Nat) : ∀ (A : Nat → Prop) (t : Tm) (R : List Rw) (rv : Value) (f : Value → Option Value) (h : Int) (s : Value) (w : World), t.size ≤ n0 → t.size ≤ 1000000 → HOk t → tabB base w → BankAt w A xb mb R rv f base → IsTm (BZ xb mb rv) w h s t →
    Calls Tryd.prog 28 #[.pointer (some ⟨xb, 0, none⟩), .agg #[.int .i64 h, s]] w fun e w' => e = .returned (.tuple #[.int .i64 (numV (putT R t).2), .int .i64 (errV (putT R t).2)]) ∧ ∃ rv' f', BankAt w' A xb mb (putT R t).1 rv' f' base ∧ Moved (BZ xb mb rv) (BZ xb mb rv') w w' := by
  induction n0 with
  | zero => intro _ t _ _ _ _ _ _ ht; have := t.size_eq; omega
  | succ n0 ih =>
    rintro A t R rv f h s w ht hm hk htb hx hs
    obtain ⟨rfl, a, c, rfl, hlc, hc⟩ := hs.shape
    have HSZ := hide t.size_eq
    have HBA := hide (show base ≤ w.heap.size by have := hx.lt xb (.inl rfl); omega)
    have hb : Below w.heap.size w ((w.alloc (.cells #[.int .i64 t.h, .slice a t.args.length c] 26)).alloc (.cells #[.int .i64 t.h, .slice none 0 0] 64)) := ((Below.refl _ _).alloc (Nat.le_refl _) _).alloc (by simp) _
    have kb : ((w.alloc (.cells #[.int .i64 t.h, .slice a t.args.length c] 26)).alloc (.cells #[.int .i64 t.h, .slice none 0 0] 64)).heap[w.heap.size + 1]? = some (.cells #[.int .i64 t.h, .slice none 0 0] 64 (0, 0)) := by
      have := World.alloc_heap_new (w.alloc (.cells #[.int .i64 t.h, .slice a t.args.length c] 26)) (.cells #[.int .i64 t.h, .slice none 0 0] 64)
      rwa [World.size_alloc] at this
    have HI := hide (show PutInv A xb mb base w R rv t (.slice a t.args.length c) ((w.alloc (.cells #[.int .i64 t.h, .slice a t.args.length c] 26)).alloc (.cells #[.int .i64 t.h, .slice none 0 0] 64)) 0 from
      ⟨R, rv, f, [], .slice none 0 0, by simp [putL], hx.step ⟨Keep.of_below hb, fun b h => by
        rcases h with h | h | h
        · exact .inl h
        · exact .inr (by omega)
        · simp [Value.ownBlock] at h⟩ (fun b h => by
        rcases h with h | h | h
        · have := hx.la b h; simp; omega
        · simp; omega
        · simp [Value.ownBlock] at h), Moved.of_below hb, Moved.terms (Z := BZ xb mb rv) ⟨Keep.of_below hb, fun b h => by
        rcases h with h | h | h
        · exact .inl h
        · exact .inr (by omega)
        · simp [Value.ownBlock] at h⟩ hs.2, kb, World.ownsRow_nil _ _ _ _, rfl, by simp⟩)
    have HLT := hide hx.lt
    have HLA := hide hx.la
    have HGR := hide hx.g
    have HTB := hide htb
    have HK := hide hk
    have HM := hide hm
    have HPE := hide (putT_eq R t)
    clear hb kb hx htb hk hs hm
    go_enter Tryd.func28, Tryd.ntmps28
    go_wp2
    generalize (w.alloc (.cells #[.int .i64 t.h, .slice a t.args.length c] 26)).alloc (.cells #[.int .i64 t.h, .slice none 0 0] 64) = W at *
    go_loopw [19] (fun i wr => ∃ j : Nat, j ≤ t.args.length ∧ i = .int .i64 j ∧ Hid (PutInv A xb mb base w R rv t (.slice a t.args.length c) wr j)) (fun i _ => t.args.length - (intOf i).toNat)
    case atStart => exact ⟨0, by omega, rfl, HI⟩
    case round =>
      obtain ⟨j, hj, rfl, hinv⟩ := hrel
      obtain ⟨R', rv', f', ns, av, hp, hx, hmv, hts, hbx, hown, hnl, hsz⟩ := hinv.out
      have HTW := hide (HTB.out.on (hmv.under (fun b hz => (HLT.out b hz).1) HBA.out))
      by_cases hlt : j < t.args.length
      · obtain ⟨b, off, a', c', rfl, hbs, hbA, g0, g1, gt⟩ := hts.get j hlt
        have hk2' := Tm.size_get t.args j hlt
        have hn : t.args[j].size ≤ n0 := by have := HSZ.out; omega
        have hmj : t.args[j].size ≤ 1000000 := by have := HSZ.out; have := HM.out; omega
        have hkj := HK.out.args.get j hlt
        have HPA := hide (putL_at hlt hp)
        have hal : Below wr.heap.size wr (wr.alloc (.cells #[.int .i64 t.args[j].h, .slice a' t.args[j].args.length c'] 26)) := (Below.refl _ _).alloc (Nat.le_refl _) _
        have HX1 := hide (hx.below hal)
        have HG1 := hide (gt.below hal)
        have HT1 := hide (hts.below hal)
        have HM1 := hide (hmv.trans (Moved.of_below (Z := BZ xb mb rv') hal))
        have HB1 := hide (hal.block _ (Array.getElem?_eq_some_iff.1 hbx).1 |>.trans hbx)
        have HO1 := hide (ownsRow_keep hown (Keep.of_below (S := fun _ => True) hal) fun _ _ => trivial)
        have HNA := hide (show ∀ b, BZ xb mb rv' b → b ≠ w.heap.size + 1 ∧ av.ownBlock ≠ some b from fun b hz => ⟨fun e => hx.na b hz (.inr (.inl e)), fun e => hx.na b hz (.inr (.inr e))⟩)
        have HNL := hide hnl
        have HSW := hide (Nat.le_trans hsz hal.size)
        have HT2 := hide (HTW.out.on (hal.mono (by have := HBA.out; omega)))
        have HOL := hide (fun b hb => (ownsRow_keep hown (Keep.of_below (S := fun _ => True) hal) fun _ _ => trivial).lt b hb)
        clear hinv hp hx hmv hts hbx hown hnl hsz hal gt HTW hk2'
        go_wp2_with fail
        generalize wr.alloc (.cells #[.int .i64 t.args[j].h, .slice a' t.args[j].args.length c'] 26) = W2 at *
        refine (ih _ t.args[j] R' rv' f' _ _ W2 hn hmj hkj HT2.out HX1.out ⟨rfl, HG1.out.bar fun b _ hb => .inl hb⟩).mono ?_
        rintro e w4 ⟨he, rv4, f4, hx4, hm4⟩
        have HM4 := hide (HM1.out.trans hm4)
        have HTS4 := hide ((hm4.add (RB (w.heap.size + 1) av)).terms HT1.out)
        have HB4 := hide (hm4.obj (fun hz => (HNA.out _ hz).1 rfl) HB1.out).1
        have HO4 := hide (ownsRow_keep HO1.out hm4.1 fun b hb hz => (HNA.out b hz).2 hb)
        have HNA4 := hide (show ∀ b, BZ xb mb rv4 b → b ≠ w.heap.size + 1 ∧ av.ownBlock ≠ some b from fun b hz => ⟨fun e => hx4.na b hz (.inr (.inl e)), fun e => hx4.na b hz (.inr (.inr e))⟩)
        have HS4 := hide (Nat.le_trans HSW.out hm4.1.size)
        rcases hpt : putT R' t.args[j] with ⟨R4, o⟩
        rw [hpt] at he hx4
        simp only at he hx4
        have HX4 := hide hx4
        clear hx4 hm4 HX1 HG1 HT1 HM1 HB1 HO1 HNA HSW HOL ih
        obtain ⟨-, z0, z1, z2, z3⟩ := box2 HB4.out
        cases o with
        | none =>
          simp only [numV, errV, Option.getD_none, Option.isSome_none, Bool.false_eq_true, if_false, Int.natCast_zero] at he
          subst he
          have HP := hide (HPA.out.2 R4 hpt)
          clear hpt HPA
          go_wp2
          go_ret2
          rw [HPE.out, HP.out]
          exact ⟨rfl, rv4, f4, HX4.out.bar fun b h => .inl h, HM4.out⟩
        | some n =>
          simp only [numV, errV, Option.getD_some, Option.isSome_some, if_true] at he
          subst he
          have HP := hide (HPA.out.1 R4 n hpt)
          clear hpt HPA
          have HNB := hide (show (ns.length + 1) * 8 ≤ 140737488355328 by have := HNL.out; have := HSZ.out; have := HM.out; have := Tm.sizes_length t.args; omega)
          go_wp2_with (at_builtin; refine app_pl rfl _ _ 48 rfl (w.heap.size + 2) 3 (.int .i64 0) 1 8 Tryd.underlying48 (by kernel_rfl) rfl (by decide) (by decide) av ns.length _ rfl HO4.out 1 1 _ rfl (by simp [Value.oneCell']) rfl HNB.out HS4.out ?_; intro v' w9 r1 r2 r3 r4; obtain ⟨va, vc, rfl⟩ := r4; have HB9 := hide (r2.obj (fun h => by have := (HO4.out.lt _ h).1; omega) HB4.out); obtain ⟨-, p0, p1, p2, p3⟩ := box2 HB9.out)
          generalize hvv : Value.slice va (ns.length + 1) vc = vv at *
          have hset : Keep (fun b => b ≠ w.heap.size + 1) w9 (w9.setCell ⟨w.heap.size + 1, 1, none⟩ vv) := (Keep.refl _ _).setCell (p := ⟨w.heap.size + 1, 1, none⟩) (by simp) vv
          have s9 : w9.heap.size = (w9.setCell ⟨w.heap.size + 1, 1, none⟩ vv).heap.size := (size_set _ _ _).symm
          have s49 := r2.size
          have hrb : Moved (RB (w.heap.size + 1) av) (RB (w.heap.size + 1) vv) w4 (w9.setCell ⟨w.heap.size + 1, 1, none⟩ vv) := ⟨(r2.mono fun b _ hz h => hz (.inr h)).trans (hset.mono fun b _ hz h => hz (.inl h)), fun b h => by
            rcases h with h | h
            · exact .inl (.inl h)
            · rcases r3 b h with h | h
              · exact .inl (.inr h)
              · exact .inr (by omega)⟩
          have hx4 := HX4.out
          have HOW := HO4.out.lt
          have HI2 := hide (show PutInv A xb mb base w R rv t (.slice (some ⟨b, off, none⟩) t.args.length c) (w9.setCell ⟨w.heap.size + 1, 1, none⟩ vv) (j + 1) from by
            refine ⟨R4, rv4, f4, ns ++ [n], vv, HP.out, hx4.step (hrb.addl A) fun b h => ?_, HM4.out.onward (hrb.1.below (fun b hb h => ?_) ?_), (hrb.addl _).terms HTS4.out, box2_set1 HB9.out vv, ?_, by simp [HNL.out], by have := HS4.out; omega⟩
            · rcases h with h | h | h
              · have := hx4.la b (.inl h); omega
              · have := (Array.getElem?_eq_some_iff.1 HB9.out).1; omega
              · have := (r1.lt b h).2; omega
            · rcases h with h | h
              · omega
              · have := (HOW b h).1; omega
            · have := HS4.out; omega
            · have r1' := ownsRow_keep r1 hset fun b hb => by have := (r1.lt b hb).1; omega
              simpa [zs] using r1')
          clear hset hrb hx4 HOW r1 r2 r3 HX4 HM4 HTS4 HB4 HO4 HNA4 HS4 HB9 s9 s49 z0 z1 z2 z3 p0 p1 p2 p3 hvv
          go_roundw
          case rel => exact ⟨j + 1, by omega, by go_num, HI2⟩
          case measure => simp [intOf]; omega
      · obtain rfl : j = t.args.length := by omega
        rw [List.take_length] at hp
        have HP := hide hp
        have HX1 := hide (hx.bar fun b h => .inl h)
        have HMV := hide hmv
        have hat : AreAt R' t.args ns := by
          have h9 := (putL_kept t.args R HGR.out).2.1 ns (by rw [hp])
          rwa [hp] at h9
        have HAT := hide (AreAt.ltAll _ _ hat)
        have HRK := hide (show RwOk (t.h, ns) from by
          have h1 := HK.out.head
          have h2 := HSZ.out
          have h3 := HM.out
          have h4 := Tm.sizes_length t.args
          exact ⟨h1.1, h1.2, by simp only; omega, fun n hn => by have := HAT.out n hn; have := hx.fit; omega⟩)
        have HOW := hide hown
        have HIN := hide (show Ints (fun b => A b ∨ BZ xb mb rv' b) wr av (zs ns) from Ints.of_own (by rw [zs_length]; exact hown) fun b hb h => by
          rcases h with h | h
          · have := HLA.out b h; have := (hown.lt b hb).1; omega
          · exact hx.na b h (.inr (.inr hb)))
        have HRB := hide (show ¬ BZ xb mb rv' (w.heap.size + 1) from fun hz => hx.na _ hz (.inr (.inl rfl)))
        have HBX := hide hbx
        obtain ⟨-, z0, z1, -, -⟩ := box2 hbx
        clear hinv hp hx hmv hts hbx hown hnl hsz ih
        go_wp2
        refine drawn_tree (fun W => W.cell? ⟨w.heap.size + 1, 0, none⟩ = some (.int .i64 t.h) ∧ W.cell? ⟨w.heap.size + 1, 1, none⟩ = some av) (.take 0 (.take 1 (.take 2 (.take 3 (.one 4 (.take 5 (.take 6 (.take 7 (.take 8 (.take 9 .done)))))))))) (by kernel_rfl) (by kernel_rfl) (by kernel_rfl) (by kernel_rfl) (fun _ _ _ _ _ h => h) ?_ ?_
        · exact ⟨z0, z1⟩
        have g0 := (Below.refl wr.heap.size wr).drew
        have HX2 := hide (HX1.out.below g0)
        have HIN2 := hide (HIN.out.below g0)
        have HM2 := hide (HMV.out.trans (Moved.of_below (Z := BZ xb mb rv') g0))
        have HB2 := hide ((g0.block _ (Array.getElem?_eq_some_iff.1 HBX.out).1).trans HBX.out)
        have HT2 := hide (HTW.out.on (g0.mono (Nat.le_trans HBA.out HMV.out.1.size)))
        clear g0 HX1 HIN HMV HBX HTW HOW z0 z1
        generalize wr.drew = W0 at *
        iterate 4 (refine t_take (v := ?_) rfl (by rfl) ?_ ?_; rotate_left; (intro w hS; obtain ⟨hS1, hS2⟩ := hS; go_simp; try with_reducible rfl); simp only [Act.put, List.setIfInBounds_toArray, List.set_cons_zero, List.set_cons_succ])
        refine t_one rfl (by rfl) ?_
        intro K hK
        go_simp
        refine (tfind_calls A xb mb R' rv' f' base (t.h, ns) _ av W0 HRK.out HT2.out HX2.out HIN2.out).mono ?_
        rintro e wa ⟨rfl, ba⟩
        have HX3 := hide (HX2.out.below ba)
        have HIN3 := hide (HIN2.out.below ba)
        have HM3 := hide (HM2.out.trans (Moved.of_below (Z := BZ xb mb rv') ba))
        have HB3 := hide ((ba.block _ (Array.getElem?_eq_some_iff.1 HB2.out).1).trans HB2.out)
        have HT3 := hide (HT2.out.on (ba.mono (Nat.le_trans HBA.out HM2.out.1.size)))
        obtain ⟨-, z0, z1, -, -⟩ := box2 HB3.out
        refine hK.out _ _ ⟨z0, z1⟩ ?_
        clear hK K ba HX2 HIN2 HM2 HB2 HT2
        have hpe := HPE.out
        rw [HP.out] at hpe
        simp only at hpe
        cases hidx : idx R' (t.h, ns) with
        | some i =>
          rw [hidx] at hpe
          simp only at hpe
          have HPT := hide hpe
          clear hpe hidx
          simp only [numV, Option.getD_some, Option.isSome_some]
          iterate 5 (refine t_take (v := ?_) rfl (by rfl) ?_ ?_; rotate_left; (intro w hS; obtain ⟨hS1, hS2⟩ := hS; go_simp; try with_reducible rfl); simp only [Act.put, List.setIfInBounds_toArray, List.set_cons_zero, List.set_cons_succ])
          refine t_done ?_
          go_wp2
          go_ret2
          rw [HPT.out]
          exact ⟨rfl, rv', f', HX3.out, HM3.out⟩
        | none =>
          rw [hidx] at hpe
          simp only at hpe
          have HPT := hide hpe
          have HID := hide hidx
          clear hpe hidx
          simp only [numV, Option.getD_none, Option.isSome_none]
          iterate 5 (refine t_take (v := ?_) rfl (by rfl) ?_ ?_; rotate_left; (intro w hS; obtain ⟨hS1, hS2⟩ := hS; go_simp; try with_reducible rfl); simp only [Act.put, List.setIfInBounds_toArray, List.set_cons_zero, List.set_cons_succ])
          refine t_done ?_
          go_wp2
          refine drawn_tree (fun W => W.cell? ⟨w.heap.size + 1, 0, none⟩ = some (.int .i64 t.h) ∧ W.cell? ⟨w.heap.size + 1, 1, none⟩ = some av) (.take 0 (.take 1 (.take 2 (.take 3 (.one 4 (.take 5 (.take 6 (.take 7 (.take 8 .done))))))))) (by kernel_rfl) (by kernel_rfl) (by kernel_rfl) (by kernel_rfl) (fun _ _ _ _ _ h => h) ?_ ?_
          · exact ⟨z0, z1⟩
          have g0 := (Below.refl wa.heap.size wa).drew
          have HX4 := hide (HX3.out.below g0)
          have HIN4 := hide (HIN3.out.below g0)
          have HM4 := hide (HM3.out.trans (Moved.of_below (Z := BZ xb mb rv') g0))
          have HB4 := hide ((g0.block _ (Array.getElem?_eq_some_iff.1 HB3.out).1).trans HB3.out)
          have HT4 := hide (HT3.out.on (g0.mono (Nat.le_trans HBA.out HM3.out.1.size)))
          clear g0 HX3 HIN3 HM3 HB3 HT3 z0 z1
          generalize wa.drew = W1 at *
          iterate 4 (refine t_take (v := ?_) rfl (by rfl) ?_ ?_; rotate_left; (intro w hS; obtain ⟨hS1, hS2⟩ := hS; go_simp; try with_reducible rfl); simp only [Act.put, List.setIfInBounds_toArray, List.set_cons_zero, List.set_cons_succ])
          refine t_one rfl (by rfl) ?_
          intro K hK
          go_simp
          refine (keep_calls A xb mb R' rv' f' base (t.h, ns) av W1 HRK.out HT4.out HX4.out HIN4.out HID.out HAT.out).mono ?_
          rintro e wb (⟨hfl, rfl, bb⟩ | ⟨hfl, rfl, rv5, f5, hx5, hm5⟩)
          · have HX5 := hide (HX4.out.below bb)
            have HM5 := hide (HM4.out.trans (Moved.of_below (Z := BZ xb mb rv') bb))
            obtain ⟨-, z0, z1, -, -⟩ := box2 ((bb.block _ (Array.getElem?_eq_some_iff.1 HB4.out).1).trans HB4.out)
            refine hK.out _ _ ⟨z0, z1⟩ ?_
            have HPZ := hide (show putT R t = (R', none) by rw [HPT.out, if_pos hfl])
            clear hK K bb HX4 HIN4 HM4 HB4 HT4 hfl
            iterate 4 (refine t_take (v := ?_) rfl (by rfl) ?_ ?_; rotate_left; (intro w hS; obtain ⟨hS1, hS2⟩ := hS; go_simp; try with_reducible rfl); simp only [Act.put, List.setIfInBounds_toArray, List.set_cons_zero, List.set_cons_succ])
            refine t_done ?_
            go_wp2
            go_ret2
            rw [HPZ.out]
            exact ⟨rfl, rv', f', HX5.out, HM5.out⟩
          · have HX5 := hide hx5
            have HM5 := hide (HM4.out.trans hm5)
            obtain ⟨-, z0, z1, -, -⟩ := box2 (hm5.obj HRB.out HB4.out).1
            refine hK.out _ _ ⟨z0, z1⟩ ?_
            have HPZ := hide (show putT R t = (R' ++ [(t.h, ns)], some R'.length) by rw [HPT.out, if_neg (by omega)])
            clear hK K hx5 hm5 HX4 HIN4 HM4 HB4 HT4 hfl
            iterate 4 (refine t_take (v := ?_) rfl (by rfl) ?_ ?_; rotate_left; (intro w hS; obtain ⟨hS1, hS2⟩ := hS; go_simp; try with_reducible rfl); simp only [Act.put, List.setIfInBounds_toArray, List.set_cons_zero, List.set_cons_succ])
            refine t_done ?_
            go_wp2
            go_ret2
            rw [HPZ.out]
            exact ⟨rfl, rv5, f5, HX5.out, HM5.out⟩
end Go.Proofs.YtefmgooceeigbaaDoor
