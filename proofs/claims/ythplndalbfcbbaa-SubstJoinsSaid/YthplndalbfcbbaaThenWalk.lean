/- subst.Then, walked. -/
import Derived.Test.YthplndalbfcbbaaThenLaw
import Derived.Test.YthplndalbfcbbaaConcat
import Derived.Test.YthplndalbfcbbaaSort
import Derived.Test.YthplndalbfcbbaaSub4
set_option linter.unusedSimpArgs false
set_option linter.unusedVariables false
namespace Go.Proofs.Ythplndalbfcbbaa
open Go.RowKit

theorem Binds.old {w W : World} {s : Value} {bs : List Bd} {n : Nat} (h : Binds (fun _ => False) w s bs) (hn : w.heap.size ≤ n) (hB : Below w.heap.size w W) : Binds (fun b => n ≤ b) W s bs :=
  RepD.frame (fun b _ hlt => hB.block b hlt) (fun b hb h => by omega) _ _ h
theorem thenE_append (s u : List Bd) : ∀ a b : List Int, thenE s u (a ++ b) = if thenE s u a = 0 then thenE s u b else thenE s u a
  | [], b => by simp [thenE]
  | v :: a, b => by
    simp only [List.cons_append, thenE, thenE_append s u a b]
    split <;> simp_all
theorem thenE_snoc {s u : List Bd} {vs : List Int} {k : Nat} (h : k < vs.length) (h0 : thenE s u (vs.take k) = 0) : thenE s u (vs.take (k + 1)) = chk (bothT s u vs[k]) := by
  rw [List.take_succ_eq_append_getElem h, thenE_append, if_pos h0]
  simp only [thenE]
  split <;> simp_all
theorem thenE_stop {s u : List Bd} {vs : List Int} {k : Nat} (h : k < vs.length) (h0 : thenE s u (vs.take k) = 0) (hc : chk (bothT s u vs[k]) ≠ 0) : thenE s u vs = chk (bothT s u vs[k]) := by
  have h1 := thenE_snoc h h0
  have h3 := thenE_append s u (vs.take (k + 1)) (vs.drop (k + 1))
  rw [List.take_append_drop, h1, if_neg hc] at h3
  exact h3
theorem bothL_snoc {s u : List Bd} {vs : List Int} {k : Nat} (h : k < vs.length) : bothL s u (vs.take (k + 1)) = bothL s u (vs.take k) ++ if movesB s u vs[k] = true then [⟨vs[k], bothT s u vs[k]⟩] else [] := by
  rw [List.take_succ_eq_append_getElem h, bothL, List.filter_append, List.map_append, ← bothL]
  congr 1
  by_cases hm : movesB s u vs[k] = true
  · rw [if_pos hm]; simp [hm]
  · rw [if_neg hm]; simp [hm]
theorem bothL_length (s u : List Bd) (vs : List Int) : (bothL s u vs).length ≤ vs.length := by
  rw [bothL, List.length_map]; exact List.length_filter_le _ _
theorem right_range : ∀ (bs : List Bd) (x : Int), -1 ≤ x → okBs x bs = true → ∀ b, b ∈ bs → 0 ≤ b.v ∧ b.v ≤ 255
  | [], _, _, _, b, hb => by simp at hb
  | c :: bs, x, hx, h, b, hb => by
    simp only [okBs, Bool.and_eq_true, decide_eq_true_eq] at h
    rcases List.mem_cons.1 hb with rfl | hb
    · omega
    · exact right_range bs c.v (by omega) h.2 b hb
theorem ofT_var (bs : List Bd) (v : Int) : ofT bs (.node (-1 - v) []) = ofBs v bs := by
  rw [ofT, ← firstB_of]
  simp only [Tm.h]
  rw [show -1 - (-1 - v) = v by omega]
theorem binds1 {A : Nat → Prop} {W : World} {b : Nat} {T : TypeId} {s1 : Value} {b1 : Bd} (hb : W.heap[b]? = some (.cells #[.int .i64 b1.v, .int .i64 b1.t.h, s1] T (0, 0))) (hA : ¬ A b) (h1 : Terms A W s1 b1.t.args) : Binds A W (.slice (some ⟨b, 0, none⟩) 1 1) [b1] := by
  simp only [Binds, RepD]
  refine ⟨_, _, _, rfl, by simp, Nat.le_refl _, by omega, fun _ => ⟨b, 0, rfl, (Array.getElem?_eq_some_iff.1 hb).1, hA, ?_⟩⟩
  refine RepR.of [[.int .i64 b1.v, .int .i64 b1.t.h, s1]] _ 0 (by simp) (fun j hj => ?_) (.cons (repBd.2 ⟨s1, rfl, h1⟩) .nil)
  rw [Nat.zero_add]; simp only [World.cell?, hb]; simp
/-- The variables that come up. -/
def varsL (ss us : List Bd) : List Int := Lib.compact (sortI ((ss ++ us).map Bd.v))
theorem varsL_ok {ss us : List Bd} (hs : rightBs ss = true) (hu : rightBs us = true) : thenP ss us (varsL ss us) = thenP ss us (upto 256) ∧ ∀ v, v ∈ varsL ss us → 0 ≤ v ∧ v ≤ 255 := by
  have hc := compact_sorted (sortI_sorted ((ss ++ us).map Bd.v))
  have hm : ∀ v, v ∈ varsL ss us ↔ v ∈ (ss ++ us).map Bd.v := fun v => (hc.2 v).trans (sortI_mem _ v)
  have hr : ∀ v, v ∈ varsL ss us → 0 ≤ v ∧ v ≤ 255 := fun v hv => by
    obtain ⟨b, hb, rfl⟩ := List.mem_map.1 ((hm v).1 hv)
    rcases List.mem_append.1 hb with h | h
    · exact right_range ss (-1) (by omega) hs b h
    · exact right_range us (-1) (by omega) hu b h
  exact ⟨thenP_vars hs hu hc.1 hr fun v hv => (hm v).2 hv, hr⟩
theorem varsL_length (ss us : List Bd) : (varsL ss us).length ≤ ss.length + us.length := by
  have h1 := compact_length (sortI ((ss ++ us).map Bd.v))
  rw [sortI_length, List.length_map, List.length_append] at h1
  exact h1

set_option maxHeartbeats 8000000 in
set_option maxRecDepth 100000 in
theorem subthen_calls (ss us : List Bd) (m : Nat) (sb ub : Value) (w : World) (hr1 : ∀ b, b ∈ ss → -9223372036854775808 ≤ b.v ∧ b.v ≤ 9223372036854775807) (hr2 : ∀ b, b ∈ us → -9223372036854775808 ≤ b.v ∧ b.v ≤ 9223372036854775807)
    (hm : 1 ≤ m) (hm2 : m * m ≤ 1000000000) (hm9 : m ≤ 1000000000) (hb1 : ∀ b, b ∈ ss → b.t.size ≤ m) (hb2 : ∀ b, b ∈ us → b.t.size ≤ m) (hl1 : ss.length ≤ 1000) (hl2 : us.length ≤ 1000) (hsb : Binds (fun _ => False) w sb ss) (hub : Binds (fun _ => False) w ub us) :
    Calls Try.prog 47 #[sb, ub] w fun e w' => ∃ v, e = .returned (.tuple #[v, .int .i64 (thenT ss us).2]) ∧ Binds (fun _ => False) w' v (thenT ss us).1 ∧ Below w.heap.size w w' := by
  obtain ⟨a1, d1, rfl, hc1, hc1'⟩ := hsb.shape
  obtain ⟨a2, d2, rfl, hc2, hc2'⟩ := hub.shape
  go_enter Try.func47, Try.ntmps47
  have HB1 := hide (fun b hb => Nat.le_trans (hb1 b hb) hm9)
  have HB2 := hide (fun b hb => Nat.le_trans (hb2 b hb) hm9)
  have HC1 := hide hb1
  have HC2 := hide hb2
  have HR1 := hide hr1
  have HR2 := hide hr2
  clear hb1 hb2 hr1 hr2
  have nilB : ∀ W, Binds (fun _ => False) W (.slice none 0 0) [] := fun W => by simp only [Binds, RepD, List.map_nil]; exact ⟨none, 0, 0, rfl, rfl, by omega, by omega, by simp⟩
  have NILB := hide nilB
  clear nilB
  go_wp2_with fail
  refine (subcheck_calls ss (fun _ => False) _ _ HB1.out hsb).mono ?_
  rintro e w1 ⟨rfl, B1⟩
  have HCK1 := hide (show check3 ss = if rightBs ss then 0 else 1 from rfl)
  cases hrs : rightBs ss
  · have e1 := HCK1.out
    rw [hrs] at e1
    simp only [Bool.false_eq_true, if_false] at e1
    rw [e1]
    have HT := hide (show thenT ss us = ([], 1) by rw [thenT, if_neg]; simp [hrs])
    clear hrs e1 HCK1
    go_wp2
    exact bodyPost_ret (v := .tuple #[.slice none 0 0, .int .i64 1]) (by simp [results, Try.results47, go_sem]) rfl ⟨_, by rw [HT.out], by rw [HT.out]; exact NILB.out _, B1⟩
  have e1 := HCK1.out
  rw [hrs] at e1
  simp only [if_true] at e1
  rw [e1]
  have HRS := hide hrs
  clear hrs e1 HCK1
  go_wp2_with fail
  refine (subcheck_calls us (fun _ => False) _ _ HB2.out (hub.below B1)).mono ?_
  rintro e w2 ⟨rfl, h2⟩
  have B2 := more_below B1 h2
  clear h2 B1
  have HCK2 := hide (show check3 us = if rightBs us then 0 else 1 from rfl)
  cases hru : rightBs us
  · have e1 := HCK2.out
    rw [hru] at e1
    simp only [Bool.false_eq_true, if_false] at e1
    rw [e1]
    have HT := hide (show thenT ss us = ([], 1) by rw [thenT, if_neg]; simp [hru])
    clear hru e1 HCK2
    go_wp2
    exact bodyPost_ret (v := .tuple #[.slice none 0 0, .int .i64 1]) (by simp [results, Try.results47, go_sem]) rfl ⟨_, by rw [HT.out], by rw [HT.out]; exact NILB.out _, B2⟩
  have e1 := HCK2.out
  rw [hru] at e1
  simp only [if_true] at e1
  rw [e1]
  have HRU := hide hru
  have HT := hide (show thenT ss us = thenP ss us (varsL ss us) by rw [thenT, if_pos ⟨HRS.out, hru⟩, (varsL_ok HRS.out hru).1])
  have HVR := hide (varsL_ok HRS.out hru).2
  have HVL := hide (varsL_length ss us)
  clear hru e1 HCK2
  go_wp2_with fail
  have hal : Below w2.heap.size w2 (w2.alloc (.cells #[.slice a1 ss.length d1, .slice a2 us.length d2] 22)) := (Below.refl _ _).alloc (Nat.le_refl _) _
  have kg : (w2.alloc (.cells #[.slice a1 ss.length d1, .slice a2 us.length d2] 22)).heap[w2.heap.size]? = some (.cells #[.slice a1 ss.length d1, .slice a2 us.length d2] 22 (0, 0)) := World.alloc_heap_new _ _
  have Bg := more_below B2 hal
  obtain ⟨Lg, z0, z1, -, -⟩ := box2 kg
  refine (concat_calls ss us w2.heap.size _ _ _ (by omega) (by omega) z0 z1 Lg (hsb.below Bg) (hub.below Bg)).mono ?_
  rintro e w3 ⟨vc, rfl, hcc, h3⟩
  have B3 := more_below Bg h3
  clear hal kg Bg Lg z0 z1 h3 B2
  obtain ⟨ac, cc, rfl, hcl, hcl'⟩ := hcc.shape
  generalize hAll : ss ++ us = all at *
  have hal9 : all.length ≤ 2000 := by rw [← hAll, List.length_append]; omega
  have HVD := hide (show varsL ss us = Lib.compact (sortI (all.map Bd.v)) by rw [varsL, hAll])
  clear hAll
  go_wp2
  go_loopw [6, 29] (fun v i wr => ∃ k : Nat, k ≤ all.length ∧ i = .int .i64 k ∧ Below w3.heap.size w3 wr ∧ wr.ownsRow w3.heap.size 3 1 v k (((all.take k).map Bd.v).map (Value.int .i64))) (fun _ i _ => all.length - (intOf i).toNat)
  case atStart => exact ⟨0, by omega, rfl, Below.refl _ _, World.ownsRow_nil _ _ _ _⟩
  case round =>
    obtain ⟨k, hk, rfl, hB, hO⟩ := hrel
    by_cases hlt : k < all.length
    · obtain ⟨b, off, a', c', rfl, hbs, hbA, g0, g1, g2, g3⟩ := hcc.get k hlt
      have q1 := (hB.cell (p := ⟨b, off + k * 3, none⟩) hbs).trans g0
      have q2 := (hB.cell (p := ⟨b, off + k * 3 + 1, none⟩) hbs).trans g1
      have q3 := (hB.cell (p := ⟨b, off + k * 3 + 2, none⟩) hbs).trans g2
      have hsz := hB.size
      have HO := hide hO
      have HTK := hide (show ((all.take (k + 1)).map Bd.v).map (Value.int .i64) = ((all.take k).map Bd.v).map (Value.int .i64) ++ [.int .i64 all[k].v] by rw [List.take_succ_eq_append_getElem hlt, List.map_append, List.map_append]; rfl)
      clear g0 g1 g2 hO
      have hal : Below w3.heap.size w3 (wr.alloc (.cells #[.int .i64 all[k].v, .int .i64 all[k].t.h, .slice a' all[k].t.args.length c'] 60)) := hB.alloc hB.size _
      have hO2 := HO.out.alloc (.cells #[.int .i64 all[k].v, .int .i64 all[k].t.h, .slice a' all[k].t.args.length c'] 60)
      have HO2 := hide hO2
      have hbase9 : w3.heap.size ≤ (wr.alloc (.cells #[.int .i64 all[k].v, .int .i64 all[k].t.h, .slice a' all[k].t.args.length c'] 60)).heap.size := by rw [World.size_alloc]; omega
      have HBS := hide hbase9
      have hk9 : (k + 1) * 8 ≤ 140737488355328 := by omega
      clear hO2 hbase9
      go_wp2_with (at_builtin; refine app_pl rfl _ _ 37 rfl w3.heap.size 3 (.int .i64 0) 1 8 Try.underlying37 (by kernel_rfl) rfl (by decide) (by decide) u6 k _ rfl HO2.out 1 1 _ rfl (by simp [Value.oneCell']) (by rw [World.size_alloc]; rfl) hk9 HBS.out ?_; intro v' w9 r1 r2 r3 r4)
      have hob := HO2.out.lt
      obtain ⟨va, vc, rfl⟩ := r4
      go_roundw
      case rel =>
        refine ⟨k + 1, by omega, by go_num, (hal.trans ((r2.below (fun b hb h => by have := hob b h; omega) HBS.out))), ?_⟩
        rw [HTK.out]; exact r1
      case measure => simp [intOf]; omega
    · obtain rfl : k = all.length := by omega
      rw [List.take_length] at hO
      have Bw := more_below B3 hB
      have hl9 : (all.map Bd.v).length = all.length := List.length_map ..
      have hO' : wr.ownsRow w3.heap.size 3 1 u6 (all.map Bd.v).length ((all.map Bd.v).map (Value.int .i64)) := by rw [hl9]; exact hO
      have HO := hide hO'
      have hl10 : (all.map Bd.v).length ≤ 1000000 := by omega
      have hll : (sortI (all.map Bd.v)).length = (all.map Bd.v).length := sortI_length _
      clear hO hO' hlt hk hcc
      generalize hVS : all.map Bd.v = vs0 at *
      have HVD' := hide (show varsL ss us = Lib.compact (sortI vs0) by rw [HVD.out])
      clear hVS HVD
      have hw3 : w.heap.size ≤ w3.heap.size := B3.size
      go_wp2_with fail
      refine (sort_own vs0 w3.heap.size 3 u6 wr hl10 HO.out).mono ?_
      rintro en w5 ⟨rfl, row5, kp5⟩
      have hlt5 := HO.out.lt
      have k5 : Below w3.heap.size wr w5 := kp5.below (fun b hb h => by have := hlt5 b h; omega) hB.size
      have B5 : Below w.heap.size w w5 := Bw.trans (k5.mono hw3)
      have hw5 : w3.heap.size ≤ w5.heap.size := Nat.le_trans hB.size k5.size
      have hss := hsb.old hw3 B5
      clear kp5 HO hlt5
      go_wp2_with fail
      refine (open_calls ss (fun b => w3.heap.size ≤ b) _ w5 HR1.out hss).mono ?_
      rintro e w6 ⟨rfl, mb1, h6⟩
      have B6 := more_below B5 h6
      have row6 := ownsRow_keep row5 (Keep.of_below (S := fun _ => True) h6) (fun _ _ => trivial)
      have hw6 : w3.heap.size ≤ w6.heap.size := Nat.le_trans hw5 h6.size
      have huu := hub.old hw3 B6
      go_wp2_with fail
      refine (open_calls us (fun b => w3.heap.size ≤ b) _ w6 HR2.out huu).mono ?_
      rintro e w7 ⟨rfl, mb2, h7⟩
      have B7 := more_below B6 h7
      have row7 := ownsRow_keep row6 (Keep.of_below (S := fun _ => True) h7) (fun _ _ => trivial)
      have mb1' := mb1.below h7
      have HL5 := hide row5.lt
      have h6s := h6.size
      have h7s := h7.size
      have row7' : w7.ownsRow w3.heap.size 3 1 u6 (sortI vs0).length ((sortI vs0).map (Value.int .i64)) := by rw [hll]; exact row7
      have HR7 := hide row7'
      have hl11 : (sortI vs0).length ≤ 1000000 := by omega
      clear row5 row6 row7 row7' mb1 hss huu h6 h7 B5 B6 k5
      go_wp2_with fail
      refine (compact_own (sortI vs0) w3.heap.size 3 u6 w7 hl11 HR7.out).mono ?_
      rintro en w8 ⟨vv, rfl, iv, kp8⟩
      have B8 : Below w.heap.size w w8 := B7.trans (kp8.below (fun b hb h => by have := HL5.out b h; omega) (by omega))
      have M1 := (mb1'.keep kp8 (fun h => by have := HL5.out _ h; omega) (fun c _ hc h => by have := HL5.out c h; omega)).bar (B := fun _ => False) (fun _ _ h => h.elim)
      have M2 := (mb2.keep kp8 (fun h => by have := HL5.out _ h; omega) (fun c _ hc h => by have := HL5.out c h; omega)).bar (B := fun _ => False) (fun _ _ h => h.elim)
      rw [← HVD'.out] at iv
      generalize hvs : varsL ss us = vs at *
      have hvl : vs.length ≤ 2000 := by have := HVL.out; omega
      obtain ⟨av, cv, rfl, hvc, hvc'⟩ := iv.shape
      clear hvs HVD' kp8 mb1' mb2 HR7 HL5 B7 hll
      go_wp2
      go_loopw [11, 48] (fun v i wr => ∃ k : Nat, k ≤ vs.length ∧ i = .int .i64 k ∧ Below w8.heap.size w8 wr ∧ OwnD (fun _ => False) wr w8.heap.size 60 3 v ((bothL ss us (vs.take k)).map Bd.d) ∧ Hid (thenE ss us (vs.take k) = 0)) (fun _ i _ => vs.length - (intOf i).toNat)
      case atStart => exact ⟨0, by omega, rfl, Below.refl _ _, by simpa [bothL] using OwnD.nil _ _ _ _ _, hide rfl⟩
      case round =>
        obtain ⟨k, hk, rfl, hB, hO, hE⟩ := hrel
        by_cases hlt : k < vs.length
        · obtain ⟨b, off, rfl, hbs, -, g0⟩ := iv.get k hlt
          have hv := HVR.out vs[k] (List.getElem_mem hlt)
          have q1 := (hB.cell (p := ⟨b, off + k, none⟩) hbs).trans g0
          have hw1 : IntKind.i64.wrap (-1 - vs[k]) = -1 - vs[k] := IntWalk.i64_in _ (by omega)
          have HO := hide hO
          have HSTOP := hide (thenE_stop (s := ss) (u := us) hlt hE.out)
          have HSN := hide (thenE_snoc (s := ss) (u := us) hlt hE.out)
          have HBS := hide (bothL_snoc (s := ss) (u := us) hlt)
          have HMV := hide (show movesB ss us vs[k] = ((bothT ss us vs[k]).h != -1 - vs[k]) from rfl)
          have HXG := hide (ofBs_good HRS.out hv.1 hv.2)
          have HXS := hide (ofBs_size vs[k] hm ss HC1.out)
          have HBT := hide (show bothT ss us vs[k] = putT us (ofBs vs[k] ss) from rfl)
          clear g0 hO
          go_wp2_with fail
          have hol := HO.out.lt
          have MA1 := (M1.bar (B := fun b => u11.ownBlock = some b) (fun c hc h => by have := (hol c h).1; omega)).below hB
          have MA2 := (M2.bar (B := fun b => u11.ownBlock = some b) (fun c hc h => by have := (hol c h).1; omega)).below hB
          have ht := tabof_calls ss (.node (-1 - vs[k]) []) w5.heap.size (fun b => u11.ownBlock = some b) (-1 - vs[k]) (.slice none 0 0) wr (by simp only [Tm.h]; omega) (by simp only [Tm.h]; omega) MA1 ⟨rfl, Terms.nil _ _⟩
          rw [ofT_var] at ht
          refine ht.mono ?_
          rintro e w9 ⟨s9, rfl, t9, h9⟩
          clear ht
          generalize hx : ofBs vs[k] ss = x at *
          have HX := hide hx
          clear hx
          obtain ⟨a9, c9, rfl, -, -⟩ := t9.shape
          have B9 := hB.trans (h9.mono hB.size)
          go_wp2_with fail
          have hrb := rebuild_calls (serves_table w6.heap.size us) _ x (fun b => u11.ownBlock = some b) x.h (.slice a9 x.args.length c9) w9 (Nat.le_refl _) (fun b h => Nat.lt_of_lt_of_le (hol b h).2 h9.size) HXG.out (MA2.below h9) ⟨rfl, t9⟩
          rw [rbT_put us x HXG.out] at hrb
          refine hrb.mono ?_
          rintro e w10 ⟨s10, rfl, t10, h10⟩
          clear hrb
          have hys : (putT us x).size ≤ 1000000000 := Nat.le_trans (putT_size us hm HC2.out x) (Nat.le_trans (Nat.mul_le_mul_right m HXS.out) hm2)
          rw [← HBT.out] at hys t10
          rw [← HBT.out]
          generalize hy : bothT ss us vs[k] = y at *
          have HY := hide hy
          clear hy HBT
          obtain ⟨a10, c10, rfl, -, -⟩ := t10.shape
          have B10 := B9.trans (h10.mono B9.size)
          go_wp2_with fail
          have hen := end_calls y (fun b => u11.ownBlock = some b) y.h (.slice a10 y.args.length c10) w10 hys ⟨rfl, t10⟩
          refine hen.mono ?_
          rintro e w11 ⟨s11, he, t11, h11⟩
          have B11 := B10.trans (h11.mono B10.size)
          have B11w : Below w.heap.size w w11 := more_below B8 B11
          have O11 := ((HO.out.below h9).below h10).below h11
          clear hen h9 h10 h11 t9 t10 hB HO B9 B10 q1 hol MA1 MA2
          by_cases hck : chk y = 0
          · have HEN : endT y = (y, 0) := by rw [endT, if_pos hck]
            rw [HEN] at he t11
            subst he
            simp only at t11
            have HCK := hide hck
            clear hck HEN
            obtain ⟨a11, c11, rfl, -, -⟩ := t11.shape
            have kV : (w11.alloc (.cells #[.int .i64 y.h, .slice a11 y.args.length c11] 25)).heap[w11.heap.size]? = some (.cells #[.int .i64 y.h, .slice a11 y.args.length c11] 25 (0, 0)) := World.alloc_heap_new _ _
            have hal : Below w11.heap.size w11 (w11.alloc (.cells #[.int .i64 y.h, .slice a11 y.args.length c11] 25)) := (Below.refl _ _).alloc (Nat.le_refl _) _
            have hsz11 := B11.size
            have HE2 := hide (show thenE ss us (vs.take (k + 1)) = 0 by rw [HSN.out, HCK.out])
            by_cases hmv : y.h = -1 - vs[k]
            · have HNM := hide (show bothL ss us (vs.take (k + 1)) = bothL ss us (vs.take k) by rw [HBS.out, if_neg (by rw [HMV.out]; simpa using hmv), List.append_nil])
              have l1 : y.h ≤ -1 - vs[k] := by omega
              have l2 : -1 - vs[k] ≤ y.h := by omega
              have O12 := O11.below hal
              have B12 := B11.trans (hal.mono hsz11)
              clear hmv HSN HSTOP HBS HMV
              obtain ⟨-, z0, z1, -, -⟩ := box2 kV
              go_wp2
              go_roundw
              case rel => exact ⟨k + 1, by omega, by go_num, B12, by rw [HNM.out]; exact O12, HE2⟩
              case measure => simp [intOf]; omega
            · have HNM := hide (show bothL ss us (vs.take (k + 1)) = bothL ss us (vs.take k) ++ [⟨vs[k], y⟩] by rw [HBS.out, if_pos (by rw [HMV.out]; simpa using hmv)])
              have hal2 : Below w11.heap.size w11 ((w11.alloc (.cells #[.int .i64 y.h, .slice a11 y.args.length c11] 25)).alloc (.cells #[.int .i64 vs[k], .int .i64 y.h, .slice a11 y.args.length c11] 60)) := hal.alloc hal.size _
              have kb : ((w11.alloc (.cells #[.int .i64 y.h, .slice a11 y.args.length c11] 25)).alloc (.cells #[.int .i64 vs[k], .int .i64 y.h, .slice a11 y.args.length c11] 60)).heap[w11.heap.size + 1]? = some (.cells #[.int .i64 vs[k], .int .i64 y.h, .slice a11 y.args.length c11] 60 (0, 0)) := by
                have h := World.alloc_heap_new (w11.alloc (.cells #[.int .i64 y.h, .slice a11 y.args.length c11] 25)) (.cells #[.int .i64 vs[k], .int .i64 y.h, .slice a11 y.args.length c11] 60)
                rw [World.size_alloc] at h
                exact h
              have O12 := O11.below hal2
              have hlt12 := O11.lt
              have HD := hide (show RepD (fun b => False ∨ u11.ownBlock = some b) ((w11.alloc (.cells #[.int .i64 y.h, .slice a11 y.args.length c11] 25)).alloc (.cells #[.int .i64 vs[k], .int .i64 y.h, .slice a11 y.args.length c11] 60)) (.row 3 (([⟨vs[k], y⟩] : List Bd).map Bd.d)) [.slice (some ⟨w11.heap.size + 1, 0, none⟩) 1 1] from
                binds1 (b1 := ⟨vs[k], y⟩) kb (fun h => by
                  rcases h with h | h
                  · exact h
                  · have := hlt12 _ h; omega) (RepD.frame (fun b _ hlt => hal2.block b hlt) (fun b hb h => by
                  rcases h with h | h
                  · exact h.elim
                  · exact h) _ _ t11))
              have HO12 := hide O12
              have B12 := B11.trans (hal2.mono hsz11)
              have hbl := Nat.le_trans (bothL_length ss us (vs.take k)) (by rw [List.length_take]; exact Nat.min_le_left _ _)
              have hbase : w8.heap.size ≤ ((w11.alloc (.cells #[.int .i64 y.h, .slice a11 y.args.length c11] 25)).alloc (.cells #[.int .i64 vs[k], .int .i64 y.h, .slice a11 y.args.length c11] 60)).heap.size := Nat.le_trans hsz11 hal2.size
              have HBASE := hide hbase
              have HB12 := hide B12
              clear HSN HSTOP HBS HMV O12 B12 hbase hal hal2 hlt12 kb
              obtain ⟨-, z0, z1, -, -⟩ := box2 kV
              go_wp2_with (at_builtin; refine app_all_pl rfl (.tmp 72) (.tmp 76) 22 rfl w8.heap.size 60 (.agg #[.int .i64 0, .int .i64 0, .slice none 0 0]) 3 40 Try.underlying22 (by kernel_rfl) rfl (by decide) (v := u11) (xv := .slice (some ⟨w11.heap.size + 1, 0, none⟩) 1 1) rfl rfl HO12.out HD.out (fun d hd => by obtain ⟨z, -, rfl⟩ := List.mem_map.1 hd; exact Bd.oneD z) (by simp [maxLen]; omega) (by simp; omega) HBASE.out ?_; intro v' w' o' kp ob hsh)
              go_roundw
              case rel =>
                refine ⟨k + 1, by omega, by go_num, HB12.out.trans (kp.below (fun b hb h => by have := (HO12.out.lt b h).1; omega) HBASE.out), ?_, HE2⟩
                rw [HNM.out, List.map_append]; exact o'
              case measure => simp [intOf]; omega
          · have HEN : endT y = (.node 0 [], chk y) := by rw [endT, if_neg hck]
            rw [HEN] at he t11
            subst he
            obtain ⟨a11, c11, rfl, -, -⟩ := t11.shape
            have HRES := hide (show thenT ss us = ([], chk y) by rw [HT.out, thenP, HSTOP.out hck, if_neg hck])
            have hne : (chk y != 0) = true := by simpa using hck
            generalize chk y = ey at *
            clear hck HEN HSTOP HSN
            go_wp2
            exact bodyPost_ret (v := .tuple #[.slice none 0 0, .int .i64 ey]) (by simp [results, Try.results47, go_sem]) rfl ⟨_, by rw [HRES.out], by rw [HRES.out]; exact NILB.out _, B11w.alloc B11w.size _⟩
        · obtain rfl : k = vs.length := by omega
          have hE' := hE.out
          rw [List.take_length] at hO hE'
          have HRES := hide (show thenT ss us = (bothL ss us vs, 0) by rw [HT.out, thenP, if_pos hE'])
          have hR : Binds (fun _ => False) wr u11 (bothL ss us vs) := hO.rep (fun _ h => h.elim)
          have hBw := more_below B8 hB
          obtain ⟨ar, cr, rfl, -, -⟩ := hR.shape
          clear hE hE' hO hlt hk
          go_wp2
          exact bodyPost_ret (v := .tuple #[.slice ar (bothL ss us vs).length cr, .int .i64 0]) (by simp [results, Try.results47, go_sem]) rfl ⟨_, by rw [HRES.out], by rw [HRES.out]; exact hR, hBw⟩
end Go.Proofs.Ythplndalbfcbbaa
