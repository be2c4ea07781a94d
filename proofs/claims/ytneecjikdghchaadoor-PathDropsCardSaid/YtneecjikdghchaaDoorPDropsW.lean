/- PathDrops, walked. -/
import Derived.Test.YtneecjikdghchaaDoorPDropsP
import Derived.Test.YtneecjikdghchaaDoorFew5P
set_option linter.unusedSimpArgs false
set_option linter.unusedVariables false
namespace Go.Proofs.YtneecjikdghchaaDoor
open Go.RowKit

def errT (t : Tm) : Int := if chk t = 0 then 0 else 1
/-- What a search answers, told by a list. -/
theorem FP.out {k : Nat} {X : List (Int × Tm)} {t : Tm} {w w' : World} {e : Ending} (h : FP k X t w w' e) :
    ∃ a c l, e = .returned (.tuple #[.slice a l.length c, .int .i64 (errT t)]) ∧ IntsIn w' a l ∧ Below w.heap.size w w' ∧ (chk t ≠ 0 → l = []) ∧ (chk t = 0 → ∃ o, o.Nodup ∧ l = sortI o ∧ ∀ x, x ∈ o ↔ ∃ u, (x, u) ∈ X ∧ fitT k t u = true) := by
  by_cases hc : chk t = 0
  · obtain ⟨v, o, rfl, h1, h2, h3⟩ := h.2.1 hc
    obtain ⟨a, c, rfl, h4⟩ := ints_of_row h1
    exact ⟨a, c, sortI o, by rw [errT, if_pos hc], h4, h.2.2, fun h => absurd hc h, fun _ => ⟨o, h2, rfl, h3⟩⟩
  · exact ⟨none, 0, [], by rw [errT, if_neg hc]; exact h.1 hc, ⟨by simp, fun i hi => by simp at hi⟩, h.2.2, fun _ => rfl, fun h => absurd h hc⟩
theorem FP.same {k : Nat} {X : List (Int × Tm)} {t : Tm} {l l' : List Int} (h1 : chk t ≠ 0 → l = []) (h2 : chk t = 0 → ∃ o, o.Nodup ∧ l = sortI o ∧ ∀ x, x ∈ o ↔ ∃ u, (x, u) ∈ X ∧ fitT k t u = true)
    (h3 : chk t ≠ 0 → l' = []) (h4 : chk t = 0 → ∃ o, o.Nodup ∧ l' = sortI o ∧ ∀ x, x ∈ o ↔ ∃ u, (x, u) ∈ X ∧ fitT k t u = true) : l = l' := by
  by_cases hc : chk t = 0
  · obtain ⟨o, a1, a2, a3⟩ := h2 hc
    obtain ⟨o', b1, b2, b3⟩ := h4 hc
    rw [a2, b2]
    exact sortI_same a1 b1 fun x => by rw [a3, b3]
  · rw [h1 hc, h3 hc]
/-- Two indexes, the second one without place k. -/
def DInv (w : World) (xb rb hb ab yb sb tb ub : Nat) (l : List Tm) (k : Int) (bx b_y : Nat) (wr : World) (i : Nat) : Prop :=
  ∃ rx ry, PxOk wr (fun b => ry b ≠ none) xb rb hb ab (allX l i) rx bx ∧ PxOk wr (fun b => rx b ≠ none) yb sb tb ub (cutX (allX l i) k) ry b_y ∧ Below w.heap.size w wr ∧ bx ≤ wr.heap.size ∧ b_y ≤ wr.heap.size
set_option maxHeartbeats 8000000 in
set_option maxRecDepth 100000 in
theorem pdrops_calls (ts : List Tm) (k : Int) (t : Tm) (s : Value) (h : Int) (s2 : Value) (w : World) (hl : Terms (fun _ => False) w s ts) (ht : IsTm (fun _ => False) w h s2 t) :
    Calls Tryd.prog 5 #[s, .int .i64 k, .agg #[.int .i64 h, s2]] w fun e w' => e = .returned (.bool true) ∧ Below w.heap.size w w' := by
  obtain ⟨rfl, a, c, rfl, hlc, hc⟩ := ht.shape
  obtain ⟨la, lc, rfl, hllc, hlc2⟩ := hl.shape
  have b0 : Below w.heap.size w (w.alloc (.cells #[.int .i64 t.h, .slice a t.args.length c] 24)) := (Below.refl _ _).alloc (Nat.le_refl _) _
  have k0 := World.alloc_heap_new w (.cells #[.int .i64 t.h, .slice a t.args.length c] 24)
  have HL := hide hl
  have HT := hide ht.2
  have HB0 := hide b0
  clear hl ht b0
  go_enter Tryd.func5, Tryd.ntmps5
  go_wp2_with fail
  generalize w.alloc (.cells #[.int .i64 t.h, .slice a t.args.length c] 24) = w0 at *
  refine (few5_calls ts (fun _ => False) _ w0 (HL.out.over HB0.out fun _ h => h.elim)).mono ?_
  rintro e w1 ⟨rfl, b1⟩
  have HB1 := hide (more_below HB0.out b1)
  have k1 := (b1.block _ (Array.getElem?_eq_some_iff.1 k0).1).trans k0
  obtain ⟨kl, z0, z1, -, -⟩ := box2 k1
  clear b1 k0 HB0
  have HFS := hide (show fewS ts = true → Tm.sizes ts ≤ 500 from fewS_sizes)
  generalize fewS ts = fs at *
  cases fs
  · go_wp2
    go_ret
    exact ⟨rfl, HB1.out⟩
  go_wp2_with fail
  refine (few1_calls t (fun _ => False) _ _ w1 ⟨rfl, HT.out.over HB1.out fun _ h => h.elim⟩).mono ?_
  rintro e w2 ⟨rfl, b2⟩
  have HB2 := hide (more_below HB1.out b2)
  have k2 := (b2.block _ (Array.getElem?_eq_some_iff.1 k1).1).trans k1
  obtain ⟨kl2, y0, y1, -, -⟩ := box2 k2
  clear b2 k1 HB1 z0 z1 kl
  have HFB := hide (show fewB t = true → t.size ≤ 500 from few_size)
  generalize fewB t = fb at *
  cases fb
  · go_wp2
    go_ret
    exact ⟨rfl, HB2.out⟩
  have HSZ := hide (HFS.out trivial)
  have htz : t.size ≤ 500 := HFB.out rfl
  clear HFS HFB
  by_cases h20 : ts.length ≤ 20
  rotate_left
  · have hd : decide ((ts.length : Int) > 20) = true := by simp; omega
    go_wp2
    go_ret
    exact ⟨rfl, HB2.out⟩
  have hd20 : decide ((ts.length : Int) > 20) = false := by simp; omega
  by_cases hk0 : k < 0
  · have hd : decide (k < 0) = true := by simpa using hk0
    go_wp2
    go_ret
    exact ⟨rfl, HB2.out⟩
  have hdk : decide (k < 0) = false := by simpa using hk0
  by_cases hkl : k ≥ (ts.length : Int)
  · have hd : decide (k ≥ (ts.length : Int)) = true := by simpa using hkl
    go_wp2
    go_ret
    exact ⟨rfl, HB2.out⟩
  have hdl : decide (k ≥ (ts.length : Int)) = false := by simp; omega
  obtain ⟨kn, rfl⟩ : ∃ kn : Nat, k = (kn : Int) := ⟨k.toNat, by omega⟩
  have hkn : kn < ts.length := by omega
  clear hk0 hkl
  go_wp2_with fail
  refine (pnew_calls (fun _ => False) w2 (fun _ h => h.elim)).mono ?_
  rintro e w3 ⟨xb, rb, hb, ab, rx, rfl, hx3, b3⟩
  have HB3 := hide (more_below HB2.out b3)
  have k3 := (b3.block _ (Array.getElem?_eq_some_iff.1 k2).1).trans k2
  have s3 := b3.size
  clear b3
  go_wp2_with fail
  refine (pnew_calls (fun b => rx b ≠ none) w3 (fun b hb => (hx3.z b hb).2)).mono ?_
  rintro e w4 ⟨yb, sb, tb, ub, ry, rfl, hy4, b4⟩
  have hx4 := hx3.shift (A' := fun b => ry b ≠ none) (Keep.of_below b4) fun b hb => ⟨.inr (hy4.z b hb).1, (hy4.z b hb).2⟩
  have HB4 := hide (more_below HB3.out b4)
  have HK4 := hide ((b4.block _ (Array.getElem?_eq_some_iff.1 k3).1).trans k3)
  have HI := hide (show DInv w xb rb hb ab yb sb tb ub ts kn w2.heap.size w3.heap.size w4 0 from ⟨rx, ry, hx4, hy4, HB4.out, by have := b4.size; omega, b4.size⟩)
  have HW := hide (show w.heap.size ≤ w2.heap.size ∧ w2.heap.size ≤ w3.heap.size from ⟨HB2.out.size, s3⟩)
  have HKW := hide (show w.heap.size < w2.heap.size from kl2)
  have b24 : Below w2.heap.size w2 w4 → True := fun _ => trivial
  clear hx3 hx4 hy4 b4 k3 k2 HB3 HB4 b24 s3 kl2 y0 y1
  go_wp2_with fail
  go_loopw [9] (fun i wr => ∃ n : Nat, n ≤ ts.length ∧ i = .int .i64 n ∧ Hid (DInv w xb rb hb ab yb sb tb ub ts kn w2.heap.size w3.heap.size wr n) ∧ Hid (wr.heap[w.heap.size]? = some (.cells #[.int .i64 t.h, .slice a t.args.length c] 24 (0, 0)))) (fun i _ => ts.length - (intOf i).toNat)
  case atStart => exact ⟨0, by omega, rfl, HI, HK4⟩
  case round =>
    obtain ⟨n, hn, rfl, hinv, hkt⟩ := hrel
    by_cases hlt : n < ts.length
    · obtain ⟨rx', ry', hx5, hy5, b5, u1, u2⟩ := hinv.out
      have hxz := hx5.z
      have hyz := hy5.z
      have hrx : ∀ b, rx' b ≠ none → w.heap.size ≤ b := fun b hb => by have := (hxz b hb).1; have := HW.out; omega
      obtain ⟨gb, go, ga, gc, rfl, -, -, c0, c1, tx⟩ := (HL.out.over b5 hrx).get n hlt
      have hts : (ts[n]).size ≤ 500 := by
        have := psizes_take ts n hlt; have := HSZ.out; omega
      have hlen := allX_len ts n
      have HX5 := hide hx5
      have HY5 := hide hy5
      have HB5 := hide b5
      have HU5 := hide (show w2.heap.size ≤ wr.heap.size ∧ w3.heap.size ≤ wr.heap.size from ⟨u1, u2⟩)
      have HXZ := hide hxz
      have HYZ := hide hyz
      clear hinv hx5 hy5 b5 hrx hxz hyz u1 u2
      go_wp2_with fail
      refine (pput_calls n ts[n] _ _ wr (by omega) (by omega) (by omega) (by omega) HU5.out.1 HX5.out ⟨rfl, tx⟩).mono ?_
      rintro e w6 ⟨rfl, rx6, hx6, m6⟩
      rw [allX_put hlt (by omega)] at hx6
      generalize (pputX (allX ts n) n ts[n]).2 = er
      have hy6 := HY5.out.other hx6 m6
      have HB6 := hide (HB5.out.trans (m6.under (fun b hb => by have := (HXZ.out b hb).1; have := HW.out; omega) HB5.out.size))
      have HM6 := hide m6
      have HKT := hide ((m6.1.block _ (by have := HB5.out.size; have := HKW.out; have := HU5.out; omega) (by
        cases hr : rx' w.heap.size with
        | none => rfl
        | some r => have := (HXZ.out w.heap.size (by rw [hr]; simp)).1; have := HKW.out; omega)).trans hkt.out)
      have HU6 := hide (show w2.heap.size ≤ w6.heap.size ∧ w3.heap.size ≤ w6.heap.size from ⟨Nat.le_trans HU5.out.1 m6.1.size, Nat.le_trans HU5.out.2 m6.1.size⟩)
      clear hkt tx c0 c1
      by_cases hnk : (n : Int) = (kn : Int)
      · obtain rfl : n = kn := by omega
        have hne : ((n : Int) != (n : Int)) = false := by simp
        rw [← skipX_at] at hy6
        have HI2 := hide (show DInv w xb rb hb ab yb sb tb ub ts n w2.heap.size w3.heap.size w6 (n + 1) from ⟨rx6, ry', hx6, hy6, HB6.out, HU6.out.1, HU6.out.2⟩)
        clear hx6 hy6 m6 HX5 HY5
        go_wp2
        go_roundw
        case rel => exact ⟨n + 1, by omega, by go_num, HI2, HKT⟩
        case measure => simp [intOf]; omega
      · have hne : ((n : Int) != (kn : Int)) = true := by simp; omega
        have hry : ∀ b, ry' b ≠ none → w.heap.size ≤ b := fun b hb => by have := (HYZ.out b hb).1; have := HW.out; omega
        obtain ⟨gb', go', ga', gc', e9, -, -, c0, c1, ty⟩ := (HL.out.over HB6.out hry).get n hlt
        simp only [Option.some.injEq, Addr.mk.injEq, and_true] at e9
        obtain ⟨rfl, rfl⟩ := e9
        have hlen2 := cutX_len (allX ts n) kn
        have HX6 := hide hx6
        have HY6 := hide hy6
        clear hx6 hy6 m6 HX5 HY5 hry
        go_wp2_with fail
        refine (pput_calls n ts[n] _ _ w6 (by omega) (by omega) (by omega) (by omega) HU6.out.2 HY6.out ⟨rfl, ty⟩).mono ?_
        rintro e w7 ⟨rfl, ry7, hy7, m7⟩
        rw [skipX_put hlt (by omega) hnk] at hy7
        generalize (pputX (cutX (allX ts n) kn) n ts[n]).2 = er2
        have hx7 := HX6.out.other hy7 m7
        have HB7 := hide (HB6.out.trans (m7.under (fun b hb => by have := (HYZ.out b hb).1; have := HW.out; omega) HB6.out.size))
        have HKT7 := hide ((m7.1.block _ (by have := HB6.out.size; have := HKW.out; have := HU6.out; omega) (by
          cases hr : ry' w.heap.size with
          | none => rfl
          | some r => have := (HYZ.out w.heap.size (by rw [hr]; simp)).1; have := HKW.out; have := HW.out; have := HU5.out; omega)).trans HKT.out)
        have HI2 := hide (show DInv w xb rb hb ab yb sb tb ub ts kn w2.heap.size w3.heap.size w7 (n + 1) from ⟨rx6, ry7, hx7, hy7, HB7.out, Nat.le_trans HU6.out.1 m7.1.size, Nat.le_trans HU6.out.2 m7.1.size⟩)
        clear hx7 hy7 m7 HX6 HY6 c0 c1 ty
        go_wp2
        go_roundw
        case rel => exact ⟨n + 1, by omega, by go_num, HI2, HKT7⟩
        case measure => simp [intOf]; omega
    · obtain rfl : n = ts.length := by omega
      obtain ⟨rx5, ry5, hx5, hy5, b5, u1, u2⟩ := hinv.out
      have hxz := hx5.z
      have HB5 := hide b5
      have HY5 := hide hy5
      have HKT := hide hkt.out
      have HU5 := hide (show w2.heap.size ≤ wr.heap.size ∧ w3.heap.size ≤ wr.heap.size from ⟨u1, u2⟩)
      have hchk : ∀ q ∈ allX ts ts.length, chk q.2 = 0 := fun q hq => by obtain ⟨j, -, -, -, h⟩ := (allX_mem _ _ _).1 hq; exact h
      have hchk2 : ∀ q ∈ cutX (allX ts ts.length) kn, chk q.2 = 0 := fun q hq => hchk q (mem_cutX.1 hq).1
      have HC2 := hide hchk2
      have hlen := allX_len ts ts.length
      have hlen2 := cutX_len (allX ts ts.length) kn
      clear hinv hkt hy5 b5 hchk2
      go_wp2_with fail
      refine (pdrop_calls kn wr (by omega) (by omega) u1 hchk hx5).mono ?_
      rintro e w6 ⟨rfl, hx6, m6⟩
      rw [drop_all hkn] at hx6 ⊢
      have hy6 := HY5.out.other hx6 m6
      have HB6 := hide (HB5.out.trans (m6.under (fun b hb => by have := (hxz b hb).1; have := HW.out; omega) HB5.out.size))
      have HKT6 := hide ((m6.1.block _ (by have := HU5.out; have := HKW.out; omega) (by
        cases hr : rx5 w.heap.size with
        | none => rfl
        | some r => have := (hxz w.heap.size (by rw [hr]; simp)).1; have := HKW.out; omega)).trans HKT.out)
      have hu6 := m6.1.size
      have HEC := hide (show ((if chk ts[kn] = 0 then (0 : Int) else 6) == 0) = (chk ts[kn] == 0) by
        by_cases h9 : chk ts[kn] = 0
        · rw [if_pos h9, h9]
        · rw [if_neg h9]; simp [h9])
      simp only
      generalize (if chk ts[kn] = 0 then (0 : Int) else 6) = er at *
      clear m6 hx5 HB5 HY5 HKT hchk
      go_wp2_with fail
      refine (pdrop_calls kn w6 (by omega) (by omega) (Nat.le_trans u1 hu6) HC2.out hx6).mono ?_
      rintro e w7 ⟨rfl, hx7, m7⟩
      rw [drop_again] at hx7 ⊢
      have hy7 := hy6.other hx7 m7
      have HB7 := hide (HB6.out.trans (m7.under (fun b hb => by have := (hxz b hb).1; have := HW.out; omega) HB6.out.size))
      have HKT7 := hide ((m7.1.block _ (by have := HU5.out; have := HKW.out; omega) (by
        cases hr : rx5 w.heap.size with
        | none => rfl
        | some r => have := (hxz w.heap.size (by rw [hr]; simp)).1; have := HKW.out; omega)).trans HKT6.out)
      simp only
      clear m7 hx6 hy6 HB6 HKT6 hxz
      obtain ⟨kl7, z0, z1, -, -⟩ := box2 HKT7.out
      go_wp2_with fail
      refine (pf2_calls t (fun _ => False) _ _ w7 (by omega) (by omega) hx7 ⟨rfl, HT.out.over HB7.out fun _ h => h.elim⟩).mono ?_
      rintro e w8 hp
      obtain ⟨a1, c1, l1, rfl, i1, b8, p1, p2⟩ := hp.out
      have hx8 := hx7.below b8
      have hy8 := hy7.below b8
      have k8 := (b8.block _ kl7).trans HKT7.out
      have HB8 := hide (more_below HB7.out b8)
      have HP1 := hide p1
      have HP2 := hide p2
      clear hp b8 hx7 hy7 z0 z1 kl7 p1 p2
      obtain ⟨kl8, z0, z1, -, -⟩ := box2 k8
      go_wp2_with fail
      refine (pf2_calls t (fun _ => False) _ _ w8 (by omega) (by omega) hy8 ⟨rfl, HT.out.over HB8.out fun _ h => h.elim⟩).mono ?_
      rintro e w9 hp
      obtain ⟨a2, c2, l2, rfl, i2, b9, p3, p4⟩ := hp.out
      obtain rfl := FP.same HP1.out HP2.out p3 p4
      have hx9 := hx8.below b9
      have hy9 := hy8.below b9
      have i1 := i1.below b9
      have k9 := (b9.block _ kl8).trans k8
      have HB9 := hide (more_below HB8.out b9)
      clear hp b9 hx8 hy8 z0 z1 kl8 k8 p3 p4 HP1 HP2
      obtain ⟨kl9, z0, z1, -, -⟩ := box2 k9
      go_wp2_with fail
      refine (pf0_calls t (fun _ => False) _ _ w9 (by omega) (by omega) hx9 ⟨rfl, HT.out.over HB9.out fun _ h => h.elim⟩).mono ?_
      rintro e w10 hp
      obtain ⟨a3, c3, l3, rfl, i3, b10, p1, p2⟩ := hp.out
      have hx10 := hx9.below b10
      have hy10 := hy9.below b10
      have i1 := i1.below b10
      have i2 := i2.below b10
      have k10 := (b10.block _ kl9).trans k9
      have HB10 := hide (more_below HB9.out b10)
      have HP1 := hide p1
      have HP2 := hide p2
      clear hp b10 hx9 hy9 z0 z1 kl9 k9 p1 p2
      obtain ⟨kl10, z0, z1, -, -⟩ := box2 k10
      go_wp2_with fail
      refine (pf0_calls t (fun _ => False) _ _ w10 (by omega) (by omega) hy10 ⟨rfl, HT.out.over HB10.out fun _ h => h.elim⟩).mono ?_
      rintro e w11 hp
      obtain ⟨a4, c4, l4, rfl, i4, b11, p3, p4⟩ := hp.out
      obtain rfl := FP.same HP1.out HP2.out p3 p4
      have hx11 := hx10.below b11
      have hy11 := hy10.below b11
      have i1 := i1.below b11
      have i2 := i2.below b11
      have i3 := i3.below b11
      have HB11 := hide (more_below HB10.out b11)
      clear hp b11 hx10 hy10 z0 z1 kl10 k10 p3 p4 HP1 HP2
      go_wp2_with fail
      refine (awake17_calls w11).mono ?_
      rintro e w12 ⟨rfl, b12⟩
      have hx12 := hx11.below b12
      have hy12 := hy11.below b12
      have i1 := i1.below b12
      have i2 := i2.below b12
      have i3 := i3.below b12
      have i4 := i4.below b12
      have HB12 := hide (more_below HB11.out b12)
      clear b12 hx11 hy11
      obtain ⟨gb, go, ga, gc, rfl, -, -, d0, d1, tx⟩ := (HL.out.over HB12.out (R := fun _ => False) fun _ h => h.elim).get kn hkn
      have hts : (ts[kn]).size ≤ 500 := by
        have := psizes_take ts kn hkn; have := HSZ.out; omega
      go_wp2_with fail
      refine (check_calls ts[kn] (fun _ => False) _ _ w12 ⟨rfl, tx⟩ (by omega)).mono ?_
      rintro e w13 ⟨rfl, b13⟩
      have hx13 := hx12.below b13
      have hy13 := hy12.below b13
      have i1 := i1.below b13
      have i2 := i2.below b13
      have i3 := i3.below b13
      have i4 := i4.below b13
      have HB13 := hide (more_below HB12.out b13)
      have hec := HEC.out
      clear b13 hx12 hy12 d0 d1 tx
      go_wp2_with fail
      refine (rints_calls l1 l1 _ _ _ _ w13 i1 i2).mono ?_
      rintro e w14 ⟨rfl, b14⟩
      have hx14 := hx13.below b14
      have hy14 := hy13.below b14
      have i3 := i3.below b14
      have i4 := i4.below b14
      have HB14 := hide (more_below HB13.out b14)
      rw [show decide (l1 = l1) = true from decide_eq_true rfl]
      clear b14 hx13 hy13 i1 i2
      go_wp2_with fail
      refine (rints_calls l3 l3 _ _ _ _ w14 i3 i4).mono ?_
      rintro e w15 ⟨rfl, b15⟩
      have hx15 := hx14.below b15
      have hy15 := hy14.below b15
      have HB15 := hide (more_below HB14.out b15)
      rw [show decide (l3 = l3) = true from decide_eq_true rfl]
      clear b15 hx14 hy14 i3 i4
      go_wp2_with fail
      refine (psize_calls w15 hx15).mono ?_
      rintro e w16 ⟨rfl, rfl⟩
      go_wp2_with fail
      refine (psize_calls w15 hy15).mono ?_
      rintro e w17 ⟨rfl, rfl⟩
      clear hx15 hy15
      go_wp2
      go_ret
      exact ⟨rfl, HB15.out⟩
end Go.Proofs.YtneecjikdghchaaDoor
