/- What the proof of the law rests on: contracts of the functions, plain laws, and words. -/
import Derived.Test.YthplndalbfcbbaaKMatchUnifiesXMeasure
import Derived.Test.YthplndalbfcbbaaKMatchUnifiesXFull
import Derived.Test.YthplndalbfcbbaaKMatchUnifiesG6
set_option linter.unusedSimpArgs false
set_option linter.unusedVariables false
namespace Go.Proofs.Ythplndalbfcbbaa
open Go.RowKit
def endL (S : Sub) : List Int → List Bd → List Bd × Int
  | [], acc => (acc, 0)
  | v :: vs, acc => if 400 < (S v).size then ([], 2) else if 40 < (S v).depth then ([], 7) else endL S vs (acc ++ [⟨v, S v⟩])
def domL (f : Env) : List Int := (upto 256).filter fun v => (f v).isSome
theorem dom_eq {f : Env} {vs : List Int} (hs : vs.Pairwise (· < ·)) (hv : ∀ v, v ∈ vs ↔ ∃ t, f v = some t) (hr : ∀ v t, f v = some t → 0 ≤ v ∧ v ≤ 255) : vs = domL f := by
  unfold domL
  refine sorted_ext _ _ hs ((upto_sorted 256).filter _) fun v => ?_
  simp only [List.mem_filter, mem_upto, hv v, Option.isSome_iff_exists]
  constructor
  · rintro ⟨t, ht⟩; have := hr v t ht; exact ⟨⟨this.1, by have := this.2; omega⟩, t, ht⟩
  · rintro ⟨_, h⟩; exact h
theorem KStep.int {T : TypeId} {w w' : World} {kb lo b o : Nat} {F : Int → Option Value} {x : Int} (k : KStep kb w w') (hk : KnAt T w kb lo F) (h : w.cell? ⟨b, o, none⟩ = some (.int .i64 x)) : w'.cell? ⟨b, o, none⟩ = some (.int .i64 x) := by
  have hlt := World.block_lt_of_cell? _ _ h
  have hne : b ≠ kb := by
    rintro rfl
    obtain ⟨m, e1, -⟩ := hk
    simp only [World.cell?, e1] at h
    cases o with
    | zero => simp at h
    | succ o => simp at h
  cases hb : w.heap[b]? with
  | none => simp [World.cell?, hb] at h
  | some ob =>
    have hnm : w.cell? ⟨kb, 0, none⟩ ≠ some (.map (some b)) := fun e => by
      obtain ⟨-, h2⟩ := hk.cellOf e
      obtain ⟨es, cl, h3, -⟩ := h2
      simp [World.cell?, h3] at h
    have := k.keep.obj ⟨hne, hnm⟩ hb
    simp only [World.cell?, hb] at h
    simp only [World.cell?, this]
    exact h
theorem KStep.own {kb : Nat} {w0 w w' : World} {v : Value} (h : KStep kb w0 w) (kp : Keep (fun b => v.ownBlock ≠ some b) w w') (hv : ∀ b, v.ownBlock = some b → w0.heap.size ≤ b) (hkb : kb < w0.heap.size) : KStep kb w0 w' := by
  have hsz := h.keep.size
  have e : w'.cell? ⟨kb, 0, none⟩ = w.cell? ⟨kb, 0, none⟩ := by
    simp only [World.cell?, kp.block kb (by omega) (fun e => by have := hv _ e; omega)]
  exact ⟨⟨kp.os.trans h.keep.os, kp.tape.trans h.keep.tape, kp.output.trans h.keep.output, Nat.le_trans hsz kp.size, fun x hx hS => (kp.block x (by omega) (fun e => by have := hv _ e; omega)).trans (h.keep.block x hx hS)⟩, fun mb h1 => h.map mb (e ▸ h1), fun mb h1 => e.symm ▸ h.stay mb h1⟩
theorem KnAt.own {T : TypeId} {w w' : World} {kb lo mb : Nat} {F : Int → Option Value} {v : Value} (h : KnAt T w kb lo F) (hc : w.cell? ⟨kb, 0, none⟩ = some (.map (some mb))) (kp : Keep (fun b => v.ownBlock ≠ some b) w w') (h1 : v.ownBlock ≠ some kb) (h2 : v.ownBlock ≠ some mb) : KnAt T w' kb lo F ∧ w'.cell? ⟨kb, 0, none⟩ = some (.map (some mb)) := by
  obtain ⟨m, e1, e2, e3⟩ := h
  have e := hc
  rw [(box1 e1).2.1] at e
  simp only [Option.some.injEq, Value.map.injEq] at e
  subst e
  have e4 := kp.obj h1 e1
  exact ⟨⟨_, e4, e2, fun mb' e => by cases e; exact ⟨(e3 mb rfl).1.keep kp h2, (e3 mb rfl).2⟩⟩, (box1 e4).2.1⟩
set_option maxHeartbeats 8000000 in
set_option maxRecDepth 100000 in
theorem uend_calls (A A0 : Nat → Prop) (sb ss : Nat) (f : Env) (S : Sub) (hS : Solved f S) (w : World) (hA : ∀ b, A b → b < w.heap.size) (hsol : SolAt A0 w sb ss f) :
    Calls Try.prog 116 #[.pointer (some ⟨ss, 0, none⟩)] w fun e w' => ∃ v, e = .returned (.tuple #[v, .int .i64 (endL S (domL f) []).2]) ∧ Binds A w' v (endL S (domL f) []).1 ∧ Below w.heap.size w w' := by
  have HAO := hide hA
  have HSO := hide hsol
  have hssl := hsol.lt_size
  have hB0 : Below w.heap.size w (w.alloc (.cells #[.map none] 189)) := (Below.refl _ _).alloc (Nat.le_refl _) _
  have hn0 : (w.alloc (.cells #[.map none] 189)).heap[w.heap.size]? = some (.cells #[.map none] 189 (0, 0)) := World.alloc_heap_new _ _
  have HKN := hide (show KnAt 189 (w.alloc (.cells #[.map none] 189)) w.heap.size ss (fun _ => none) from ⟨none, hn0, fun _ _ => rfl, fun mb e => by cases e⟩)
  have HS0 := hide (hsol.below hB0)
  have y0 := HS0.out.load
  have HB0 := hide hB0
  have HN0 := hide (box1 hn0).2.1
  clear hA hsol hB0 hn0
  go_enter Try.func116, Try.ntmps116
  go_wp2_with fail
  obtain ⟨F, hF, hFv⟩ := HS0.out.env
  have HFW := hide hF
  have HFV := hide hFv
  have HR := hide (show ∀ x v, F x = some v → 0 ≤ x ∧ x ≤ 255 from fun x v hx => by
    cases hfx : f x with
    | none => rw [(hFv x).1 hfx] at hx; cases hx
    | some t => exact ⟨(hS.rng x t hfx).1, (hS.rng x t hfx).2.1⟩)
  clear hF hFv
  generalize w.alloc (.cells #[.map none] 189) = W0 at *
  refine (keys_calls sb W0).mono ?_
  rintro e w5 ⟨rfl, hw5⟩
  subst hw5
  go_wp2_with fail
  refine (sorted_calls sb F W0 HFW.out HR.out).mono ?_
  rintro e w6 ⟨vv, vs, rfl, hvs, hvm, iv, h6⟩
  have hvd := dom_eq (f := f) hvs (fun v => by
    rw [hvm v]
    constructor
    · rintro ⟨u, hu⟩
      cases hfx : f v with
      | none => rw [(HFV.out v).1 hfx] at hu; cases hu
      | some t => exact ⟨t, rfl⟩
    · rintro ⟨t, ht⟩
      obtain ⟨s, h1, _⟩ := (HFV.out v).2 t ht
      exact ⟨_, h1⟩) (fun v t ht => ⟨(hS.rng v t ht).1, (hS.rng v t ht).2.1⟩)
  have HVD := hide hvd
  have HVR := hide (show ∀ v, v ∈ vs → ∃ t, f v = some t from fun v hv => by
    obtain ⟨u, hu⟩ := (hvm v).1 hv
    cases hfx : f v with
    | none => rw [(HFV.out v).1 hfx] at hu; cases hu
    | some t => exact ⟨t, rfl⟩)
  have hvl : vs.length ≤ 256 := pigeon 256 vs (List.nodup_iff_pairwise_ne.2 (hvs.imp fun h => by omega)) fun x hx => by
    obtain ⟨t, ht⟩ := HVR.out x hx
    have := hS.rng x t ht
    omega
  obtain ⟨av, cv, rfl, hcv, hcv'⟩ := iv.shape
  have HB6 := hide (more_below HB0.out h6)
  have HK6 := hide (HKN.out.below h6)
  have HN6 := hide (show w6.cell? ⟨w.heap.size, 0, none⟩ = some (.map none) from (h6.cell (World.block_lt_of_cell? _ _ HN0.out)).trans HN0.out)
  have HS6 := hide (HS0.out.below h6)
  have HF6 := hide (HFW.out.below h6)
  have HIV := hide iv
  generalize hkb : w.heap.size = kb at *
  have HKB := hide hkb
  have hkl : kb < w6.heap.size := HK6.out.lt
  have hssk : ss < kb := hssl
  clear hvs hvm h6 hvd HFW HS0 HKN HB0 y0 iv hkb
  go_wp2
  go_loopw [4, 16] (fun v i wr => ∃ (k : Nat) (acc : List Bd) (F' : Int → Option Value), k ≤ vs.length ∧ i = .int .i64 k ∧ Hid (endL S (vs.drop k) acc = endL S vs []) ∧ Hid (KStep kb w6 wr) ∧ Hid (KnAt 189 wr kb ss F') ∧ Hid (okMS S F') ∧ acc.length ≤ k ∧
    Hid ((k = 0 ∧ v = .slice none 0 0 ∧ acc = []) ∨ ∃ B mb, w6.heap.size ≤ B ∧ B ≤ wr.heap.size ∧ mb < B ∧ wr.cell? ⟨kb, 0, none⟩ = some (.map (some mb)) ∧ OwnD (fun b => b < B) wr B 60 3 v (acc.map Bd.d))) (fun _ i _ => vs.length - (intOf i).toNat)
  case atStart => exact ⟨0, [], _, by omega, rfl, hide rfl, hide (KStep.of_below (Below.refl _ _) hkl), HK6, hide (fun x u h => by cases h), by simp, hide (.inl ⟨rfl, rfl, rfl⟩)⟩
  case round =>
    obtain ⟨k, acc, F', hk, rfl, he, hst, hkn, hok, hac, hown⟩ := hrel
    have HBE : Hid (∀ w9, KStep kb w6 w9 → Below kb w w9) := hide fun w9 h9 => HB6.out.trans (h9.keep.below (B := kb) (fun b hb => ⟨by omega, fun e => by rw [HN6.out] at e; simp at e⟩) (Nat.le_of_lt hkl))
    by_cases hlt : k < vs.length
    · obtain ⟨b, off, rfl, hbs, -, g0⟩ := HIV.out.get k hlt
      have q1 := hst.out.int HK6.out g0
      obtain ⟨t, ht⟩ := HVR.out vs[k] (List.getElem_mem hlt)
      have hrt := hS.rng _ _ ht
      have HSO6 := hide (HS6.out.kstep HK6.out hssk hst.out)
      have hvar : app S (varT vs[k]) = S vs[k] := app_var S hrt.1
      have hme := measure_calls A0 sb ss f S hS kb hssk (1000000 + (S vs[k]).size * 1000) 1 (varT vs[k]) (by simp [varT, Tm.size, Tm.sizes]) (good_varT hrt.1 hrt.2.1) (fun u hu => by
        rw [occ_var hrt.1] at hu
        subst hu
        unfold rankU; omega) wr F' (-1 - vs[k]) (.slice none 0 0) HSO6.out hkn.out hok.out ⟨rfl, Terms.nil _ _⟩
      clear g0
      go_wp2_with fail
      refine hme.mono ?_
      rintro e w7 ⟨rfl, F7, s7, k7, o7, t7⟩
      rw [hvar]
      have HS7 := hide s7
      have HK7 := hide k7
      have HO7 := hide o7
      obtain ⟨u7, hu7⟩ := t7 (by show -1 - vs[k] < 0; omega) ⟨t, by show f (-1 - (-1 - vs[k])) = some t; rw [show -1 - (-1 - vs[k]) = vs[k] by omega]; exact ht⟩
      obtain ⟨mb, hmc⟩ : ∃ mb, w7.cell? ⟨kb, 0, none⟩ = some (.map (some mb)) := by
        obtain ⟨m, e1, e2, e3⟩ := k7
        cases m with
        | none => rw [e2 rfl] at hu7; cases hu7
        | some mb => exact ⟨mb, (box1 e1).2.1⟩
      have HMC := hide hmc
      have HML := hide (k7.mlt hmc)
      clear t7 hu7 hmc
      have HV7 := hide (show endL S (vs.drop k) acc = if 400 < (S vs[k]).size then ([], 2) else if 40 < (S vs[k]).depth then ([], 7) else endL S (vs.drop (k + 1)) (acc ++ [⟨vs[k], S vs[k]⟩]) by rw [List.drop_eq_getElem_cons hlt, endL])
      have hz : (400 < zm (S vs[k]) ↔ 400 < (S vs[k]).size) := by unfold zm; omega
      have hd : (40 < dm (S vs[k]) ↔ 40 < (S vs[k]).depth) := by unfold dm; omega
      have HZ := hide hz
      have HD := hide hd
      generalize zm (S vs[k]) = zc at *
      generalize dm (S vs[k]) = dc at *
      clear hme s7 k7 o7 hvar hz hd q1
      have hal := (Below.refl w7.heap.size w7).alloc (Nat.le_refl _) (.cells #[.int .i64 zc, .int .i64 dc] 190)
      have HAL := hide hal
      have HST8 := hide ((hst.out.trans HS7.out).trans (KStep.of_below hal HK7.out.lt))
      clear hal
      by_cases h4 : 400 < (S vs[k]).size
      · have hzc := HZ.out.2 h4
        have HE := hide (show endL S (domL f) [] = ([], 2) by rw [← HVD.out, ← he.out, HV7.out, if_pos h4])
        have HBW := hide (HBE.out _ HST8.out)
        clear h4
        go_wp2
        exact bodyPost_ret (v := .tuple #[.slice none 0 0, .int .i64 2]) (by simp [results, Try.results116, go_sem]) rfl ⟨_, by rw [HE.out], by rw [HE.out]; (simp only [Binds, RepD, List.map_nil]; exact ⟨none, 0, 0, rfl, rfl, by omega, by omega, by simp⟩), by rw [HKB.out]; exact HBW.out⟩
      · have hzc : ¬ 400 < zc := fun h => h4 (HZ.out.1 h)
        by_cases h5 : 40 < (S vs[k]).depth
        · have hdc := HD.out.2 h5
          have HE := hide (show endL S (domL f) [] = ([], 7) by rw [← HVD.out, ← he.out, HV7.out, if_neg h4, if_pos h5])
          have HBW := hide (HBE.out _ HST8.out)
          clear h4 h5
          go_wp2
          exact bodyPost_ret (v := .tuple #[.slice none 0 0, .int .i64 7]) (by simp [results, Try.results116, go_sem]) rfl ⟨_, by rw [HE.out], by rw [HE.out]; (simp only [Binds, RepD, List.map_nil]; exact ⟨none, 0, 0, rfl, rfl, by omega, by omega, by simp⟩), by rw [HKB.out]; exact HBW.out⟩
        · have hdc : ¬ 40 < dc := fun h => h5 (HD.out.1 h)
          have HE := hide (show endL S (vs.drop (k + 1)) (acc ++ [⟨vs[k], S vs[k]⟩]) = endL S vs [] by rw [← he.out, HV7.out, if_neg h4, if_neg h5])
          have hsz4 : (S vs[k]).size ≤ 400 := by omega
          have HS8 := hide (((HSO6.out.kstep hkn.out hssk HS7.out).below HAL.out))
          have HK8 := hide (HK7.out.below HAL.out)
          have hap : app S t = S vs[k] := (hS.fix _ _ ht).symm
          have HAP := hide hap
          have hkn8 : kb < w7.heap.size := HK7.out.lt
          have HMC8 := hide (show (w7.alloc (.cells #[.int .i64 zc, .int .i64 dc] 190)).cell? ⟨kb, 0, none⟩ = some (.map (some mb)) from (HAL.out.cell (p := ⟨kb, 0, none⟩) hkn8).trans HMC.out)
          have HOWN := hide (show ∃ B, w6.heap.size ≤ B ∧ B ≤ (w7.alloc (.cells #[.int .i64 zc, .int .i64 dc] 190)).heap.size ∧ mb < B ∧ OwnD (fun b => b < B) (w7.alloc (.cells #[.int .i64 zc, .int .i64 dc] 190)) B 60 3 u4 (acc.map Bd.d) from by
            rcases hown.out with ⟨rfl, rfl, rfl⟩ | ⟨B, mb', hB1, hB0, hB2, hB3, hB4⟩
            · exact ⟨_, Nat.le_trans (hst.out.trans HS7.out).keep.size HAL.out.size, Nat.le_refl _, Nat.lt_of_lt_of_le HML.out.1 HAL.out.size, OwnD.nil _ _ _ _ _⟩
            · have h6 := HS7.out.stay mb' hB3
              rw [HMC.out] at h6
              simp only [Option.some.injEq, Value.map.injEq] at h6
              subst h6
              have hlt4 := hB4.lt
              have h8 := HS7.out.trans (KStep.of_below HAL.out hkn8)
              refine ⟨B, hB1, Nat.le_trans hB0 h8.keep.size, hB2, hB4.keep h8.keep (fun b hb hnb => ⟨by omega, fun e => ?_⟩) (fun b hb => ⟨?_, fun e => ?_⟩)⟩
              · rw [hB3] at e
                simp only [Option.some.injEq, Value.map.injEq] at e
                omega
              · have := (hlt4 b hb).1; omega
              · rw [hB3] at e
                simp only [Option.some.injEq, Value.map.injEq] at e
                have := (hlt4 b hb).1; omega)
          have HTD := hide ht
          have htD := (hS.rng _ _ ht).2.2
          clear h4 h5 hown hst hkn hok HSO6 HAL ht hap
          obtain ⟨F8, hF8, hFv8⟩ := HS8.out.env
          obtain ⟨s8, hFk, tt⟩ := (hFv8 vs[k]).2 t HTD.out
          obtain ⟨at8, ct8, rfl, -, -⟩ := tt.shape
          have HFA8 := hide hF8
          have HFX := hide hFk
          have HTT := hide (show IsTm (OldA sb A0) (w7.alloc (.cells #[.int .i64 zc, .int .i64 dc] 190)) t.h (.slice at8 t.args.length ct8) t from ⟨rfl, tt⟩)
          have y8 := HS8.out.load
          clear hF8 hFv8 hFk tt
          go_wp2_with (at_lookup; refine look1_pl rfl _ _ 97 rfl Try.underlying3 Try.underlying97 (zeroTerm _) sb F8 rfl HFA8.out vs[k] rfl (by omega) (by omega) ?_; rw [HFX.out])
          refine (full_calls A0 sb ss f S hS (app S t).size t (fun b => b < (w7.alloc (.cells #[.int .i64 zc, .int .i64 dc] 190)).heap.size) _ _ _ (Nat.le_refl _) (fun b h => h) htD HS8.out HTT.out).mono ?_
          rw [HAP.out]
          rintro e w9 ⟨s9, rfl, hT9, hB9⟩
          obtain ⟨a9, c9, rfl, -, -⟩ := hT9.shape
          have HST9 := hide (HST8.out.trans (KStep.of_below hB9 HK8.out.lt))
          have HK9 := hide (HK8.out.below hB9)
          have HMC9 := hide ((hB9.cell (p := ⟨kb, 0, none⟩) HK8.out.lt).trans HMC8.out)
          obtain ⟨B, hb1, hb2, hb3, hb4⟩ := HOWN.out
          have HO9 := hide (hb4.below hB9)
          have hz9 : B ≤ w9.heap.size := Nat.le_trans hb2 hB9.size
          have hlt4 := hb4.lt
          have HT9 := hide (hT9.bar (B := fun b => b < B ∨ u4.ownBlock = some b) fun b _ h => by
            rcases h with h | h
            · exact Nat.lt_of_lt_of_le h hb2
            · exact (hlt4 b h).2)
          clear hT9 hB9 hb4 HOWN HST8 HK8 HMC8 HS8 HFA8 HFX HTT HML HK7 HS7 HMC y8
          generalize S vs[k] = tk at *
          have hlen : acc.length ≤ 256 := by omega
          have hal : Below w9.heap.size w9 (w9.alloc (.cells #[.int .i64 vs[k], .int .i64 tk.h, .slice a9 tk.args.length c9] 60)) := (Below.refl _ _).alloc (Nat.le_refl _) _
          have kbk := World.alloc_heap_new w9 (.cells #[.int .i64 vs[k], .int .i64 tk.h, .slice a9 tk.args.length c9] 60)
          have HD9 := hide (show RepD (fun b => b < B ∨ u4.ownBlock = some b) (w9.alloc (.cells #[.int .i64 vs[k], .int .i64 tk.h, .slice a9 tk.args.length c9] 60)) (.row 3 (([⟨vs[k], tk⟩] : List Bd).map Bd.d)) [.slice (some ⟨w9.heap.size, 0, none⟩) 1 1] from
            binds1 (b1 := ⟨vs[k], tk⟩) kbk (fun h => by
              rcases h with h | h
              · omega
              · have := HO9.out.lt _ h; omega) (HT9.out.below hal))
          have HO10 := hide (HO9.out.below hal)
          have HST10 := hide (HST9.out.trans (KStep.of_below hal HK9.out.lt))
          have HK10 := hide (HK9.out.below hal)
          have HMC10 := hide ((hal.cell (p := ⟨kb, 0, none⟩) HK9.out.lt).trans HMC9.out)
          have HBASE := hide (show B ≤ (w9.alloc (.cells #[.int .i64 vs[k], .int .i64 tk.h, .slice a9 tk.args.length c9] 60)).heap.size from Nat.le_trans hz9 hal.size)
          clear hal kbk HT9 HO9 HST9 HK9 HMC9 hlt4
          go_wp2_with (at_builtin; refine app_all_pl rfl (.tmp 33) (.tmp 44) 22 rfl B 60 (.agg #[.int .i64 0, .int .i64 0, .slice none 0 0]) 3 40 Try.underlying22 (by kernel_rfl) rfl (by decide) (v := u4) (xv := .slice (some ⟨w9.heap.size, 0, none⟩) 1 1) rfl rfl HO10.out HD9.out (fun d hd => by obtain ⟨z, -, rfl⟩ := List.mem_map.1 hd; exact Bd.oneD z) (by simp [maxLen]; omega) (by simp; omega) HBASE.out ?_; intro v' w' o' kp ob hsh)
          have hltv := HO10.out.lt
          have q4 := HST10.out.own kp (fun b hb => Nat.le_trans hb1 (hltv b hb).1) hkl
          have q5 := HK10.out.own HMC10.out kp (fun e => by have := (hltv _ e).1; omega) (fun e => by have := (hltv _ e).1; omega)
          have HQ4 := hide q4
          have HQ5 := hide q5.1
          have HQ6 := hide q5.2
          have HOO := hide o'
          have HBB := hide (Nat.le_trans HBASE.out kp.size)
          clear q4 q5 kp ob hsh o' hltv
          go_roundw
          case rel =>
            refine ⟨k + 1, acc ++ [⟨vs[k], tk⟩], F7, by omega, by go_num, hide HE.out, hide HQ4.out, hide HQ5.out, HO7, by simp; omega, hide (.inr ⟨B, mb, hb1, HBB.out, hb3, HQ6.out, ?_⟩)⟩
            rw [List.map_append]; exact HOO.out
          case measure => simp [intOf]; omega
    · obtain rfl : k = vs.length := by omega
      have HE := hide (show endL S (domL f) [] = (acc, 0) by rw [← HVD.out, ← he.out, List.drop_of_length_le (Nat.le_refl _), endL])
      have HBW := hide (HBE.out _ hst.out)
      have HR := hide (show Binds A wr u4 acc from by
        rcases hown.out with ⟨_, rfl, rfl⟩ | ⟨B, mb, hB1, hB0, hB2, hB3, hB4⟩
        · simp only [Binds, RepD, List.map_nil]; exact ⟨none, 0, 0, rfl, rfl, by omega, by omega, by simp⟩
        · exact RepD.bar (A := fun b => b < B) (hB4.rep fun b h => h) (fun b _ h => by have := HAO.out b h; have := HKB.out; omega))
      obtain ⟨ar, cr, rfl, -, -⟩ := HR.out.shape
      clear hown he hst hkn hok hlt hk
      go_wp2
      exact bodyPost_ret (v := .tuple #[.slice ar acc.length cr, .int .i64 0]) (by simp [results, Try.results116, go_sem]) rfl ⟨_, by rw [HE.out], by rw [HE.out]; exact HR.out, by rw [HKB.out]; exact HBW.out⟩
end Go.Proofs.Ythplndalbfcbbaa
