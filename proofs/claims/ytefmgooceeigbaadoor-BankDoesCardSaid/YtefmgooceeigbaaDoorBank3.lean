/- bank: table.keep, walked. -/
import Derived.Test.YtefmgooceeigbaaDoorBank2
import Derived.Test.YtefmgooceeigbaaDoorKeyMap2
import Derived.Test.YtefmgooceeigbaaDoorDraw7
set_option linter.unusedSimpArgs false
set_option linter.unusedVariables false
namespace Go.Proofs.YtefmgooceeigbaaDoor
open Go.RowKit

theorem rep_one2 {A : Nat → Prop} {W : World} {nb e : Nat} {c1 c2 : Value} {d : D} (hb : W.heap[nb]? = some (.cells #[c1, c2] e (0, 0))) (hA : ¬ A nb) (hd : RepD A W d [c1, c2]) : RepD A W (.row 2 [d]) [.slice (some ⟨nb, 0, none⟩) 1 1] := by
  obtain ⟨hl, q0, q1, -, -⟩ := box2 hb
  simp only [RepD, RepR]
  refine ⟨_, _, _, rfl, rfl, Nat.le_refl _, by omega, fun _ => ⟨nb, 0, rfl, hl, hA, ⟨[c1, c2], rfl, fun i hi => ?_, hd⟩, trivial⟩⟩
  rcases i with _ | _ | i
  · simpa using q0
  · simpa using q1
  · omega
theorem box2_set0 {w : World} {b : Nat} {x y v : Value} {t : TypeId} (h : w.heap[b]? = some (.cells #[x, y] t (0, 0))) : (w.setCell ⟨b, 0, none⟩ v).heap[b]? = some (.cells #[v, y] t (0, 0)) := by
  simp [World.setCell, Array.getElem?_modify, h]
open Classical in
noncomputable def putF (f : Value → Option Value) (k v : Value) : Value → Option Value := fun y => if y = k then some v else f y
theorem putF_same (f : Value → Option Value) (k v : Value) : putF f k v k = some v := by simp [putF]
theorem putF_other (f : Value → Option Value) {k y : Value} (h : y ≠ k) (v : Value) : putF f k v y = f y := by simp [putF, h]
theorem rwD_oneD (r : Rw) : OneD (rwD r) := by
  intro A w cs h u hu
  obtain ⟨s, rfl, h1⟩ := repRw.1 h
  obtain ⟨a, c, rfl, _⟩ := h1.shape
  simp at hu
  rcases hu with rfl | rfl <;> rfl

set_option maxHeartbeats 4000000 in
set_option maxRecDepth 100000 in
theorem keep_calls (A : Nat → Prop) (xb mb : Nat) (R : List Rw) (rv : Value) (f : Value → Option Value) (base : Nat) (r : Rw) (s : Value) (w : World) (hr : RwOk r) (ht : tabB base w) (hx : BankAt w A xb mb R rv f base) (hs : Ints (fun b => A b ∨ BZ xb mb rv b) w s (zs r.2)) (hn : idx R r = none) (hl : ∀ n, n ∈ r.2 → n < R.length) :
    Calls Tryd.prog 37 #[.pointer (some ⟨xb, 0, none⟩), .agg #[.int .i64 r.1, s]] w fun e w' =>
      (4096 ≤ R.length ∧ e = .returned (.tuple #[.int .i64 0, .int .i64 9]) ∧ Below w.heap.size w w') ∨
      (R.length < 4096 ∧ e = .returned (.tuple #[.int .i64 R.length, .int .i64 0]) ∧ ∃ rv' f', BankAt w' A xb mb (R ++ [r]) rv' f' base ∧ Moved (BZ xb mb rv) (BZ xb mb rv') w w') := by
  obtain ⟨ra, rc, hrv, -⟩ := hx.row
  obtain ⟨-, q0, q1, -, -⟩ := box2 hx.x
  have h0 : Below w.heap.size w (w.alloc (.cells #[.int .i64 r.1, s] 64)) := (Below.refl _ _).alloc (Nat.le_refl _) _
  have hxl := (Array.getElem?_eq_some_iff.1 hx.x).1
  have HBA := hide (show base ≤ w.heap.size by have := hx.lt xb (.inl rfl); omega)
  rw [hrv] at q0
  by_cases hfull : 4096 ≤ R.length
  · have hd : decide ((R.length : Int) ≥ 4096) = true := by simp; omega
    have HF := hide hfull
    have HB := hide h0
    clear hr ht hx hs hn hl hfull h0
    go_enter Tryd.func37, Tryd.ntmps37
    go_wp2
    go_ret2
    exact .inl ⟨HF.out, rfl, HB.out⟩
  have hd : decide ((R.length : Int) ≥ 4096) = false := by simp; omega
  have HR := hide hr
  have HF := hide hfull
  have HX := hide (hx.below h0)
  have HS := hide (hs.below h0)
  have HT := hide (ht.on (h0.mono HBA.out))
  have HB := hide h0
  have HK := hide (World.alloc_heap_new w (.cells #[.int .i64 r.1, s] 64))
  have HN := hide hn
  have HL := hide hl
  have HLT := hide hx.lt
  have HLA := hide hx.la
  have HRV := hide hrv
  clear hr ht hx hs hn hl hfull h0
  go_enter Tryd.func37, Tryd.ntmps37
  go_wp2
  generalize w.alloc (.cells #[.int .i64 r.1, s] 64) = W at *
  refine drawn_late (fun W => W.cell? ⟨xb, 1, none⟩ = some (.map (some mb)) ∧ W.cell? ⟨w.heap.size, 0, none⟩ = some (.int .i64 r.1) ∧ W.cell? ⟨w.heap.size, 1, none⟩ = some s) (fun W => W.cell? ⟨xb, 0, none⟩ = some rv) 17
    (.take 0 (.take 1 (.take 2 (.take 3 (.take 4 (.take 5 (.take 7 (.take 8 (.take 9 (.takeD 10 (.take 11 (.take 14 (.two 6 (.one 12 (.one 13 (.take 15 (.take 16 (.last 17 (.last 18 (.take 19 (.last 20 .done)))))))) 12 (.one 6 (.one 13 (.take 15 (.take 16 (.last 17 (.last 18 (.take 19 (.last 20 .done)))))))))))))))))))) ) (by kernel_rfl) (by kernel_rfl) (by kernel_rfl) (by kernel_rfl) (fun _ _ _ _ _ h => h) ?_ ?_ ?_
  · obtain ⟨-, z0, z1, -, -⟩ := box2 HK.out
    obtain ⟨-, y0, y1, -, -⟩ := box2 HX.out.x
    exact ⟨y1, z0, z1⟩
  · obtain ⟨-, y0, y1, -, -⟩ := box2 HX.out.x
    exact y0
  have g0 := (Below.refl W.heap.size W).drew
  have HX0 := hide (HX.out.below g0)
  have HS0 := hide (HS.out.below g0)
  have HT0 := hide (HT.out.on (g0.mono (Nat.le_trans HBA.out HB.out.size)))
  have HB0 := hide (HB.out.trans (g0.mono HB.out.size))
  have HK0 := hide ((g0.block _ (Array.getElem?_eq_some_iff.1 HK.out).1).trans HK.out)
  clear g0 HX HS HT HB HK q0 q1
  generalize W.drew = W0 at *
  have HC := hide (show ∀ W : World, W.heap[xb]? = some (.cells #[rv, .map (some mb)] 62 (0, 0)) → W.heap[w.heap.size]? = some (.cells #[.int .i64 r.1, s] 64 (0, 0)) → (W.cell? ⟨xb, 1, none⟩ = some (.map (some mb)) ∧ W.cell? ⟨w.heap.size, 0, none⟩ = some (.int .i64 r.1) ∧ W.cell? ⟨w.heap.size, 1, none⟩ = some s) ∧ W.cell? ⟨xb, 0, none⟩ = some rv from fun W h h' => by
    obtain ⟨-, z0, z1, -, -⟩ := box2 h'
    obtain ⟨-, y0, y1, -, -⟩ := box2 h
    exact ⟨⟨y1, z0, z1⟩, y0⟩)
  have HC2 := hide (show ∀ (W : World) (v : Value), W.heap[xb]? = some (.cells #[v, .map (some mb)] 62 (0, 0)) → W.heap[w.heap.size]? = some (.cells #[.int .i64 r.1, s] 64 (0, 0)) → (W.cell? ⟨xb, 1, none⟩ = some (.map (some mb)) ∧ W.cell? ⟨w.heap.size, 0, none⟩ = some (.int .i64 r.1) ∧ W.cell? ⟨w.heap.size, 1, none⟩ = some s) from fun W v h h' => by
    obtain ⟨-, z0, z1, -, -⟩ := box2 h'
    obtain ⟨-, y0, y1, -, -⟩ := box2 h
    exact ⟨y1, z0, z1⟩)
  iterate 9 (refine w_take (v := ?_) rfl (by rfl) ?_ ?_; rotate_left; (intro w hS; obtain ⟨hS1, hS2, hS3⟩ := hS; go_simp; try with_reducible rfl); simp only [Act.put, List.setIfInBounds_toArray, List.set_cons_zero, List.set_cons_succ])
  iterate 1 (refine w_takeD (v := ?_) rfl (by rfl) ?_ ?_; rotate_left; (intro w hS; obtain ⟨⟨hS1, hS2, hS3⟩, hS4⟩ := hS; go_simp; try with_reducible rfl); simp only [Act.put, List.setIfInBounds_toArray, List.set_cons_zero, List.set_cons_succ])
  iterate 2 (refine w_take (v := ?_) rfl (by rfl) ?_ ?_; rotate_left; (intro w hS; obtain ⟨hS1, hS2, hS3⟩ := hS; go_simp; try with_reducible rfl); simp only [Act.put, List.setIfInBounds_toArray, List.set_cons_zero, List.set_cons_succ])
  refine w_two rfl rfl (by rfl) (by rfl) ?_ ?_
  intro K hK
  go_simp
  refine (key_calls r _ s base W0 HR.out HT0.out (Nat.le_trans HBA.out HB0.out.size) HS0.out).mono ?_
  rintro e wa ⟨rfl, ba⟩
  have HX1 := hide (HX0.out.below ba)
  have HS1 := hide (HS0.out.below ba)
  have HB1 := hide (HB0.out.trans (ba.mono HB0.out.size))
  have HK1 := hide ((ba.block _ (Array.getElem?_eq_some_iff.1 HK0.out).1).trans HK0.out)
  refine hK.out _ _ (HC.out _ HX1.out.x HK1.out).1 (HC.out _ HX1.out.x HK1.out).2 ?_
  clear hK K ba HX0 HS0 HT0 HB0 HK0
  refine w_one rfl (by rfl) ?_
  intro K hK
  go_simp
  have g1 : Below wa.heap.size wa (wa.alloc (.cells #[.int .i64 r.1, s] 64)) := (Below.refl _ _).alloc (Nat.le_refl _) _
  have HXA := hide (HX1.out.below g1)
  have HSA := hide (HS1.out.below g1)
  have HBW := hide (HB1.out.trans (g1.mono HB1.out.size))
  have HKA := hide ((g1.block _ (Array.getElem?_eq_some_iff.1 HK1.out).1).trans HK1.out)
  have HNB := hide (World.alloc_heap_new wa (.cells #[.int .i64 r.1, s] 64))
  have HNL := hide HB1.out.size
  refine hK.out _ _ (HC.out _ HXA.out.x HKA.out).1 (HC.out _ HXA.out.x HKA.out).2 ?_
  clear hK K g1 HX1 HS1 HB1 HK1
  generalize wa.heap.size = nb at *
  generalize wa.alloc (.cells #[.int .i64 r.1, s] 64) = wA at *
  rotate_left
  intro K hK
  go_simp
  have g1 : Below W0.heap.size W0 (W0.alloc (.cells #[.int .i64 r.1, s] 64)) := (Below.refl _ _).alloc (Nat.le_refl _) _
  have HX1 := hide (HX0.out.below g1)
  have HS1 := hide (HS0.out.below g1)
  have HT1 := hide (HT0.out.on (g1.mono (Nat.le_trans HBA.out HB0.out.size)))
  have HB1 := hide (HB0.out.trans (g1.mono HB0.out.size))
  have HK1 := hide ((g1.block _ (Array.getElem?_eq_some_iff.1 HK0.out).1).trans HK0.out)
  have HN1 := hide (World.alloc_heap_new W0 (.cells #[.int .i64 r.1, s] 64))
  have HNL := hide HB0.out.size
  refine hK.out _ _ (HC.out _ HX1.out.x HK1.out).1 (HC.out _ HX1.out.x HK1.out).2 ?_
  clear hK K g1 HX0 HS0 HT0 HB0 HK0
  generalize W0.heap.size = nb at *
  generalize W0.alloc (.cells #[.int .i64 r.1, s] 64) = W1 at *
  refine w_one rfl (by rfl) ?_
  intro K hK
  go_simp
  refine (key_calls r _ s base W1 HR.out HT1.out (Nat.le_trans HBA.out HB1.out.size) HS1.out).mono ?_
  rintro e wA ⟨rfl, ba⟩
  have HXA := hide (HX1.out.below ba)
  have HSA := hide (HS1.out.below ba)
  have HBW := hide (HB1.out.trans (ba.mono HB1.out.size))
  have HKA := hide ((ba.block _ (Array.getElem?_eq_some_iff.1 HK1.out).1).trans HK1.out)
  have HNB := hide ((ba.block _ (Array.getElem?_eq_some_iff.1 HN1.out).1).trans HN1.out)
  refine hK.out _ _ (HC.out _ HXA.out.x HKA.out).1 (HC.out _ HXA.out.x HKA.out).2 ?_
  clear hK K ba HX1 HS1 HT1 HB1 HK1 HN1
  rotate_left
  all_goals
    have HLB := hide HXA.out.lt
    have HRL := hide (show R.length < 4096 by have := HF.out; omega)
    have HNZ := hide (show ¬ ((A nb ∨ nb = xb ∨ nb = mb) ∨ rv.ownBlock = some nb) from fun h => by
      have h9 := HNL.out
      rcases h with (h | h | h) | h
      · have := HLA.out nb h; omega
      · have := (HLT.out nb (.inl h)).2; omega
      · have := (HLT.out nb (.inr (.inl h))).2; omega
      · have := (HLT.out nb (.inr (.inr h))).2; omega)
    have HD := hide (show RepD (fun b => (A b ∨ b = xb ∨ b = mb) ∨ rv.ownBlock = some b) wA (.row 2 [rwD r]) [.slice (some ⟨nb, 0, none⟩) 1 1] from rep_one2 HNB.out HNZ.out (repRw.2 ⟨s, rfl, HSA.out.bar fun b _ hb => by
      rcases hb with (hb | hb | hb) | hb
      · exact .inl hb
      · exact .inr (.inl hb)
      · exact .inr (.inr (.inl hb))
      · exact .inr (.inr (.inr hb))⟩))
    have HAS := hide (Nat.le_trans HBA.out HBW.out.size)
    refine w_one rfl (by rfl) ?_
    intro K hK
    refine wp_app_all (.tmp 28) (.tmp 30) 58 rfl base 64 (.agg #[.int .i64 0, .slice none 0 0]) 2 32 Tryd.underlying58 (by kernel_rfl) rfl (by decide) (v := rv) (xv := .slice (some ⟨nb, 0, none⟩) 1 1) (by rw [HRV.out]; rfl) rfl HXA.out.r HD.out (fun d hd => by simp at hd; rw [hd]; exact rwD_oneD r) (by have := HRL.out; simp [maxLen]; omega) (by have := HRL.out; simp; omega) HAS.out ?_
    intro rv' w2 o2 k2 ob2 sh2
    generalize hrl1 : (R.map rwD).length + [rwD r].length = rl1 at sh2
    obtain ⟨va, vc, rfl⟩ := sh2
    clear hrl1
    have X2 := hide (k2.obj (fun h => HXA.out.ne1 h) HXA.out.x)
    have K2B := hide (k2.obj (fun h => by have := (HLT.out _ (.inr (.inr h))).2; omega) HKA.out)
    have M2 := hide (HXA.out.m.keep k2 HXA.out.ne2)
    refine hK.out _ _ (HC.out _ X2.out K2B.out).1 (HC.out _ X2.out K2B.out).2 ?_
    clear hK K
    have K2 := hide k2
    have O2 := hide o2
    have OB2 := hide ob2
    clear k2 o2 ob2
    iterate 2 (refine w_take (v := ?_) rfl (by rfl) ?_ ?_; rotate_left; (intro w hS; obtain ⟨hS1, hS2, hS3⟩ := hS; go_simp; try with_reducible rfl); simp only [Act.put, List.setIfInBounds_toArray, List.set_cons_zero, List.set_cons_succ])
    refine w_last rfl (by rfl) ?_
    intro K hK
    obtain ⟨-, p0, p1, z0, z1⟩ := box2 X2.out
    go_simp
    clear p0 p1 z0 z1
    have X3 := hide (box2_set0 (v := .slice va rl1 vc) X2.out)
    have K3 := hide (show Keep (fun b => b ≠ xb) w2 (w2.setCell ⟨xb, 0, none⟩ (.slice va rl1 vc)) from (Keep.refl _ _).setCell (p := ⟨xb, 0, none⟩) (by simp) _)
    have K3B := hide (K3.out.obj (fun h => by have := (HLT.out xb (.inl rfl)).2; omega) K2B.out)
    have M3 := hide (M2.out.keep K3.out fun h => HXA.out.ne3 h.symm)
    refine hK.out _ _ (HC2.out _ _ X3.out K3B.out) ?_
    clear hK K
    generalize w2.setCell ⟨xb, 0, none⟩ (.slice va rl1 vc) = w3 at *
    have hnone : f (keyV r) = none := by rw [HXA.out.get r, HN.out]; rfl
    obtain ⟨w4, c, hent, k4, w5, hsto, m5, k5⟩ := M3.out.enter (Maps.string_keyed Tryd.underlying9) Tryd.underlying57 (zeroInt w3) (keyV_key HR.out) hnone (.int .i64 (R.length : Int)) (putF_same f (keyV r) _) (fun y hy => putF_other f hy _)
    simp only [goInt] at hent hsto
    have X4 := hide (k4.obj (fun h => HXA.out.ne3 h) X3.out)
    have X5 := hide (k5.obj (fun h => HXA.out.ne3 h) X4.out)
    have K4B := hide (k4.obj (fun h => by have := (HLT.out mb (.inr (.inl rfl))).2; omega) K3B.out)
    have K5B := hide (k5.obj (fun h => by have := (HLT.out mb (.inr (.inl rfl))).2; omega) K4B.out)
    have K4 := hide k4
    have K5 := hide k5
    have M5 := hide m5
    clear k4 k5 m5 hnone
    refine w_last rfl (by rfl) ?_
    intro K hK
    go_simp
    refine hK.out _ _ (HC2.out _ _ X4.out K4B.out) ?_
    clear hK K hent
    iterate 1 (refine w_take (v := ?_) rfl (by rfl) ?_ ?_; rotate_left; (intro w hS; obtain ⟨hS1, hS2, hS3⟩ := hS; go_simp; try with_reducible rfl); simp only [Act.put, List.setIfInBounds_toArray, List.set_cons_zero, List.set_cons_succ])
    refine w_last rfl (by rfl) ?_
    intro K hK
    go_simp
    refine hK.out _ _ (HC2.out _ _ X5.out K5B.out) ?_
    clear hK K hsto
    refine w_done ?_
    go_wp2
    go_ret2
    generalize hrv' : Value.slice va rl1 vc = rv' at *
    have hx := HXA.out
    have sA := HBW.out.size
    have s2 := K2.out.size
    have s3 := K3.out.size
    have s4 := K4.out.size
    have s5 := K5.out.size
    have n1 : rv'.ownBlock ≠ some xb := fun h => by
      rcases OB2.out _ h with h | h
      · exact hx.ne1 h
      · have := (HLB.out xb (.inl rfl)).2; omega
    have n2 : rv'.ownBlock ≠ some mb := fun h => by
      rcases OB2.out _ h with h | h
      · exact hx.ne2 h
      · have := (HLB.out mb (.inr (.inl rfl))).2; omega
    have S5 : Keep (fun b => b ≠ xb ∧ b ≠ mb) w2 w5 := (K3.out.mono fun b _ h => h.1).trans ((K4.out.mono fun b _ h => h.2).trans (K5.out.mono fun b _ h => h.2))
    refine .inr ⟨HRL.out, rfl, rv', putF f (keyV r) (.int .i64 (R.length : Int)), ⟨X5.out, M5.out, ?_, fun i q hq => ?_, fun k v hk => ?_, hx.g.snoc HN.out HL.out, by have := HRL.out; simp; omega, hx.xb0, hx.mb0, n1, n2, hx.ne3, ?_, fun b hb => by have := HLA.out b hb; omega⟩, ?_, ?_⟩
    · rw [List.map_append]
      exact O2.out.keep S5 (fun b _ hb => ⟨fun e => hb (.inr (.inl e)), fun e => hb (.inr (.inr e))⟩) (fun b hb => ⟨fun e => n1 (e ▸ hb), fun e => n2 (e ▸ hb)⟩)
    · rw [List.getElem?_append] at hq
      split at hq
      · rw [putF_other f (fun e => idx_none HN.out i (by rw [← keyV_inj e]; exact hq))]
        exact hx.f1 i q hq
      · rw [List.getElem?_singleton] at hq
        split at hq
        · cases hq
          rw [putF_same]
          congr 2
          omega
        · cases hq
    · by_cases e : k = keyV r
      · exact ⟨R.length, r, by simp, e⟩
      · rw [putF_other f e] at hk
        obtain ⟨i, q, h1, h2⟩ := hx.f2 k v hk
        exact ⟨i, q, by rw [List.getElem?_append_left (List.getElem?_eq_some_iff.1 h1).1]; exact h1, h2⟩
    · rintro b (hb | hb | hb) ha
      · exact hx.na b (.inl hb) ha
      · exact hx.na b (.inr (.inl hb)) ha
      · rcases OB2.out _ hb with h | h
        · exact hx.na b (.inr (.inr h)) ha
        · have := HLA.out b ha; omega
    · exact (Keep.of_below HBW.out).trans ((K2.out.mono fun b _ h e => h (.inr (.inr e))).trans (S5.mono fun b _ h => ⟨fun e => h (.inl e), fun e => h (.inr (.inl e))⟩))
    · rintro b (hb | hb | hb)
      · exact .inl (.inl hb)
      · exact .inl (.inr (.inl hb))
      · rcases OB2.out _ hb with h | h
        · exact .inl (.inr (.inr h))
        · exact .inr (by omega)
end Go.Proofs.YtefmgooceeigbaaDoor
