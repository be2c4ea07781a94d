/- What the proof of the law rests on: contracts of the functions, plain laws, and words. -/
import Derived.Test.YthplndalbfcbbaaKFeatureSubsumesXMClone
import Derived.Test.YthplndalbfcbbaaKFeatureSubsumesXDraw6
set_option linter.unusedSimpArgs false
set_option linter.unusedVariables false
namespace Go.Proofs.Ythplndalbfcbbaa
open Go.RowKit
def WState (C : Env → Prop) (ls rs : List Tm) (f : Env) : Prop := ∀ σ, C σ ↔ MakesL σ ls rs ∧ Within f σ
theorem wstate_end {C : Env → Prop} {f : Env} (h : WState C [] [] f) : C f := (h f).2 ⟨by simp [MakesL], fun _ _ h => h⟩
theorem wstate_var {C : Env → Prop} {ls rs : List Tm} {x y : Tm} {f : Env} (h : WState C (ls ++ [x]) (rs ++ [y]) f) (hl : ls.length = rs.length) (hx : x.h < 0) (hf : f (-1 - x.h) = none ∨ f (-1 - x.h) = some y) : WState C ls rs (upd f (-1 - x.h) y) := by
  intro σ
  rw [h σ, makesL_append hl, makesL_one, makes_var hx, within_upd hf, and_assoc, and_comm (a := σ (-1 - x.h) = some y)]
theorem wstate_fun {C : Env → Prop} {ls rs : List Tm} {x y : Tm} {f : Env} (h : WState C (ls ++ [x]) (rs ++ [y]) f) (hl : ls.length = rs.length) (hx : ¬ x.h < 0) (hh : x.h = y.h) (hn : x.args.length = y.args.length) : WState C (ls ++ x.args) (rs ++ y.args) f := by
  intro σ
  rw [h σ, makesL_append hl, makesL_append hl, makesL_one, makes_fun hx]
  simp [hh]
theorem MapEnv.bar {A B : Nat → Prop} {W : World} {b : Nat} {g : Env} (h : MapEnv A W b g) (hB : ∀ c, c < W.heap.size → B c → A c) : MapEnv B W b g := by
  obtain ⟨f, h1, h2⟩ := h
  exact ⟨f, h1, fun x => ⟨(h2 x).1, fun t ht => by obtain ⟨s, h3, h4⟩ := (h2 x).2 t ht; exact ⟨s, h3, h4.bar hB⟩⟩⟩
theorem own_one {A : Nat → Prop} {V : World} {g base : Nat} {s : Value} {t : Tm} (h : V.heap[g]? = some (.cells #[.int .i64 t.h, s] 25 (0, 0))) (hb : base ≤ g) (ht : Terms (fun b => A b ∨ b = g) V s t.args) : OwnD A V base 25 2 (.slice (some ⟨g, 0, none⟩) 1 1) [t.d] := by
  refine ⟨[[.int .i64 t.h, s]], ⟨rfl, .inr ⟨g, 1, _, rfl, hb, h, Nat.le_refl _, by simp [maxLen], rfl, rfl⟩⟩, by simp, .cons (repTm.2 ⟨s, rfl, ht.bar fun b _ hb => ?_⟩) .nil⟩
  rcases hb with hb | hb
  · exact .inl hb
  · simp [Value.ownBlock] at hb; exact .inr hb.symm
def WPost (A : Nat → Prop) (p t : Tm) (f0 : Env) (w : World) (e : Ending) (w' : World) : Prop :=
  Below w.heap.size w w' ∧ (e = .returned (.map none) ∨ ∃ nb f, w.heap.size ≤ nb ∧ e = .returned (.map (some nb)) ∧ MapEnv (fun b => w.heap.size ≤ b ∨ A b) w' nb f ∧ Within f0 f ∧ Makes f p t ∧ ∀ v t, f v = some t → t.size ≤ 1000000000)
set_option maxHeartbeats 8000000 in
set_option maxRecDepth 100000 in
theorem with_calls (A0 : Nat → Prop) (p t : Tm) (f0 : Env) (m0 : Nat) (h1 h2 : Int) (s1 s2 : Value) (w0 : World) (hsz : p.size ≤ 1000000) (hsz2 : t.size ≤ 1000000) (hgood : p.good = true) (hesz : ∀ v t, f0 v = some t → t.size ≤ 1000000000)
    (hs : IsTm A0 w0 h1 s1 p) (ht : IsTm A0 w0 h2 s2 t) (hm : MapEnv A0 w0 m0 f0) :
    Calls Try.prog 194 #[.map (some m0), .agg #[.int .i64 h1, s1], .agg #[.int .i64 h2, s2]] w0 fun e w' => WPost A0 p t f0 w0 e w' := by
  obtain ⟨rfl, a1, d1, rfl, hd1, hd1'⟩ := hs.shape
  obtain ⟨rfl, a2, d2, rfl, hd2, hd2'⟩ := ht.shape
  have hW1 : Below w0.heap.size w0 ((w0.alloc (.cells #[.int .i64 p.h, .slice a1 p.args.length d1] 25)).alloc (.cells #[.int .i64 t.h, .slice a2 t.args.length d2] 25)) := ((Below.refl _ _).alloc (Nat.le_refl _) _).alloc (by simp) _
  have hS1 : ((w0.alloc (.cells #[.int .i64 p.h, .slice a1 p.args.length d1] 25)).alloc (.cells #[.int .i64 t.h, .slice a2 t.args.length d2] 25)).heap.size = w0.heap.size + 2 := by simp [World.size_alloc]
  have kP : ((w0.alloc (.cells #[.int .i64 p.h, .slice a1 p.args.length d1] 25)).alloc (.cells #[.int .i64 t.h, .slice a2 t.args.length d2] 25)).heap[w0.heap.size]? = some (.cells #[.int .i64 p.h, .slice a1 p.args.length d1] 25 (0, 0)) := (Below.heap_alloc _ _ _ (by simp)).trans (World.alloc_heap_new _ _)
  have kT : ((w0.alloc (.cells #[.int .i64 p.h, .slice a1 p.args.length d1] 25)).alloc (.cells #[.int .i64 t.h, .slice a2 t.args.length d2] 25)).heap[w0.heap.size + 1]? = some (.cells #[.int .i64 t.h, .slice a2 t.args.length d2] 25 (0, 0)) := by
    have h := World.alloc_heap_new (w0.alloc (.cells #[.int .i64 p.h, .slice a1 p.args.length d1] 25)) (.cells #[.int .i64 t.h, .slice a2 t.args.length d2] 25)
    rw [World.size_alloc] at h
    exact h
  obtain ⟨F0, ⟨es, clock, hbm, hrest⟩, hF0⟩ := hm
  have hbl := (Array.getElem?_eq_some_iff.1 hbm).1
  have HCA := hide (mclone_calls m0 es clock _ ((hW1.block m0 hbl).trans hbm))
  have HW1 := hide hW1
  have HS1 := hide hS1
  have HKP := hide kP
  have HKT := hide kT
  have HRE := hide hrest
  have HF0 := hide hF0
  have HTP := hide hs.2
  have HTT := hide ht.2
  clear hW1 hS1 kP kT hrest hF0 hs ht hbm
  go_enter Try.func194, Try.ntmps194
  go_wp2_with fail
  refine HCA.out.mono ?_
  rintro e w ⟨rfl, hwc⟩
  obtain ⟨A, hA⟩ : ∃ A : Nat → Prop, ∀ b, A b ↔ (w0.heap.size ≤ b ∨ A0 b) := ⟨fun b => w0.heap.size ≤ b ∨ A0 b, fun _ => Iff.rfl⟩
  rw [HS1.out]
  obtain ⟨mb, hmbe⟩ : ∃ mb, mb = w0.heap.size + 2 := ⟨_, rfl⟩
  rw [← hmbe]
  have hB0 : Below w0.heap.size w0 w := by rw [hwc]; exact HW1.out.alloc (by rw [HS1.out]; omega) _
  have hws : w.heap.size = mb + 1 := by rw [hwc, World.size_alloc, HS1.out, hmbe]
  have hkP : w.heap[w0.heap.size]? = some (.cells #[.int .i64 p.h, .slice a1 p.args.length d1] 25 (0, 0)) := by rw [hwc]; exact (Below.heap_alloc _ _ _ (by rw [HS1.out]; omega)).trans HKP.out
  have hkT : w.heap[w0.heap.size + 1]? = some (.cells #[.int .i64 t.h, .slice a2 t.args.length d2] 25 (0, 0)) := by rw [hwc]; exact (Below.heap_alloc _ _ _ (by rw [HS1.out]; omega)).trans HKT.out
  have hnm : w.heap[mb]? = some (.map es clock) := by
    rw [hwc, hmbe, ← HS1.out]; exact World.alloc_heap_new _ _
  have h0mb : w0.heap.size ≤ mb := by omega
  have hmb : mb < w.heap.size := by omega
  have HENV0 := hide (show MapEnv (fun b => mb ≤ b ∨ A b) w mb f0 from ⟨F0, ⟨es, clock, hnm, HRE.out⟩, fun x => ⟨(HF0.out x).1, fun u hu => by
    obtain ⟨s, e1, e2⟩ := (HF0.out x).2 u hu
    exact ⟨s, e1, (e2.bar fun b hlt hb => by
      rcases hb with hb | hb
      · omega
      · rcases (hA b).1 hb with hb | hb
        · omega
        · exact hb).below hB0⟩⟩⟩)
  have HTP2 := hide (show Terms (fun b => mb ≤ b ∨ A b) w (.slice a1 p.args.length d1) p.args from (HTP.out.bar fun b hlt hb => by
      rcases hb with hb | hb
      · omega
      · rcases (hA b).1 hb with hb | hb
        · omega
        · exact hb).below hB0)
  have HTT2 := hide (show Terms (fun b => mb ≤ b ∨ A b) w (.slice a2 t.args.length d2) t.args from (HTT.out.bar fun b hlt hb => by
      rcases hb with hb | hb
      · omega
      · rcases (hA b).1 hb with hb | hb
        · omega
        · exact hb).below hB0)
  have HB0 := hide hB0
  have HWS := hide hws
  have HMBE := hide hmbe
  have HA := hide hA
  clear hmbe hA hwc HCA HW1 HKP HKT HRE HF0 HTP HTT hnm hB0 hws
  obtain ⟨-, z0, z1, -, -⟩ := box2 hkP
  obtain ⟨-, y0, y1, -, -⟩ := box2 hkT
  have HKP := hide hkP
  have HKT := hide hkT
  clear hkP hkT
  have hlp : w0.heap.size + 1 < w.heap.size := by have := HWS.out; have := HMBE.out; omega
  go_wp2
  refine cut_cap (fun a0 a' w' => ∃ g1 g2, a' = ((((((a0.put (some 18) (.agg #[.int .i64 p.h, .slice a1 p.args.length d1])).put (some 19) (.slice (some ⟨g1, 0, none⟩) 1 1)).put (some 20) (.agg #[.int .i64 t.h, .slice a2 t.args.length d2])).put (some 21) (.slice (some ⟨g2, 0, none⟩) 1 1)).put (some 8) (.slice (some ⟨g1, 0, none⟩) 1 1)).put (some 9) (.slice (some ⟨g2, 0, none⟩) 1 1)) ∧ w.heap.size ≤ g1 ∧ w.heap.size ≤ g2 ∧ g1 ≠ g2 ∧ w'.heap[g1]? = some (.cells #[.int .i64 p.h, .slice a1 p.args.length d1] 25 (0, 0)) ∧ w'.heap[g2]? = some (.cells #[.int .i64 t.h, .slice a2 t.args.length d2] 25 (0, 0)) ∧ Below w.heap.size w w') ?_ ?_
  · have hS : ∀ W', Below w.heap.size w W' → Below w.heap.size w W' ∧ W'.cell? ⟨w0.heap.size, 0, none⟩ = some (.int .i64 p.h) ∧ W'.cell? ⟨w0.heap.size, 1, none⟩ = some (.slice a1 p.args.length d1) ∧ W'.cell? ⟨w0.heap.size + 1, 0, none⟩ = some (.int .i64 t.h) ∧ W'.cell? ⟨w0.heap.size + 1, 1, none⟩ = some (.slice a2 t.args.length d2) := fun W' hW => by
      obtain ⟨-, z0, z1, -, -⟩ := box2 ((hW.block _ (by omega)).trans HKP.out)
      obtain ⟨-, y0, y1, -, -⟩ := box2 ((hW.block _ (by omega)).trans HKT.out)
      exact ⟨hW, z0, z1, y0, y1⟩
    refine drawn_tree (fun W' => Below w.heap.size w W' ∧ W'.cell? ⟨w0.heap.size, 0, none⟩ = some (.int .i64 p.h) ∧ W'.cell? ⟨w0.heap.size, 1, none⟩ = some (.slice a1 p.args.length d1) ∧ W'.cell? ⟨w0.heap.size + 1, 0, none⟩ = some (.int .i64 t.h) ∧ W'.cell? ⟨w0.heap.size + 1, 1, none⟩ = some (.slice a2 t.args.length d2)) (.take 0 (.take 2 (.two 1 (.take 4 (.one 3 (.take 5 .done))) 3 (.one 1 (.take 4 (.take 5 .done)))))) (by kernel_rfl) (by kernel_rfl) (by kernel_rfl) (by kernel_rfl) (fun _ _ _ _ _ h => h) (hS _ (Below.refl _ _).drew) ?_
    iterate 2 (refine t_take (v := ?_) rfl (by rfl) ?_ ?_; rotate_left; (intro w hS; obtain ⟨-, S1, S2, S3, S4⟩ := hS; go_simp; try with_reducible rfl); simp only [Act.put, List.setIfInBounds_toArray, List.set_cons_zero, List.set_cons_succ])
    refine t_two rfl rfl (by rfl) (by rfl) ?_ ?_
    · intro K hK
      go_simp
      refine hK.out _ _ (hS _ ((Below.refl _ _).drew.alloc (Nat.le_refl _) _)) ?_
      clear hK K
      iterate 1 (refine t_take (v := ?_) rfl (by rfl) ?_ ?_; rotate_left; (intro w hS; obtain ⟨-, S1, S2, S3, S4⟩ := hS; go_simp; try with_reducible rfl); simp only [Act.put, List.setIfInBounds_toArray, List.set_cons_zero, List.set_cons_succ])
      refine t_one rfl (by rfl) ?_
      intro K hK
      go_simp
      have hW3 : Below w.heap.size w (((w.alloc (.cells #[.int .i64 p.h, .slice a1 p.args.length d1] 25)).alloc (.cells #[.int .i64 t.h, .slice a2 t.args.length d2] 25)).drew) := (((Below.refl w.heap.size w).alloc (Nat.le_refl _) _).alloc (by simp) _).drew
      refine hK.out _ _ (hS _ hW3) ?_
      clear hK K
      have b0 := World.alloc_heap_new w (.cells #[.int .i64 p.h, .slice a1 p.args.length d1] 25)
      have b9 : (((w.alloc (.cells #[.int .i64 p.h, .slice a1 p.args.length d1] 25)).alloc (.cells #[.int .i64 t.h, .slice a2 t.args.length d2] 25)).drew).heap[w.heap.size + 1]? = some (.cells #[.int .i64 t.h, .slice a2 t.args.length d2] 25 (0, 0)) := by
        have h := World.alloc_heap_new (w.alloc (.cells #[.int .i64 p.h, .slice a1 p.args.length d1] 25)) (.cells #[.int .i64 t.h, .slice a2 t.args.length d2] 25)
        rw [World.size_alloc] at h
        exact h
      have b8 : (((w.alloc (.cells #[.int .i64 p.h, .slice a1 p.args.length d1] 25)).alloc (.cells #[.int .i64 t.h, .slice a2 t.args.length d2] 25)).drew).heap[w.heap.size]? = some (.cells #[.int .i64 p.h, .slice a1 p.args.length d1] 25 (0, 0)) := (Below.heap_alloc (w.alloc (.cells #[.int .i64 p.h, .slice a1 p.args.length d1] 25)) _ _ (by simp)).trans b0
      generalize (((w.alloc (.cells #[.int .i64 p.h, .slice a1 p.args.length d1] 25)).alloc (.cells #[.int .i64 t.h, .slice a2 t.args.length d2] 25)).drew) = W3 at *
      iterate 1 (refine t_take (v := ?_) rfl (by rfl) ?_ ?_; rotate_left; (intro w hS; obtain ⟨-, S1, S2, S3, S4⟩ := hS; go_simp; try with_reducible rfl); simp only [Act.put, List.setIfInBounds_toArray, List.set_cons_zero, List.set_cons_succ])
      refine t_done ?_
      exact ⟨w.heap.size, w.heap.size + 1, by try simp only [Act.put, List.setIfInBounds_toArray, List.set_cons_zero, List.set_cons_succ]; try rfl, by omega, by omega, by omega, b8, b9, hW3⟩
    · intro K hK
      go_simp
      refine hK.out _ _ (hS _ ((Below.refl _ _).drew.alloc (Nat.le_refl _) _)) ?_
      clear hK K
      refine t_one rfl (by rfl) ?_
      intro K hK
      go_simp
      have hW3 : Below w.heap.size w (((w.alloc (.cells #[.int .i64 t.h, .slice a2 t.args.length d2] 25)).alloc (.cells #[.int .i64 p.h, .slice a1 p.args.length d1] 25)).drew) := (((Below.refl w.heap.size w).alloc (Nat.le_refl _) _).alloc (by simp) _).drew
      refine hK.out _ _ (hS _ hW3) ?_
      clear hK K
      have b0 := World.alloc_heap_new w (.cells #[.int .i64 t.h, .slice a2 t.args.length d2] 25)
      have b9 : (((w.alloc (.cells #[.int .i64 t.h, .slice a2 t.args.length d2] 25)).alloc (.cells #[.int .i64 p.h, .slice a1 p.args.length d1] 25)).drew).heap[w.heap.size + 1]? = some (.cells #[.int .i64 p.h, .slice a1 p.args.length d1] 25 (0, 0)) := by
        have h := World.alloc_heap_new (w.alloc (.cells #[.int .i64 t.h, .slice a2 t.args.length d2] 25)) (.cells #[.int .i64 p.h, .slice a1 p.args.length d1] 25)
        rw [World.size_alloc] at h
        exact h
      have b8 : (((w.alloc (.cells #[.int .i64 t.h, .slice a2 t.args.length d2] 25)).alloc (.cells #[.int .i64 p.h, .slice a1 p.args.length d1] 25)).drew).heap[w.heap.size]? = some (.cells #[.int .i64 t.h, .slice a2 t.args.length d2] 25 (0, 0)) := (Below.heap_alloc (w.alloc (.cells #[.int .i64 t.h, .slice a2 t.args.length d2] 25)) _ _ (by simp)).trans b0
      generalize (((w.alloc (.cells #[.int .i64 t.h, .slice a2 t.args.length d2] 25)).alloc (.cells #[.int .i64 p.h, .slice a1 p.args.length d1] 25)).drew) = W3 at *
      iterate 2 (refine t_take (v := ?_) rfl (by rfl) ?_ ?_; rotate_left; (intro w hS; obtain ⟨-, S1, S2, S3, S4⟩ := hS; go_simp; try with_reducible rfl); simp only [Act.put, List.setIfInBounds_toArray, List.set_cons_zero, List.set_cons_succ])
      refine t_done ?_
      exact ⟨w.heap.size + 1, w.heap.size, by try simp only [Act.put, List.setIfInBounds_toArray, List.set_cons_zero, List.set_cons_succ]; try rfl, by omega, by omega, by omega, b9, b8, hW3⟩
  rintro _ W0 ⟨g1, g2, rfl, hg1, hg2, hg12, k1, k2, hW0⟩
  simp only [Act.put, List.setIfInBounds_toArray, List.set_cons_zero, List.set_cons_succ]
  have hone : Tm.sizes [p] = p.size := by simp [Tm.sizes]
  have htwo : Tm.sizes [t] = t.size := by simp [Tm.sizes]
  have HG0 : Gst A mb w W0 (.slice (some ⟨g1, 0, none⟩) 1 1) (.slice (some ⟨g2, 0, none⟩) 1 1) [p] [t] f0 := {
    below := hW0.mono (by omega)
    more := hW0.size
    left := own_one k1 hg1 ((HTP2.out.bar fun b hlt hb => by
      rcases hb with hb | hb
      · exact hb
      · omega).below hW0)
    right := own_one k2 hg2 ((HTT2.out.bar fun b hlt hb => by
      rcases hb with hb | hb
      · exact hb
      · omega).below hW0)
    apart := fun b hb hb2 => by simp [Value.ownBlock] at hb hb2; omega
    len := rfl
    size := by omega
    env := HENV0.out.below hW0
    good := by simp [Tm.goods, hgood]
    size2 := by omega
    esz := hesz }
  have HG := hide (show WState (fun σ => Makes σ p t ∧ Within f0 σ) [p] [t] f0 from fun σ => by rw [makesL_one])
  clear k1 k2 hg12 hW0 hg1 hg2 HENV0 HTP2 HTT2 z0 z1 y0 y1 hesz hgood hone htwo
  go_wp2
  go_loopg [8, 9] (Tm.sizes [p] + 1) (fun k v x wr => ∃ ls rs f, k = Tm.sizes ls + 1 ∧ Gst A mb w wr v x ls rs f ∧ Hid (WState (fun σ => Makes σ p t ∧ Within f0 σ) ls rs f))
  case atStart => exact ⟨[p], [t], f0, rfl, HG0, HG⟩
  case round =>
    obtain ⟨ls, rs, f, rfl, hst, hg⟩ := hrel
    rcases unsnoc ls with rfl | ⟨ls, x, rfl⟩
    · obtain ⟨ad, cp, rfl⟩ := hst.left.shape
      have hr0 : rs = [] := List.eq_nil_of_length_eq_zero (by have := hst.len; simpa using this.symm)
      subst hr0
      have HX := hide (wstate_end hg.out)
      have HST := hide hst
      clear hg hst HG HG0
      go_wp2
      go_ret
      exact ⟨HB0.out.trans (HST.out.below.mono h0mb), .inr ⟨mb, f, h0mb, rfl, HST.out.env.bar fun b _ hb => .inr ((HA.out b).2 hb), HX.out.2, HX.out.1, HST.out.esz⟩⟩
    · rcases unsnoc rs with rfl | ⟨rs, y, rfl⟩
      · exact absurd hst.len (by simp)
      have hlen : ls.length = rs.length := by have := hst.len; simpa using this
      have hszs := hst.size
      rw [Tm.sizes_append] at hszs
      have hx1 := x.size_eq
      simp only [Tm.sizes] at hszs
      have hls : ls.length ≤ 1000000000 := by have := Tm.sizes_length ls; omega
      have hO1 := hst.left
      have hO2 := hst.right
      have hap := hst.apart
      have hB := hst.below
      have hmore := hst.more
      have hgl := hst.good
      have hs2 := hst.size2
      rw [Tm.sizes_append] at hs2
      have hy1 := y.size_eq
      simp only [Tm.sizes] at hs2
      have HESZ := hide hst.esz
      rw [List.map_append, List.map_cons, List.map_nil] at hO1 hO2
      obtain ⟨g1, cap1, cs1, rfl, hg1, hg1', hc1, hc1', hk1, e1, q1', P1⟩ := hO1.last (by omega)
      obtain ⟨g2, cap2, cs2, rfl, hg2, hg2', hc2, hc2', hk2, e2, q2', P2⟩ := hO2.last (by omega)
      simp only [List.length_map] at hc1 hc2 e1 e2 P1 P2 hst hap ⊢
      simp only [← hlen] at hc2 e2 P2 hst hap ⊢
      obtain ⟨sx, rfl, tx⟩ := repTm.1 q1'
      obtain ⟨sy, rfl, ty⟩ := repTm.1 q2'
      obtain ⟨ax, cx, rfl, hcx, hcx'⟩ := tx.shape
      obtain ⟨ay, cy, rfl, hcy, hcy'⟩ := ty.shape
      have p0 := e1 0 (by omega)
      have p1 := e1 1 (by omega)
      have q0 := e2 0 (by omega)
      have q1 := e2 1 (by omega)
      simp only [Nat.add_zero, List.getElem?_cons_zero, List.getElem?_cons_succ] at p0 p1 q0 q1
      clear e1 e2 q1' q2' hO1 hO2 HG HG0
      have HENV := hide hst.env
      clear hst
      have HLEN := hide hlen
      clear hlen
      have HAP := hide hap
      clear hap
      have HP1 := hide P1
      have HP2 := hide P2
      clear P1 P2
      have HX1 := hide hx1
      have HY1 := hide hy1
      clear hx1 hy1
      have HGL := hide hgl
      clear hgl
      go_wp2
      refine cut_cap (fun a0 a' w' => ∃ B1 B2, a' = ((((((((((a0.put (some 28) (.slice (some ⟨g1, 0, none⟩) (ls.length + 1) cap1)).put (some 29) (.int .i64 ls.length)).put (some 30) (.pointer (some ⟨g1, ls.length * 2, none⟩))).put (some 31) (.agg #[.int .i64 x.h, .slice ax x.args.length cx])).put (some 32) (.slice (some ⟨g2, 0, none⟩) (ls.length + 1) cap2)).put (some 33) (.int .i64 ls.length)).put (some 34) (.pointer (some ⟨g2, ls.length * 2, none⟩))).put (some 35) (.agg #[.int .i64 y.h, .slice ay y.args.length cy])).put (some 11) (.pointer (some ⟨B1, 0, none⟩))).put (some 12) (.pointer (some ⟨B2, 0, none⟩))) ∧ wr.heap.size ≤ B1 ∧ wr.heap.size ≤ B2 ∧ B1 ≠ B2 ∧ w'.heap[B1]? = some (.cells #[.int .i64 x.h, .slice ax x.args.length cx] 25 (0, 0)) ∧ w'.heap[B2]? = some (.cells #[.int .i64 y.h, .slice ay y.args.length cy] 25 (0, 0)) ∧ Below wr.heap.size wr w') ?_ ?_
      · have hS : ∀ W', Below wr.heap.size wr W' → Below wr.heap.size wr W' ∧ W'.cell? ⟨g1, ls.length * 2, none⟩ = some (.int .i64 x.h) ∧ W'.cell? ⟨g1, ls.length * 2 + 1, none⟩ = some (.slice ax x.args.length cx) ∧ W'.cell? ⟨g2, ls.length * 2, none⟩ = some (.int .i64 y.h) ∧ W'.cell? ⟨g2, ls.length * 2 + 1, none⟩ = some (.slice ay y.args.length cy) := fun W' hW =>
          ⟨hW, (hW.cell (p := ⟨g1, ls.length * 2, none⟩) hg1').trans p0, (hW.cell (p := ⟨g1, ls.length * 2 + 1, none⟩) hg1').trans p1, (hW.cell (p := ⟨g2, ls.length * 2, none⟩) hg2').trans q0, (hW.cell (p := ⟨g2, ls.length * 2 + 1, none⟩) hg2').trans q1⟩
        refine drawn_two (fun W' => Below wr.heap.size wr W' ∧ W'.cell? ⟨g1, ls.length * 2, none⟩ = some (.int .i64 x.h) ∧ W'.cell? ⟨g1, ls.length * 2 + 1, none⟩ = some (.slice ax x.args.length cx) ∧ W'.cell? ⟨g2, ls.length * 2, none⟩ = some (.int .i64 y.h) ∧ W'.cell? ⟨g2, ls.length * 2 + 1, none⟩ = some (.slice ay y.args.length cy)) [.take 0, .take 1, .take 2, .take 3, .take 4, .take 5, .take 6, .take 7, .two 8 9, .one 10, .one 11] (by kernel_rfl) (by kernel_rfl) (by kernel_rfl) (by kernel_rfl) (fun _ _ _ _ _ h => h) (hS _ (Below.refl _ _).drew) ?_
        have hi0 : (ls.length : Int) < (ls.length : Int) + 1 := by omega
        iterate 8 (refine p_take (v := ?_) rfl (by rfl) ?_ ?_; rotate_left; (intro w hS; obtain ⟨-, S1, S2, S3, S4⟩ := hS; go_simp; try with_reducible rfl); simp only [Act.put, List.setIfInBounds_toArray, List.set_cons_zero, List.set_cons_succ])
        refine p_two rfl rfl (by rfl) (by rfl) ?_ ?_
        · intro K hK
          go_simp
          refine hK.out _ _ (hS _ ((Below.refl _ _).drew.alloc (Nat.le_refl _) _)) ?_
          refine p_then rfl (by rfl) ?_
          clear hK K
          intro K hK
          go_simp
          have hW3 : Below wr.heap.size wr (((wr.alloc (.cells #[.int .i64 0, .slice none 0 0] 25)).alloc (.cells #[.int .i64 0, .slice none 0 0] 25)).drew) := (((Below.refl wr.heap.size wr).alloc (Nat.le_refl _) (.cells #[.int .i64 0, .slice none 0 0] 25)).alloc (by simp) (.cells #[.int .i64 0, .slice none 0 0] 25)).drew
          refine hK.out _ _ (hS _ hW3) ?_
          clear hK K
          have b0 := World.alloc_heap_new wr (.cells #[.int .i64 0, .slice none 0 0] 25)
          have b9 : (((wr.alloc (.cells #[.int .i64 0, .slice none 0 0] 25)).alloc (.cells #[.int .i64 0, .slice none 0 0] 25)).drew).heap[wr.heap.size + 1]? = some (.cells #[.int .i64 0, .slice none 0 0] 25 (0, 0)) := by
            have h := World.alloc_heap_new (wr.alloc (.cells #[.int .i64 0, .slice none 0 0] 25)) (.cells #[.int .i64 0, .slice none 0 0] 25)
            rw [World.size_alloc] at h
            exact h
          have b8 : (((wr.alloc (.cells #[.int .i64 0, .slice none 0 0] 25)).alloc (.cells #[.int .i64 0, .slice none 0 0] 25)).drew).heap[wr.heap.size]? = some (.cells #[.int .i64 0, .slice none 0 0] 25 (0, 0)) := (Below.heap_alloc (wr.alloc (.cells #[.int .i64 0, .slice none 0 0] 25)) (.cells #[.int .i64 0, .slice none 0 0] 25) _ (by simp)).trans b0
          generalize (((wr.alloc (.cells #[.int .i64 0, .slice none 0 0] 25)).alloc (.cells #[.int .i64 0, .slice none 0 0] 25)).drew) = W3 at *
          clear b0
          obtain ⟨l8, z0, z1, z2, z3⟩ := box2 b8
          obtain ⟨l9, y0, y1, y2, y3⟩ := box2 b9
          refine p_one rfl (by rfl) ?_
          intro K hK
          go_simp
          have hW4 := set2_below (b := wr.heap.size) hW3 (by omega) (.int .i64 x.h) (.slice ax x.args.length cx)
          have c8 := box2_set b8 (.int .i64 x.h) (.slice ax x.args.length cx)
          have c9 := (Keep.refl (fun b => b ≠ wr.heap.size) W3).setCell (p := ⟨wr.heap.size, 0, none⟩) (by simp) (.int .i64 x.h) |>.setCell (p := ⟨wr.heap.size, 1, none⟩) (by simp) (.slice ax x.args.length cx) |>.obj (by omega) b9
          refine hK.out _ _ (hS _ hW4) ?_
          clear hK K
          generalize ((W3.setCell ⟨wr.heap.size, 0, none⟩ (.int .i64 x.h)).setCell ⟨wr.heap.size, 1, none⟩ (.slice ax x.args.length cx)) = W4 at *
          clear l8 l9 z0 z1 z2 z3 y0 y1 y2 y3 b8 b9
          obtain ⟨l9, y0, y1, y2, y3⟩ := box2 c9
          refine p_one rfl (by rfl) ?_
          intro K hK
          go_simp
          have hW5 := set2_below (b := wr.heap.size + 1) hW4 (by omega) (.int .i64 y.h) (.slice ay y.args.length cy)
          have d9 := box2_set c9 (.int .i64 y.h) (.slice ay y.args.length cy)
          have d8 := (Keep.refl (fun b => b ≠ wr.heap.size + 1) W4).setCell (p := ⟨wr.heap.size + 1, 0, none⟩) (by simp) (.int .i64 y.h) |>.setCell (p := ⟨wr.heap.size + 1, 1, none⟩) (by simp) (.slice ay y.args.length cy) |>.obj (by omega) c8
          refine hK.out _ _ (hS _ hW5) ?_
          clear hK K
          refine p_done ?_
          exact ⟨wr.heap.size, wr.heap.size + 1, by try simp only [Act.put, List.setIfInBounds_toArray, List.set_cons_zero, List.set_cons_succ]; try rfl, by omega, by omega, by omega, d8, d9, hW5⟩
        · intro K hK
          go_simp
          refine hK.out _ _ (hS _ ((Below.refl _ _).drew.alloc (Nat.le_refl _) _)) ?_
          refine p_then rfl (by rfl) ?_
          clear hK K
          intro K hK
          go_simp
          have hW3 : Below wr.heap.size wr (((wr.alloc (.cells #[.int .i64 0, .slice none 0 0] 25)).alloc (.cells #[.int .i64 0, .slice none 0 0] 25)).drew) := (((Below.refl wr.heap.size wr).alloc (Nat.le_refl _) (.cells #[.int .i64 0, .slice none 0 0] 25)).alloc (by simp) (.cells #[.int .i64 0, .slice none 0 0] 25)).drew
          refine hK.out _ _ (hS _ hW3) ?_
          clear hK K
          have b0 := World.alloc_heap_new wr (.cells #[.int .i64 0, .slice none 0 0] 25)
          have b8 : (((wr.alloc (.cells #[.int .i64 0, .slice none 0 0] 25)).alloc (.cells #[.int .i64 0, .slice none 0 0] 25)).drew).heap[wr.heap.size + 1]? = some (.cells #[.int .i64 0, .slice none 0 0] 25 (0, 0)) := by
            have h := World.alloc_heap_new (wr.alloc (.cells #[.int .i64 0, .slice none 0 0] 25)) (.cells #[.int .i64 0, .slice none 0 0] 25)
            rw [World.size_alloc] at h
            exact h
          have b9 : (((wr.alloc (.cells #[.int .i64 0, .slice none 0 0] 25)).alloc (.cells #[.int .i64 0, .slice none 0 0] 25)).drew).heap[wr.heap.size]? = some (.cells #[.int .i64 0, .slice none 0 0] 25 (0, 0)) := (Below.heap_alloc (wr.alloc (.cells #[.int .i64 0, .slice none 0 0] 25)) (.cells #[.int .i64 0, .slice none 0 0] 25) _ (by simp)).trans b0
          generalize (((wr.alloc (.cells #[.int .i64 0, .slice none 0 0] 25)).alloc (.cells #[.int .i64 0, .slice none 0 0] 25)).drew) = W3 at *
          clear b0
          obtain ⟨l8, z0, z1, z2, z3⟩ := box2 b8
          obtain ⟨l9, y0, y1, y2, y3⟩ := box2 b9
          refine p_one rfl (by rfl) ?_
          intro K hK
          go_simp
          have hW4 := set2_below (b := wr.heap.size + 1) hW3 (by omega) (.int .i64 x.h) (.slice ax x.args.length cx)
          have c8 := box2_set b8 (.int .i64 x.h) (.slice ax x.args.length cx)
          have c9 := (Keep.refl (fun b => b ≠ wr.heap.size + 1) W3).setCell (p := ⟨wr.heap.size + 1, 0, none⟩) (by simp) (.int .i64 x.h) |>.setCell (p := ⟨wr.heap.size + 1, 1, none⟩) (by simp) (.slice ax x.args.length cx) |>.obj (by omega) b9
          refine hK.out _ _ (hS _ hW4) ?_
          clear hK K
          generalize ((W3.setCell ⟨wr.heap.size + 1, 0, none⟩ (.int .i64 x.h)).setCell ⟨wr.heap.size + 1, 1, none⟩ (.slice ax x.args.length cx)) = W4 at *
          clear l8 l9 z0 z1 z2 z3 y0 y1 y2 y3 b8 b9
          obtain ⟨l9, y0, y1, y2, y3⟩ := box2 c9
          refine p_one rfl (by rfl) ?_
          intro K hK
          go_simp
          have hW5 := set2_below (b := wr.heap.size) hW4 (by omega) (.int .i64 y.h) (.slice ay y.args.length cy)
          have d9 := box2_set c9 (.int .i64 y.h) (.slice ay y.args.length cy)
          have d8 := (Keep.refl (fun b => b ≠ wr.heap.size) W4).setCell (p := ⟨wr.heap.size, 0, none⟩) (by simp) (.int .i64 y.h) |>.setCell (p := ⟨wr.heap.size, 1, none⟩) (by simp) (.slice ay y.args.length cy) |>.obj (by omega) c8
          refine hK.out _ _ (hS _ hW5) ?_
          clear hK K
          refine p_done ?_
          exact ⟨wr.heap.size + 1, wr.heap.size, by try simp only [Act.put, List.setIfInBounds_toArray, List.set_cons_zero, List.set_cons_succ]; try rfl, by omega, by omega, by omega, d8, d9, hW5⟩
      rintro _ W2 ⟨B1, B2, rfl, hB1, hB2, hne2, k1, k2, hW2⟩
      simp only [Act.put, List.setIfInBounds_toArray, List.set_cons_zero, List.set_cons_succ]
      go_wp2
      refine cut_cap (fun a0 a' w' => a' = ((((((((a0.put (some 36) (.slice (some ⟨g1, 0, none⟩) (ls.length + 1) cap1)).put (some 37) (.int .i64 ls.length)).put (some 38) (.slice (some ⟨g1, 0, none⟩) ls.length cap1)).put (some 39) (.slice (some ⟨g2, 0, none⟩) (ls.length + 1) cap2)).put (some 40) (.int .i64 ls.length)).put (some 41) (.slice (some ⟨g2, 0, none⟩) ls.length cap2)).put (some 8) (.slice (some ⟨g1, 0, none⟩) ls.length cap1)).put (some 9) (.slice (some ⟨g2, 0, none⟩) ls.length cap2)) ∧ w' = W2.drew) ?_ ?_
      · refine drawn_two (fun _ => True) [.take 0, .take 1, .take 2, .take 3, .take 4, .take 5, .take 6, .take 7] (by kernel_rfl) (by kernel_rfl) (by kernel_rfl) (by kernel_rfl) (fun _ _ _ _ _ h => h) trivial ?_
        have hi1 : ls.length ≤ cap1 := by omega
        have hi2 : ls.length ≤ cap2 := by omega
        iterate 8 (refine p_take (v := ?_) rfl (by rfl) ?_ ?_; rotate_left; (intro w _; go_simp; try with_reducible rfl); simp only [Act.put, List.setIfInBounds_toArray, List.set_cons_zero, List.set_cons_succ])
        exact p_done ⟨by try simp only [Act.put, List.setIfInBounds_toArray, List.set_cons_zero, List.set_cons_succ]; try rfl, rfl⟩
      rintro _ _ ⟨rfl, rfl⟩
      simp only [Act.put, List.setIfInBounds_toArray, List.set_cons_zero, List.set_cons_succ]
      have hW3 := hW2.drew
      have k1' : W2.drew.heap[B1]? = _ := k1
      have k2' : W2.drew.heap[B2]? = _ := k2
      generalize W2.drew = W3 at *
      clear k1 k2 hW2 p0 p1 q0 q1
      obtain ⟨kk1, z0, z1, -, -⟩ := box2 k1'
      obtain ⟨kk2, y0, y1, -, -⟩ := box2 k2'
      have hB9 : Below mb w W3 := hB.trans (hW3.mono (by omega))
      have hmore9 : w.heap.size ≤ W3.heap.size := Nat.le_trans hmore hW3.size
      have hgx : x.good = true := by
        have := HGL.out
        rw [goods_append, Bool.and_eq_true] at this
        simpa [Tm.goods] using this.2
      have hxr := good_heads x hgx x.h (by rw [Tm.heads_eq]; simp)
      have hw1 : IntKind.i64.wrap (-1 - x.h) = -1 - x.h := IntWalk.i64_in _ (by omega)
      have hszx := HX1.out
      have hmb9 : mb < wr.heap.size := by omega
      by_cases hneg : x.h < 0
      · have hge : 0 ≤ -1 - x.h := by omega
        obtain ⟨F, hF, hFv⟩ := HENV.out.below hW3
        have HFV := hide hFv
        cases hfv : f (-1 - x.h) with
        | none =>
          have HFX := hide ((hFv _).1 hfv)
          have HGV := hide (wstate_var hg.out HLEN.out hneg (.inl hfv))
          have hal : Below W3.heap.size W3 (W3.alloc (.cells #[.int .i64 0, .slice none 0 0] 25)) := (Below.refl _ _).alloc (Nat.le_refl _) _
          have HF2 := hide (hF.below hal)
          obtain ⟨-, m0, m1, -, -⟩ := box2 ((hal.block _ kk2).trans k2')
          have hB10 := hB9.trans (hal.mono (by have := hW3.size; omega))
          have hm10 := Nat.le_trans hmore9 hal.size
          clear hFv hfv hg
          go_wp2_with (first | (at_lookup; refine look_pl rfl _ _ 162 rfl Try.underlying3 Try.underlying162 (zeroTerm _) mb F rfl hF (-1 - x.h) rfl (by omega) (by omega) ?_; rw [HFX.out]) | (at_mapUpdate; refine store_pl rfl _ _ _ 162 rfl Try.underlying3 Try.underlying162 mb F rfl HF2.out (-1 - x.h) rfl (by omega) (by omega) (.agg #[.int .i64 y.h, .slice ay y.args.length cy]) rfl ?_; intro W9 hm9 hk9))
          have hlt1 := HP1.out.lt
          have hlt2 := HP2.out.lt
          have hfin : Gst A mb w W9 _ _ ls rs (upd f (-1 - x.h) y) := {
            below := hB10.trans (hk9.below (fun b hb h => by omega) (by omega))
            more := Nat.le_trans hm10 hk9.size
            left := ((HP1.out.below hW3).below hal).keep hk9 (fun b _ hb h => by omega) (fun b hb h => by have := (hlt1 b hb).1; omega)
            right := ((HP2.out.below hW3).below hal).keep hk9 (fun b _ hb h => by omega) (fun b hb h => by have := (hlt2 b hb).1; omega)
            apart := HAP.out
            len := HLEN.out
            size := by omega
            env := by
              refine ⟨_, hm9, fun z => ⟨fun hz => ?_, fun t hz => ?_⟩⟩
              · by_cases e : z = -1 - x.h
                · simp [upd, e] at hz
                · simp only [e, if_false]
                  exact (HFV.out z).1 (by simpa [upd, e] using hz)
              · by_cases e : z = -1 - x.h
                · simp only [e, if_true]
                  simp only [upd, e, if_true, Option.some.injEq] at hz
                  subst hz
                  refine ⟨_, rfl, (((ty.bar fun b _ h => .inl h).below hW3).below hal).keep hk9 (fun b _ hb h => by omega)⟩
                · simp only [e, if_false]
                  obtain ⟨s9, h8, h9⟩ := (HFV.out z).2 t (by simpa [upd, e] using hz)
                  exact ⟨s9, h8, (h9.below hal).keep hk9 (fun b _ hb h => by omega)⟩
            good := by have := HGL.out; rw [goods_append, Bool.and_eq_true] at this; exact this.1
            size2 := by omega
            esz := fun v t hz => by
              by_cases e : v = -1 - x.h
              · simp [upd, e] at hz; rw [← hz]; omega
              · simp [upd, e] at hz; exact HESZ.out v t hz }
          go_roundg (Tm.sizes ls + 1)
          case measure => have := HX1.out; rw [Tm.sizes_append]; simp only [Tm.sizes]; omega
          case rel => exact ⟨ls, rs, upd f (-1 - x.h) y, rfl, hfin, HGV.out⟩
        | some u =>
          obtain ⟨su, hfx, tu⟩ := (hFv _).2 u hfv
          obtain ⟨au, cu, rfl, -, -⟩ := tu.shape
          have HFX := hide hfx
          have husz := HESZ.out _ _ hfv
          have HGV := hide (fun h : u = y => wstate_var hg.out HLEN.out hneg (.inr (h ▸ hfv)))
          have hal0 : Below W3.heap.size W3 (W3.alloc (.cells #[.int .i64 u.h, .slice au u.args.length cu] 25)) := (Below.refl _ _).alloc (Nat.le_refl _) _
          have kU : (W3.alloc (.cells #[.int .i64 u.h, .slice au u.args.length cu] 25)).heap[W3.heap.size]? = some (.cells #[.int .i64 u.h, .slice au u.args.length cu] 25 (0, 0)) := World.alloc_heap_new _ _
          obtain ⟨-, n0, n1, -, -⟩ := box2 kU
          obtain ⟨-, m0, m1, -, -⟩ := box2 ((hal0.block _ kk2).trans k2')
          clear hFv hfv hg hfx
          go_wp2_with (first | (at_lookup; refine look_pl rfl _ _ 162 rfl Try.underlying3 Try.underlying162 (zeroTerm _) mb F rfl hF (-1 - x.h) rfl (by omega) (by omega) ?_; rw [HFX.out]) | fail)
          refine (tsame_calls u y (fun b => mb ≤ b ∨ A b) (fun b => mb ≤ b ∨ A b) _ _ _ _ _ husz ⟨rfl, tu.below hal0⟩ ⟨rfl, ((ty.bar fun b _ h => .inl h).below hW3).below hal0⟩).mono ?_
          rintro e W8 ⟨rfl, h8⟩
          have hal := hal0.trans (h8.mono hal0.size)
          have HF2 := hide (hF.below hal)
          have hB10 := hB9.trans (hal.mono (by have := hW3.size; omega))
          have hm10 := Nat.le_trans hmore9 hal.size
          have kx2 := (hal.block _ kk2).trans k2'
          clear m0 m1 n0 n1 kU
          obtain ⟨-, m0, m1, -, -⟩ := box2 kx2
          cases hsb : sameB u y
          · have hne : u ≠ y := fun h => by rw [h, sameB_self] at hsb; cases hsb
            have HSB := hide hsb
            clear hsb hne
            go_wp2
            go_ret
            exact ⟨HB0.out.trans (hB10.mono h0mb), .inl rfl⟩
          · have HGV := hide (HGV.out (sameB_iff.1 hsb))
            have HSB := hide hsb
            clear hsb
            go_wp2_with (at_mapUpdate; refine store_pl rfl _ _ _ 162 rfl Try.underlying3 Try.underlying162 mb F rfl HF2.out (-1 - x.h) rfl (by omega) (by omega) (.agg #[.int .i64 y.h, .slice ay y.args.length cy]) rfl ?_; intro W9 hm9 hk9)
            have hlt1 := HP1.out.lt
            have hlt2 := HP2.out.lt
            have hfin : Gst A mb w W9 _ _ ls rs (upd f (-1 - x.h) y) := {
              below := hB10.trans (hk9.below (fun b hb h => by omega) (by omega))
              more := Nat.le_trans hm10 hk9.size
              left := ((HP1.out.below hW3).below hal).keep hk9 (fun b _ hb h => by omega) (fun b hb h => by have := (hlt1 b hb).1; omega)
              right := ((HP2.out.below hW3).below hal).keep hk9 (fun b _ hb h => by omega) (fun b hb h => by have := (hlt2 b hb).1; omega)
              apart := HAP.out
              len := HLEN.out
              size := by omega
              env := by
                refine ⟨_, hm9, fun z => ⟨fun hz => ?_, fun t hz => ?_⟩⟩
                · by_cases e : z = -1 - x.h
                  · simp [upd, e] at hz
                  · simp only [e, if_false]
                    exact (HFV.out z).1 (by simpa [upd, e] using hz)
                · by_cases e : z = -1 - x.h
                  · simp only [e, if_true]
                    simp only [upd, e, if_true, Option.some.injEq] at hz
                    subst hz
                    refine ⟨_, rfl, (((ty.bar fun b _ h => .inl h).below hW3).below hal).keep hk9 (fun b _ hb h => by omega)⟩
                  · simp only [e, if_false]
                    obtain ⟨s9, h8, h9⟩ := (HFV.out z).2 t (by simpa [upd, e] using hz)
                    exact ⟨s9, h8, (h9.below hal).keep hk9 (fun b _ hb h => by omega)⟩
              good := by have := HGL.out; rw [goods_append, Bool.and_eq_true] at this; exact this.1
              size2 := by omega
              esz := fun v t hz => by
                by_cases e : v = -1 - x.h
                · simp [upd, e] at hz; rw [← hz]; omega
                · simp [upd, e] at hz; exact HESZ.out v t hz }
            go_roundg (Tm.sizes ls + 1)
            case measure => have := HX1.out; rw [Tm.sizes_append]; simp only [Tm.sizes]; omega
            case rel => exact ⟨ls, rs, upd f (-1 - x.h) y, rfl, hfin, HGV.out⟩
      · have hge : ¬ 0 ≤ -1 - x.h := by omega
        by_cases hh : x.h = y.h ∧ x.args.length = y.args.length
        · obtain ⟨h1, h2⟩ := hh
          have HXY := hide (show x.h = y.h ∧ x.args.length = y.args.length from ⟨h1, h2⟩)
          have HG2 := hide (wstate_fun hg.out HLEN.out hneg h1 h2)
          have hal : x.args.length ≤ Tm.sizes x.args := Tm.sizes_length _
          have hlls : ls.length ≤ Tm.sizes ls := Tm.sizes_length _
          have hbd : ls.length + x.args.length ≤ 1000000000 := by omega
          have HSY := hide (show Tm.sizes rs + Tm.sizes y.args ≤ 1000000000 by have := HY1.out; omega)
          clear hal hlls hg
          have l1 : x.h ≤ y.h := by omega
          have l2 : y.h ≤ x.h := by omega
          have l3 : x.args.length ≤ y.args.length := by omega
          have l4 : y.args.length ≤ x.args.length := by omega
          clear h1 h2
          go_wp2
          refine cut_endcap (fun a0 a' w' => ∃ v3 v4, a' = ((((((((((a0.put (some 77) (.slice (some ⟨g1, 0, none⟩) ls.length cap1)).put (some 78) (.pointer (some ⟨B1, 1, none⟩))).put (some 79) (.slice ax x.args.length cx)).put (some 80) (v3)).put (some 81) (.slice (some ⟨g2, 0, none⟩) ls.length cap2)).put (some 82) (.pointer (some ⟨B2, 1, none⟩))).put (some 83) (.slice ay y.args.length cy)).put (some 84) (v4)).put (some 8) (v3)).put (some 9) (v4)) ∧ Gst A mb w w' v3 v4 (ls ++ x.args) (rs ++ y.args) f) ?_ ?_
          · have hS : ∀ W' : World, W'.heap[B1]? = W3.heap[B1]? → W'.heap[B2]? = W3.heap[B2]? → W'.cell? ⟨B1, 1, none⟩ = some (.slice ax x.args.length cx) ∧ W'.cell? ⟨B2, 1, none⟩ = some (.slice ay y.args.length cy) := fun W' e1 e2 => by
              obtain ⟨-, -, z1, -, -⟩ := box2 (e1.trans k1')
              obtain ⟨-, -, y1, -, -⟩ := box2 (e2.trans k2')
              exact ⟨z1, y1⟩
            refine drawn_two (fun W' => W'.cell? ⟨B1, 1, none⟩ = some (.slice ax x.args.length cx) ∧ W'.cell? ⟨B2, 1, none⟩ = some (.slice ay y.args.length cy)) [.take 0, .take 1, .take 2, .take 4, .take 5, .take 6, .one 3, .one 7, .take 8, .take 9] (by kernel_rfl) (by kernel_rfl) (by kernel_rfl) (by kernel_rfl) (fun _ _ _ _ _ h => h) (hS _ rfl rfl) ?_
            iterate 6 (refine p_take (v := ?_) rfl (by rfl) ?_ ?_; rotate_left; (intro w hS; obtain ⟨S1, S2⟩ := hS; go_simp; try with_reducible rfl); simp only [Act.put, List.setIfInBounds_toArray, List.set_cons_zero, List.set_cons_succ])
            have hWd := hW3.drew
            generalize hV : W3.drew = V at *
            have eB : ∀ b : Nat, V.heap[b]? = W3.heap[b]? := fun b => by rw [← hV]; rfl
            have P1 := HP1.out.below hWd
            have P2 := HP2.out.below hWd
            have EV := HENV.out.below hWd
            have hap : g1 ≠ g2 := fun h => HAP.out g1 rfl (by simp [Value.ownBlock, h])
            have tx' : RepD (fun b => (mb ≤ b ∨ A b) ∨ (Value.slice (some ⟨g1, 0, none⟩) ls.length cap1).ownBlock = some b) V (.row 2 (x.args.map Tm.d)) [.slice ax x.args.length cx] := by
              have := (tx.below hWd).bar (B := fun b => (mb ≤ b ∨ A b) ∨ (Value.slice (some ⟨g1, 0, none⟩) ls.length cap1).ownBlock = some b) fun b _ h => by
                rcases h with h | h
                · exact .inl h
                · exact .inl (.inl (by simp [Value.ownBlock] at h; omega))
              simpa only [Terms, Tm.ds_eq] using this
            have ty' : Terms (fun b => mb ≤ b ∨ A b) V (.slice ay y.args.length cy) y.args := (ty.below hWd).bar fun b _ h => .inl h
            have hVs := hWd.size
            refine p_one rfl (by rfl) ?_
            intro K hK
            refine wp_app_all (.tmp 77) (.tmp 79) 23 rfl w.heap.size 25 (.agg #[.int .i64 0, .slice none 0 0]) 2 32 Try.underlying23 (by kernel_rfl) rfl (by decide) (v := .slice (some ⟨g1, 0, none⟩) ls.length cap1) (xv := .slice ax x.args.length cx) rfl rfl P1 tx' (fun d hd => by obtain ⟨z, -, rfl⟩ := List.mem_map.1 hd; exact Tm.oneD z) (by simp [maxLen]; omega) (by simp; omega) (by omega) ?_
            intro v3 w4 o1 kp1 ob1 ⟨ad1, cp1, hv1⟩
            have nB1 : V.heap.size ≤ w4.heap.size := kp1.size
            have kB1 : ∀ b, b < V.heap.size → b ≠ g1 → w4.heap[b]? = V.heap[b]? := fun b hb hne => kp1.block b hb (by simp [Value.ownBlock]; omega)
            have lt1 := o1.lt
            subst hv1
            have lB1 : B1 < V.heap.size := by rw [← hV]; exact kk1
            have lB2 : B2 < V.heap.size := by rw [← hV]; exact kk2
            refine hK.out _ _ (hS _ ((kB1 _ lB1 (by omega)).trans (eB _)) ((kB1 _ lB2 (by omega)).trans (eB _))) ?_
            clear hK K
            simp only [Act.put, List.setIfInBounds_toArray, List.set_cons_zero, List.set_cons_succ]
            have P2' := P2.keep kp1 (fun b _ hb h => by simp [Value.ownBlock] at h; omega) (fun b hb h => by simp [Value.ownBlock] at h hb; omega)
            have E1 := EV.keep kp1 (fun h => by simp [Value.ownBlock] at h; omega) (fun c _ hc h => by simp [Value.ownBlock] at h; omega)
            have ty2 : RepD (fun b => (mb ≤ b ∨ A b) ∨ (Value.slice (some ⟨g2, 0, none⟩) ls.length cap2).ownBlock = some b) w4 (.row 2 (y.args.map Tm.d)) [.slice ay y.args.length cy] := by
              have := (ty'.keep kp1 (fun b _ hb h => by simp [Value.ownBlock] at h; omega)).bar (B := fun b => (mb ≤ b ∨ A b) ∨ (Value.slice (some ⟨g2, 0, none⟩) ls.length cap2).ownBlock = some b) fun b _ h => by
                rcases h with h | h
                · exact h
                · exact .inl (by simp [Value.ownBlock] at h; omega)
              simpa only [Terms, Tm.ds_eq] using this
            refine p_one rfl (by rfl) ?_
            intro K hK
            refine wp_app_all (.tmp 81) (.tmp 83) 23 rfl w.heap.size 25 (.agg #[.int .i64 0, .slice none 0 0]) 2 32 Try.underlying23 (by kernel_rfl) rfl (by decide) (v := .slice (some ⟨g2, 0, none⟩) ls.length cap2) (xv := .slice ay y.args.length cy) rfl rfl P2' ty2 (fun d hd => by obtain ⟨z, -, rfl⟩ := List.mem_map.1 hd; exact Tm.oneD z) (by have := HLEN.out; simp [maxLen]; omega) (by have := HLEN.out; simp; omega) (by omega) ?_
            intro v4 w5 o2 kp2 ob2 ⟨ad2, cp2, hv2⟩
            subst hv2
            have kB2 : ∀ b, b < w4.heap.size → b ≠ g2 → w5.heap[b]? = w4.heap[b]? := fun b hb hne => kp2.block b hb (by simp [Value.ownBlock]; omega)
            refine hK.out _ _ (hS _ ((kB2 _ (by omega) (by omega)).trans ((kB1 _ lB1 (by omega)).trans (eB _))) ((kB2 _ (by omega) (by omega)).trans ((kB1 _ lB2 (by omega)).trans (eB _)))) ?_
            clear hK K
            simp only [Act.put, List.setIfInBounds_toArray, List.set_cons_zero, List.set_cons_succ]
            have hfin : Gst A mb w w5 _ _ (ls ++ x.args) (rs ++ y.args) f := {
              below := ((hB.trans (hWd.mono (by omega))).trans (kp1.below (fun b hb h => by simp [Value.ownBlock] at h; omega) (by omega))).trans (kp2.below (fun b hb h => by simp [Value.ownBlock] at h; omega) (by omega))
              more := by have := kp2.size; omega
              left := by
                rw [List.map_append]
                exact o1.keep kp2 (fun b _ hb h => by simp [Value.ownBlock] at h; omega) (fun b hb h => by
                  have := ob1 b hb
                  have := lt1 b hb
                  simp [Value.ownBlock] at h this
                  rcases ob1 b hb with h9 | h9
                  · simp [Value.ownBlock] at h9; omega
                  · omega)
              right := by rw [List.map_append]; exact o2
              apart := fun b hb1 hb2 => by
                have l1 := lt1 b hb1
                rcases ob1 b hb1 with h9 | h9
                · simp [Value.ownBlock] at h9
                  rcases ob2 b hb2 with h8 | h8
                  · simp [Value.ownBlock] at h8; omega
                  · omega
                · rcases ob2 b hb2 with h8 | h8
                  · simp [Value.ownBlock] at h8; omega
                  · omega
              len := by rw [List.length_append, List.length_append, HLEN.out, HXY.out.2]
              size := by rw [Tm.sizes_append]; have := HX1.out; omega
              env := E1.keep kp2 (fun h => by simp [Value.ownBlock] at h; omega) (fun c _ hc h => by simp [Value.ownBlock] at h; omega)
              good := by
                have h1 := HGL.out
                rw [goods_append, Bool.and_eq_true] at h1 ⊢
                refine ⟨h1.1, ?_⟩
                cases x with
                | node xh xl =>
                  have := hgx
                  simp only [Tm.good, Bool.and_eq_true] at this
                  exact this.2
              size2 := by rw [Tm.sizes_append]; exact HSY.out
              esz := HESZ.out }
            simp only [List.length_map] at hfin
            iterate 2 (refine p_take (v := ?_) rfl (by rfl) ?_ ?_; rotate_left; (intro w hS; obtain ⟨S1, S2⟩ := hS; go_simp; try with_reducible rfl); simp only [Act.put, List.setIfInBounds_toArray, List.set_cons_zero, List.set_cons_succ])
            exact p_done ⟨.slice ad1 (ls.length + x.args.length) cp1, .slice ad2 (rs.length + y.args.length) cp2, by first | rfl | (simp [Act.put]), hfin⟩
          rintro _ W5 ⟨v3, v4, rfl, hst5⟩
          simp only [Act.put, List.setIfInBounds_toArray, List.set_cons_zero, List.set_cons_succ]
          go_wp2
          go_roundg (Tm.sizes (ls ++ x.args) + 1)
          case measure => rw [Tm.sizes_append, Tm.sizes_append]; have := HX1.out; simp only [Tm.sizes]; omega
          case rel => exact ⟨_, _, f, rfl, hst5, HG2.out⟩
        · clear hg
          by_cases h1 : x.h = y.h
          · have h2 : ¬ x.args.length = y.args.length := fun h => hh ⟨h1, h⟩
            have l1 : x.h ≤ y.h := by omega
            have l2 : y.h ≤ x.h := by omega
            have hd : (x.h != y.h) = false := by simpa using h1
            clear hh h1
            go_wp2
            go_ret
            exact ⟨HB0.out.trans (hB9.mono h0mb), .inl rfl⟩
          · have hd : (x.h != y.h) = true := by simpa using h1
            clear hh
            go_wp2
            go_ret
            exact ⟨HB0.out.trans (hB9.mono h0mb), .inl rfl⟩
end Go.Proofs.Ythplndalbfcbbaa
