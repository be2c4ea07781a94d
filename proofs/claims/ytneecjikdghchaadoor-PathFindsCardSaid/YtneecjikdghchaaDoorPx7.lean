/- path.Index: Drop, walked; nil indexes. -/
import Derived.Test.YtneecjikdghchaaDoorPx4
set_option linter.unusedSimpArgs false
set_option linter.unusedVariables false
namespace Go.Proofs.YtneecjikdghchaaDoor
section
open Go.RowKit

section
variable {w w' : World} {A : Nat → Prop} {xb rb hb ab : Nat} {fr : Int → Option Value} {fh fa : Value → Option Value} {role : Nat → Option PRole} {X : List (Int × Tm)} {Hs : Spt → Int → Prop} {As : List Nat → Int → Prop} {base : Nat}
theorem PxAt.len (h : PxAt w A xb rb hb ab fr fh fa role X Hs As base) : (Builtin.len_ #[59] 3 #[.map (some rb)]).run Tryd.prog w = .ok (.int .i64 X.length) w := by
  obtain ⟨es, clock, h1, h2⟩ := h.r.size h.nd (fun x => by
    constructor
    · intro hx
      obtain ⟨q, hq, rfl⟩ := List.mem_map.1 hx
      exact h.r2 q.1 q.2 hq
    · rintro ⟨v, hv⟩
      obtain ⟨u, hu, -⟩ := h.r1 x v hv
      exact List.mem_map.2 ⟨_, hu, rfl⟩)
  rw [List.length_map] at h2
  rw [run_len_map w _ _ rb es clock (by kernel_rfl) h1, h2]; rfl
end
theorem pbox3' {w : World} {b : Nat} {x y z : Value} {t : TypeId} (h : w.heap[b]? = some (.cells #[x, y, z] t (0, 0))) : b < w.heap.size ∧ w.cell? ⟨b, 0, none⟩ = some x ∧ w.cell? ⟨b, 1, none⟩ = some y ∧ w.cell? ⟨b, 2, none⟩ = some z :=
  ⟨(Array.getElem?_eq_some_iff.1 h).1, pbox3 h⟩
set_option maxHeartbeats 1000000 in
set_option maxRecDepth 100000 in
theorem psize_calls {A : Nat → Prop} {xb rb hb ab : Nat} {X : List (Int × Tm)} {role : Nat → Option PRole} {base : Nat} (w : World) (hx : PxOk w A xb rb hb ab X role base) : Calls Tryd.prog 27 #[.pointer (some ⟨xb, 0, none⟩)] w fun e w' => e = .returned (.int .i64 X.length) ∧ w = w' := by
  obtain ⟨fr, fh, fa, hx⟩ := hx
  have hlen := hx.len
  obtain ⟨hl, q0, q1, q2⟩ := pbox3' hx.x
  clear hx
  go_enter Tryd.func27, Tryd.ntmps27
  go_wp2
  go_ret
  exact ⟨rfl, rfl⟩
set_option maxHeartbeats 1000000 in
set_option maxRecDepth 100000 in
theorem psize_nil (w : World) : Calls Tryd.prog 27 #[.pointer none] w fun e w' => e = .returned (.int .i64 0) ∧ w = w' := by
  go_enter Tryd.func27, Tryd.ntmps27
  go_wp2
  go_ret
  exact ⟨rfl, rfl⟩
def pputX (X : List (Int × Tm)) (id : Int) (t : Tm) : List (Int × Tm) × Int := if id ∈ X.map (·.1) ∨ chk t ≠ 0 then (X, 1) else if 4096 ≤ X.length then (X, 9) else (X ++ [(id, t)], 0)
theorem zeroSpots (W : World) : (zeroValue 64).run Tryd.prog W = .ok (.slice none 0 0) W := by kernel_rfl
theorem chk_ok {t : Tm} (h : chk t = 0) : t.good = true ∧ t.size ≤ 400 := by
  unfold chk at h
  split at h
  · cases h
  · split at h
    · cases h
    · split at h
      · next h1 _ h2 => exact ⟨h2, by omega⟩
      · cases h
theorem fst_inj : ∀ {X : List (Int × Tm)} {x : Int} {u v : Tm}, (X.map (·.1)).Nodup → (x, u) ∈ X → (x, v) ∈ X → u = v
  | [], _, _, _, _, h, _ => by simp at h
  | (y, q) :: X, x, u, v, hn, h1, h2 => by
    simp only [List.map_cons, List.nodup_cons] at hn
    rcases List.mem_cons.1 h1 with e1 | h1 <;> rcases List.mem_cons.1 h2 with e2 | h2
    · cases e1; cases e2; rfl
    · cases e1; exact absurd (List.mem_map.2 ⟨_, h2, rfl⟩) hn.1
    · cases e2; exact absurd (List.mem_map.2 ⟨_, h1, rfl⟩) hn.1
    · exact fst_inj hn.2 h1 h2
section
variable {w w' : World} {A : Nat → Prop} {xb rb hb ab : Nat} {fr : Int → Option Value} {fh fa : Value → Option Value} {role : Nat → Option PRole} {X : List (Int × Tm)} {Hs : Spt → Int → Prop} {As : List Nat → Int → Prop} {base : Nat}
theorem PxAt.row (h : PxAt w A xb rb hb ab fr fh fa role X Hs As base) {id : Int} {t : Tm} {v : Value} (hm : (id, t) ∈ X) (hf : fr id = some v) : SpotsR (fun b => A b ∨ role b ≠ none) w v (psT [] t) := by
  obtain ⟨u, h1, h2⟩ := h.r1 id v hf
  rw [fst_inj h.nd hm h1]; exact h2
end
theorem good_h {t : Tm} (h : t.good = true) : -256 ≤ t.h ∧ t.h ≤ 1023 := by
  cases t with
  | node x l =>
    simp only [Tm.good, Bool.and_eq_true] at h
    have h1 := h.1
    simp only [okP, Tm.h, Tm.args, Bool.not_eq_true', Bool.or_eq_false_iff, decide_eq_false_iff_not] at h1
    have a := of_decide_eq_false h1.1.1.2
    have b := of_decide_eq_false h1.1.2
    simp only [Tm.h]
    omega
theorem spt_okN (n : Nat) : ∀ (t : Tm) (p : List Nat), t.size ≤ n → t.good = true → (dotB p).length + 2 * t.size ≤ 1000000 → ∀ s ∈ psT p t, SptOk s := by
  induction n with
  | zero => intro t _ h; have := t.size_eq; omega
  | succ n ih =>
    intro t p hn hg hd s hs
    obtain ⟨g1, g2⟩ := good_args' hg
    have g3 := good_h hg
    rw [psT_eq] at hs
    split at hs
    · simp at hs
    · rcases List.mem_cons.1 hs with rfl | hs
      · exact ⟨by simp only; omega, by simp only; omega, by simp only; omega, by simp only; omega⟩
      · obtain ⟨k, q, u, h1, h2, h3⟩ := (mem_psL t.args p 0 s).1 hs
        have hk : k < t.args.length := (List.getElem?_eq_some_iff.1 h1).1
        have hu : u = t.args[k] := by rw [List.getElem?_eq_getElem hk] at h1; exact (Option.some.inj h1).symm
        subst hu
        have hz := psizes_take t.args k hk
        have hz2 := t.size_eq
        refine ih (t.args[k]) (p ++ [k]) (by omega) (g2 k hk) ?_ s ((mem_psT _ _ _).2 ⟨q, by rw [h2]; simp, h3⟩)
        rw [dotB_snoc p (by omega), dec_small (by omega : k < 10)]
        simp only [List.length_append, List.length_cons, List.length_nil]; omega
theorem spt_ok {t : Tm} (hg : t.good = true) (hz : t.size ≤ 400) : ∀ s ∈ psT [] t, SptOk s := spt_okN _ t [] (Nat.le_refl _) hg (by simp [dotB]; omega)
def MarkInv (w : World) (A : Nat → Prop) (xb rb hb ab : Nat) (fr : Int → Option Value) (role : Nat → Option PRole) (X : List (Int × Tm)) (id : Int) (t : Tm) (base : Nat) (wr : World) (k : Nat) : Prop :=
  ∃ fh fa role', PxAt wr A xb rb hb ab fr fh fa role' (X ++ [(id, t)]) (fun s x => hasS X s x ∨ (x = id ∧ s ∈ (psT [] t).take k)) (fun p x => hasP X p x ∨ (x = id ∧ ∃ s ∈ (psT [] t).take k, s.p = p)) base ∧ PMoved role role' w wr
theorem hasS_put {X : List (Int × Tm)} {id : Int} {t : Tm} (s : Spt) (x : Int) : (hasS X s x ∨ (x = id ∧ s ∈ psT [] t)) ↔ hasS (X ++ [(id, t)]) s x := by
  constructor
  · rintro (⟨u, h1, h2⟩ | ⟨rfl, h⟩)
    · exact ⟨u, by simp [h1], h2⟩
    · exact ⟨t, by simp, h⟩
  · rintro ⟨u, h1, h2⟩
    rcases List.mem_append.1 h1 with h1 | h1
    · exact .inl ⟨u, h1, h2⟩
    · simp only [List.mem_singleton, Prod.mk.injEq] at h1
      obtain ⟨rfl, rfl⟩ := h1
      exact .inr ⟨rfl, h2⟩
theorem hasP_put {X : List (Int × Tm)} {id : Int} {t : Tm} (p : List Nat) (x : Int) : (hasP X p x ∨ (x = id ∧ ∃ s ∈ psT [] t, s.p = p)) ↔ hasP (X ++ [(id, t)]) p x := by
  constructor
  · rintro (⟨u, h1, h2⟩ | ⟨rfl, h⟩)
    · exact ⟨u, by simp [h1], h2⟩
    · exact ⟨t, by simp, h⟩
  · rintro ⟨u, h1, h2⟩
    rcases List.mem_append.1 h1 with h1 | h1
    · exact .inl ⟨u, h1, h2⟩
    · simp only [List.mem_singleton, Prod.mk.injEq] at h1
      obtain ⟨rfl, rfl⟩ := h1
      exact .inr ⟨rfl, h2⟩
set_option maxHeartbeats 8000000 in
set_option maxRecDepth 100000 in
theorem pput_calls {A : Nat → Prop} {xb rb hb ab : Nat} {X : List (Int × Tm)} {role : Nat → Option PRole} {base : Nat} (id : Int) (t : Tm) (h : Int) (s : Value) (w : World) (hz : t.size ≤ 1000000000) (h0 : -9223372036854775808 ≤ id) (h1 : id ≤ 9223372036854775807) (hX : X.length ≤ 1000000) (hbs : base ≤ w.heap.size)
    (hx : PxOk w A xb rb hb ab X role base) (hs : IsTm (fun b => role b ≠ none) w h s t) :
    Calls Tryd.prog 12 #[.pointer (some ⟨xb, 0, none⟩), .int .i64 id, .agg #[.int .i64 h, s]] w fun e w' => e = .returned (.int .i64 (pputX X id t).2) ∧ ∃ role', PxOk w' A xb rb hb ab (pputX X id t).1 role' base ∧ PMoved role role' w w' := by
  obtain ⟨fr, fh, fa, hx⟩ := hx
  obtain ⟨rfl, a, c, rfl, hlc, hc⟩ := hs.shape
  have hb0 : Below w.heap.size w (w.alloc (.cells #[.int .i64 t.h, .slice a t.args.length c] 24)) := (Below.refl _ _).alloc (Nat.le_refl _) _
  have HX := hide (hx.below hb0)
  have HS := hide (hs.below hb0)
  have HB := hide hb0
  have HBX := hide (World.alloc_heap_new w (.cells #[.int .i64 t.h, .slice a t.args.length c] 24))
  have hrl := hx.r.lt
  have hlook := HX.out.r.look (P := Tryd.prog) (k := 3) (t := 59) (e := 64) Tryd.underlying3 Tryd.underlying59 (zeroSpots _) h0 h1
  obtain ⟨hl, q0, q1, q2⟩ := pbox3' HX.out.x
  have hin : ((fr id).isSome = true) ↔ id ∈ X.map (·.1) := by
    constructor
    · intro hi
      obtain ⟨v, hv⟩ := Option.isSome_iff_exists.1 hi
      obtain ⟨u, hu, -⟩ := HX.out.r1 id v hv
      exact List.mem_map.2 ⟨_, hu, rfl⟩
    · intro hi
      obtain ⟨q, hq, rfl⟩ := List.mem_map.1 hi
      obtain ⟨v, hv⟩ := HX.out.r2 q.1 q.2 hq
      rw [hv]; rfl
  clear hx hs hb0
  cases hf : fr id with
  | some v =>
    rw [hf] at hlook hin
    simp only [Option.getD_some, Option.isSome_some, true_iff] at hlook hin
    have HP := hide (show pputX X id t = (X, 1) by rw [pputX, if_pos (.inl hin)])
    obtain ⟨u, -, a2, c2, rfl, -, -⟩ := HX.out.r1 id v hf
    clear hin
    go_enter Tryd.func12, Tryd.ntmps12
    go_wp2
    go_ret
    rw [HP.out]
    exact ⟨rfl, role, ⟨_, _, _, HX.out⟩, PMoved.of_below HB.out⟩
  | none =>
    rw [hf] at hlook hin
    simp only [Option.getD_none, Option.isSome_none] at hlook
    have hnin : id ∉ X.map (·.1) := fun h => by have := hin.2 h; simp at this
    have HF := hide hf
    clear hin hf
    go_enter Tryd.func12, Tryd.ntmps12
    go_wp2_with fail
    refine (check_calls t _ _ _ _ HS.out hz).mono ?_
    rintro e w1 ⟨rfl, b1⟩
    have HX1 := hide (HX.out.below b1)
    have HS1 := hide (HS.out.below b1)
    have HB1 := hide (more_below HB.out b1)
    have HBX1 := hide ((b1.block _ (Array.getElem?_eq_some_iff.1 HBX.out).1).trans HBX.out)
    obtain ⟨hl, q0, q1, q2⟩ := pbox3' HX1.out.x
    obtain ⟨bl, z0, z1, -, -⟩ := box2 HBX1.out
    have hlen := HX1.out.len
    clear b1 HX HS HB HBX hlook
    by_cases hc0 : chk t = 0
    rotate_left
    · have hd : (chk t != 0) = true := by simp [hc0]
      have HP := hide (show pputX X id t = (X, 1) by rw [pputX, if_pos (.inr hc0)])
      clear hc0
      go_wp2
      go_ret
      rw [HP.out]
      exact ⟨rfl, role, ⟨_, _, _, HX1.out⟩, PMoved.of_below HB1.out⟩
    by_cases hfl : 4096 ≤ X.length
    · have hd : decide ((X.length : Int) ≥ 4096) = true := by simp; omega
      have HP := hide (show pputX X id t = (X, 9) by rw [pputX, if_neg (by simp [hc0]; simpa using hnin), if_pos hfl])
      clear hnin
      go_wp2
      go_ret
      rw [HP.out]
      exact ⟨rfl, role, ⟨_, _, _, HX1.out⟩, PMoved.of_below HB1.out⟩
    · have hd : decide ((X.length : Int) ≥ 4096) = false := by simp; omega
      have HP := hide (show pputX X id t = (X ++ [(id, t)], 0) by rw [pputX, if_neg (by simp [hc0]; simpa using hnin), if_neg hfl])
      obtain ⟨hg, h4⟩ := chk_ok hc0
      have HG := hide hg
      have HZ := hide h4
      clear hnin hfl hg
      go_wp2
      have HCC := hide (show ∀ W' : World, w1.heap[xb]? = W'.heap[xb]? → w1.heap[w.heap.size]? = W'.heap[w.heap.size]? → W'.cell? ⟨xb, 0, none⟩ = some (.map (some rb)) ∧ W'.cell? ⟨w.heap.size, 0, none⟩ = some (.int .i64 t.h) ∧ W'.cell? ⟨w.heap.size, 1, none⟩ = some (.slice a t.args.length c) from fun W' h1 h2 => by
        obtain ⟨-, x0, -, -⟩ := pbox3' (h1.symm.trans HX1.out.x)
        obtain ⟨-, x1, x2, -, -⟩ := box2 (h2.symm.trans HBX1.out)
        exact ⟨x0, x1, x2⟩)
      refine drawn_tree (fun W' => W'.cell? ⟨xb, 0, none⟩ = some (.map (some rb)) ∧ W'.cell? ⟨w.heap.size, 0, none⟩ = some (.int .i64 t.h) ∧ W'.cell? ⟨w.heap.size, 1, none⟩ = some (.slice a t.args.length c)) (.take 0 (.take 1 (.take 2 (.take 3 (.take 4 (.take 5 (.one 6 (.one 7 .done)))))))) (by kernel_rfl) (by kernel_rfl) (by kernel_rfl) (by kernel_rfl) (fun _ _ _ _ _ h => h) (HCC.out _ rfl rfl) ?_
      have gd := (Below.refl w1.heap.size w1).drew
      iterate 6 (refine t_take (v := ?_) rfl (by rfl) ?_ ?_; rotate_left; (intro w hS; obtain ⟨hS1, hS2, hS3⟩ := hS; go_simp; try with_reducible rfl); simp only [Act.put, List.setIfInBounds_toArray, List.set_cons_zero, List.set_cons_succ])
      refine t_one rfl (by rfl) ?_
      intro K hK
      go_simp
      refine (spots_calls t _ _ _ w1.drew HG.out (by have := HZ.out; omega) (HS1.out.below gd)).mono ?_
      rintro e w3 ⟨v, rfl, ho, b3⟩
      have HB13 := hide (more_below gd b3)
      have HX3 := hide (HX1.out.below HB13.out)
      have HB3 := hide (more_below HB1.out HB13.out)
      refine hK.out _ _ (HCC.out w3 (HB13.out.block _ hl).symm (HB13.out.block _ bl).symm) ?_
      clear hK K
      obtain ⟨W4, hup, hm, hk⟩ := HX3.out.r.store (P := Tryd.prog) (k := 3) (t := 59) (e := 64) Tryd.underlying3 Tryd.underlying59 h0 h1 v
      have hown : ∀ b, v.ownBlock = some b → ¬ (A b ∨ role b ≠ none) := fun b hb h => by
        have q1 := (ho.lt b hb).1
        have q2 := HB13.out.size
        have q4 := gd.size
        rcases h with h | h
        · have := HX1.out.la b h; omega
        · have := (HX1.out.z b h).2.1; omega
      have HV4 := hide (SpotsR.of_own (ownsRow_keep ho hk fun b hb e => hown b hb (.inr (by rw [e, HX3.out.ro.2.1]; simp))) hown)
      have HP4 := hide (HX3.out.put (id := id) (t := t) HF.out hk hm HV4.out)
      refine t_one rfl (by rfl) ?_
      intro K hK
      go_simp
      refine hK.out _ _ (HCC.out W4 ?_ ?_) ?_
      · exact ((hk.block _ (Nat.lt_of_lt_of_le hl HB13.out.size) fun e => by have h1 := HX3.out.ro.1; rw [e, HX3.out.ro.2.1] at h1; cases h1).trans (HB13.out.block _ hl)).symm
      · exact ((hk.block _ (Nat.lt_of_lt_of_le bl HB13.out.size) fun e => by omega).trans (HB13.out.block _ bl)).symm
      clear hK K
      refine t_done ?_
      obtain ⟨va, vc, hve, hvc, -⟩ := HV4.out
      subst hve
      have hlook1 := hm.look1 (P := Tryd.prog) (k := 3) (t := 59) (e := 64) Tryd.underlying3 Tryd.underlying59 (zeroSpots _) h0 h1
      simp only [if_true, Option.getD_some] at hlook1
      obtain ⟨hl4, q0, q1, q2⟩ := pbox3' HP4.out.1.x
      have HI := hide (show MarkInv w A xb rb hb ab (fun y => if y = id then some (.slice va (psT [] t).length vc) else fr y) role X id t base W4 0 from
        ⟨fh, fa, role, HP4.out.1.congr (fun s x => by simp) (fun p x => by simp), (PMoved.of_below HB3.out).trans HP4.out.2⟩)
      have hps := psT_len t []
      have hn9 : (psT [] t).length ≤ 400 := by omega
      clear hm hk hup ho b3 hown HX3 HB13 HB3 HP4 HV4 HCC gd HX1 HS1 HB1 HBX1 hlen hrl
      go_wp2
      have HOK := hide (spt_ok HG.out HZ.out)
      go_loopw [48] (fun i wr => ∃ k : Nat, k ≤ (psT [] t).length ∧ i = .int .i64 k ∧ Hid (MarkInv w A xb rb hb ab (fun y => if y = id then some (.slice va (psT [] t).length vc) else fr y) role X id t base wr k)) (fun i _ => (psT [] t).length - (intOf i).toNat)
      case atStart => exact ⟨0, by omega, rfl, HI⟩
      case round =>
        obtain ⟨k, hk, rfl, hinv⟩ := hrel
        by_cases hlt : k < (psT [] t).length
        · obtain ⟨fh5, fa5, role5, hx5, hm5⟩ := hinv.out
          obtain ⟨a2, c2, hve, -, hcl⟩ := hx5.row (id := id) (t := t) (v := .slice va (psT [] t).length vc) (by simp) (by simp)
          obtain ⟨sb, so, he, -, x0, x1, x2⟩ := hcl k hlt
          simp only [Value.slice.injEq, true_and] at hve
          obtain ⟨rfl, rfl⟩ := hve
          subst he
          have hal : Below wr.heap.size wr (wr.alloc (.cells #[.string (plB (psT [] t)[k].p), .int .i64 (psT [] t)[k].h, .int .i64 (psT [] t)[k].n] 68)) := (Below.refl _ _).alloc (Nat.le_refl _) _
          have HN6 := hide (World.alloc_heap_new wr (.cells #[.string (plB (psT [] t)[k].p), .int .i64 (psT [] t)[k].h, .int .i64 (psT [] t)[k].n] 68))
          have HX6 := hide (hx5.below hal)
          have HM6 := hide (hm5.trans (PMoved.of_below hal))
          have HEB := hide (show role5 wr.heap.size = none from by
            cases hr : role5 wr.heap.size with
            | none => rfl
            | some r => have := (hx5.z wr.heap.size (by rw [hr]; simp)).2.1; omega)
          clear hinv hx5 hm5 hcl hal
          go_wp2
          generalize wr.alloc (.cells #[.string (plB (psT [] t)[k].p), .int .i64 (psT [] t)[k].h, .int .i64 (psT [] t)[k].n] 68) = w6 at *
          have hb6 : wr.heap.size < w6.heap.size := (Array.getElem?_eq_some_iff.1 HN6.out).1
          generalize wr.heap.size = eb at *
          have HCD := hide (show ∀ W' : World, w6.heap[xb]? = W'.heap[xb]? → w6.heap[eb]? = W'.heap[eb]? → W'.cell? ⟨xb, 1, none⟩ = some (.map (some hb)) ∧ W'.cell? ⟨xb, 2, none⟩ = some (.map (some ab)) ∧ W'.cell? ⟨eb, 0, none⟩ = some (.string (plB (psT [] t)[k].p)) ∧ W'.cell? ⟨eb, 1, none⟩ = some (.int .i64 (psT [] t)[k].h) ∧ W'.cell? ⟨eb, 2, none⟩ = some (.int .i64 (psT [] t)[k].n) from fun W' h1 h2 => by
            obtain ⟨-, -, x0, x1⟩ := pbox3' (h1.symm.trans HX6.out.x)
            obtain ⟨-, x2, x3, x4⟩ := pbox3' (h2.symm.trans HN6.out)
            exact ⟨x0, x1, x2, x3, x4⟩)
          refine drawn_tree (fun W' => W'.cell? ⟨xb, 1, none⟩ = some (.map (some hb)) ∧ W'.cell? ⟨xb, 2, none⟩ = some (.map (some ab)) ∧ W'.cell? ⟨eb, 0, none⟩ = some (.string (plB (psT [] t)[k].p)) ∧ W'.cell? ⟨eb, 1, none⟩ = some (.int .i64 (psT [] t)[k].h) ∧ W'.cell? ⟨eb, 2, none⟩ = some (.int .i64 (psT [] t)[k].n)) (.take 0 (.take 1 (.take 2 (.take 3 (.take 4 (.take 5 (.one 6 .done))))))) (by kernel_rfl) (by kernel_rfl) (by kernel_rfl) (by kernel_rfl) (fun _ _ _ _ _ h => h) (HCD.out _ rfl rfl) ?_
          have gd := (Below.refl w6.heap.size w6).drew
          have HX7 := hide (HX6.out.below gd)
          have HM7 := hide (HM6.out.trans (PMoved.of_below gd))
          iterate 6 (refine t_take (v := ?_) rfl (by rfl) ?_ ?_; rotate_left; (intro w hS; obtain ⟨hS1, hS2, hS3, hS4, hS5⟩ := hS; go_simp; try with_reducible rfl); simp only [Act.put, List.setIfInBounds_toArray, List.set_cons_zero, List.set_cons_succ])
          refine t_one rfl (by rfl) ?_
          intro K hK
          go_simp
          refine (markH_calls (psT [] t)[k] id w6.drew (HOK.out _ (List.getElem_mem hlt)) h0 h1 (Nat.le_trans hbs HM7.out.1.size) HX7.out).mono ?_
          rintro e w8 ⟨rfl, fh8, role8, hx8, hm8⟩
          obtain ⟨hn8, heb8⟩ := hm8.obj HEB.out ((gd.block _ hb6).trans HN6.out)
          refine hK.out _ _ (HCD.out w8 (HX6.out.x.trans hx8.x.symm) (HN6.out.trans hn8.symm)) ?_
          clear hK K
          refine t_done ?_
          have HX8 := hide hx8
          have HM8 := hide (HM7.out.trans hm8)
          have hb8 : eb < w8.heap.size := (Array.getElem?_eq_some_iff.1 hn8).1
          clear hx8 hm8 HX7 HM7 gd x0 x1 x2
          go_wp2
          refine drawn_tree (fun W' => W'.cell? ⟨xb, 1, none⟩ = some (.map (some hb)) ∧ W'.cell? ⟨xb, 2, none⟩ = some (.map (some ab)) ∧ W'.cell? ⟨eb, 0, none⟩ = some (.string (plB (psT [] t)[k].p)) ∧ W'.cell? ⟨eb, 1, none⟩ = some (.int .i64 (psT [] t)[k].h) ∧ W'.cell? ⟨eb, 2, none⟩ = some (.int .i64 (psT [] t)[k].n)) (.take 0 (.take 1 (.take 2 (.take 3 (.take 4 (.take 5 (.take 6 (.one 7 .done)))))))) (by kernel_rfl) (by kernel_rfl) (by kernel_rfl) (by kernel_rfl) (fun _ _ _ _ _ h => h) (HCD.out _ (HX6.out.x.trans HX8.out.x.symm) (HN6.out.trans hn8.symm)) ?_
          have gd := (Below.refl w8.heap.size w8).drew
          have HX9 := hide (HX8.out.below gd)
          have HM9 := hide (HM8.out.trans (PMoved.of_below gd))
          iterate 7 (refine t_take (v := ?_) rfl (by rfl) ?_ ?_; rotate_left; (intro w hS; obtain ⟨hS1, hS2, hS3, hS4, hS5⟩ := hS; go_simp; try with_reducible rfl); simp only [Act.put, List.setIfInBounds_toArray, List.set_cons_zero, List.set_cons_succ])
          refine t_one rfl (by rfl) ?_
          intro K hK
          go_simp
          refine (markA_calls (psT [] t)[k].p id w8.drew (HOK.out _ (List.getElem_mem hlt)).p h0 h1 (Nat.le_trans hbs HM9.out.1.size) HX9.out).mono ?_
          rintro e w10 ⟨rfl, fa10, role10, hx10, hm10⟩
          obtain ⟨hn10, -⟩ := hm10.obj heb8 ((gd.block _ hb8).trans hn8)
          refine hK.out _ _ (HCD.out w10 (HX6.out.x.trans hx10.x.symm) (HN6.out.trans hn10.symm)) ?_
          clear hK K
          refine t_done ?_
          have HI2 := hide (show MarkInv w A xb rb hb ab (fun y => if y = id then some (.slice (some ⟨sb, so, none⟩) (psT [] t).length vc) else fr y) role X id t base w10 (k + 1) from by
            refine ⟨fh8, fa10, role10, hx10.congr (fun s x => ?_) fun p x => ?_, HM9.out.trans hm10⟩
            · rw [List.take_succ_eq_append_getElem hlt, List.mem_append, List.mem_singleton]
              constructor
              · rintro ((h | h) | h)
                · exact .inl h
                · exact .inr ⟨h.1, .inl h.2⟩
                · exact .inr ⟨h.2, .inr h.1⟩
              · rintro (h | ⟨h, h9 | h9⟩)
                · exact .inl (.inl h)
                · exact .inl (.inr ⟨h, h9⟩)
                · exact .inr ⟨h9, h⟩
            · rw [List.take_succ_eq_append_getElem hlt]
              simp only [List.mem_append, List.mem_singleton]
              constructor
              · rintro ((h | ⟨h, s, h1, h2⟩) | ⟨h1, h2⟩)
                · exact .inl h
                · exact .inr ⟨h, s, .inl h1, h2⟩
                · exact .inr ⟨h2, _, .inr rfl, h1.symm⟩
              · rintro (h | ⟨h, s, h1 | h1, h2⟩)
                · exact .inl (.inl h)
                · exact .inl (.inr ⟨h, s, h1, h2⟩)
                · exact .inr ⟨by rw [← h2, h1], h⟩)
          clear hx10 hm10 HX9 HM9 gd HX8 HM8 hn8 heb8 hn10 HCD HX6 HM6 HN6 HEB
          go_wp2
          go_roundw
          case rel => exact ⟨k + 1, by omega, by go_num, HI2⟩
          case measure => simp [intOf]; omega
        · obtain rfl : k = (psT [] t).length := by omega
          go_wp2
          go_ret
          rw [HP.out]
          obtain ⟨fh9, fa9, role9, hx9, hm9⟩ := hinv.out
          rw [List.take_length] at hx9
          exact ⟨rfl, role9, ⟨_, _, _, hx9.congr (fun s x => hasS_put s x) fun p x => hasP_put p x⟩, hm9⟩
end
section
open Go.RowKit

section
variable {w w' : World} {A : Nat → Prop} {xb rb hb ab : Nat} {fr : Int → Option Value} {fh fa : Value → Option Value} {role : Nat → Option PRole} {X : List (Int × Tm)} {Hs : Spt → Int → Prop} {As : List Nat → Int → Prop} {base : Nat}
theorem PxAt.delS (h : PxAt w A xb rb hb ab fr fh fa role X Hs As base) {s : Spt} {ib : Nat} (hs : fh s.key = some (.map (some ib))) {id : Int} (hk : Keep (fun b => b ≠ ib) w w') (hm : MapAt w' ib (fun y => if y = id then none else setF (Hs s) y)) :
    PxAt w' A xb rb hb ab fr fh fa role X (fun s' x => Hs s' x ∧ ¬(s' = s ∧ x = id)) As base ∧ PMoved role role w w' := by
  obtain ⟨s', ib', e1, e2, e3, e4⟩ := h.h1 _ _ hs
  obtain rfl := key_inj e1
  simp only [Value.map.injEq, Option.some.injEq] at e2
  subst e2
  have hne : ∀ b r, role b = some r → r ≠ .hin s → b ≠ ib := fun b r hb hr e => by subst e; rw [e3] at hb; exact hr (Option.some.inj hb).symm
  refine ⟨{ h with
    x := hk.obj (hne _ _ h.ro.1 (by simp)) h.x
    r := h.r.keep hk (hne _ _ h.ro.2.1 (by simp))
    h := h.h.keep hk (hne _ _ h.ro.2.2.1 (by simp))
    a := h.a.keep hk (hne _ _ h.ro.2.2.2 (by simp))
    r1 := fun id v hv => by
      obtain ⟨u, q1, q2⟩ := h.r1 id v hv
      exact ⟨u, q1, q2.frame (fun b hb hlt => hk.block b hlt fun e => hb (.inr (by rw [e, e3]; simp))) fun _ _ h => h⟩
    h1 := fun k v hv => by
      obtain ⟨s', ib', q1, q2, q3, q4⟩ := h.h1 k v hv
      by_cases hss : s' = s
      · subst hss
        subst q1
        rw [hs] at hv
        simp only [Option.some.injEq] at hv
        subst hv
        simp only [Value.map.injEq, Option.some.injEq] at q2
        subst q2
        rw [setF_del] at hm
        exact ⟨s', ib, rfl, rfl, q3, by rw [setF_congr (T := fun x => x ≠ id ∧ Hs s' x) (fun x => by simp [and_comm])]; exact hm⟩
      · exact ⟨s', ib', q1, q2, q3, by rw [setF_congr (T := Hs s') (fun x => by simp [hss])]; exact q4.keep hk (hne _ _ q3 (by simpa using hss))⟩
    h2 := fun s' hn x hx => h.h2 s' hn x hx.1
    a1 := fun k v hv => by
      obtain ⟨p, ib', q1, q2, q3, q4⟩ := h.a1 k v hv
      exact ⟨p, ib', q1, q2, q3, q4.keep hk (hne _ _ q3 (by simp))⟩
    z := fun b hb => by have q := h.z b hb; have := hk.size; exact ⟨q.1, by omega, q.2.2⟩
    la := fun b hb => Nat.lt_of_lt_of_le (h.la b hb) hk.size }, hk.mono (fun b _ hb e => by rw [e, e3] at hb; cases hb), fun b hb => .inl hb⟩
theorem PxAt.delA (h : PxAt w A xb rb hb ab fr fh fa role X Hs As base) {s : List Nat} {ib : Nat} (hs : fa (placeS s) = some (.map (some ib))) {id : Int} (hk : Keep (fun b => b ≠ ib) w w') (hm : MapAt w' ib (fun y => if y = id then none else setF (As s) y)) :
    PxAt w' A xb rb hb ab fr fh fa role X Hs (fun s' x => As s' x ∧ ¬(s' = s ∧ x = id)) base ∧ PMoved role role w w' := by
  obtain ⟨s', ib', e1, e2, e3, e4⟩ := h.a1 _ _ hs
  obtain rfl := placeS_inj e1
  simp only [Value.map.injEq, Option.some.injEq] at e2
  subst e2
  have hne : ∀ b r, role b = some r → r ≠ .ain s → b ≠ ib := fun b r hb hr e => by subst e; rw [e3] at hb; exact hr (Option.some.inj hb).symm
  refine ⟨{ h with
    x := hk.obj (hne _ _ h.ro.1 (by simp)) h.x
    r := h.r.keep hk (hne _ _ h.ro.2.1 (by simp))
    a := h.a.keep hk (hne _ _ h.ro.2.2.2 (by simp))
    h := h.h.keep hk (hne _ _ h.ro.2.2.1 (by simp))
    r1 := fun id v hv => by
      obtain ⟨u, q1, q2⟩ := h.r1 id v hv
      exact ⟨u, q1, q2.frame (fun b hb hlt => hk.block b hlt fun e => hb (.inr (by rw [e, e3]; simp))) fun _ _ h => h⟩
    a1 := fun k v hv => by
      obtain ⟨s', ib', q1, q2, q3, q4⟩ := h.a1 k v hv
      by_cases hss : s' = s
      · subst hss
        subst q1
        rw [hs] at hv
        simp only [Option.some.injEq] at hv
        subst hv
        simp only [Value.map.injEq, Option.some.injEq] at q2
        subst q2
        rw [setF_del] at hm
        exact ⟨s', ib, rfl, rfl, q3, by rw [setF_congr (T := fun x => x ≠ id ∧ As s' x) (fun x => by simp [and_comm])]; exact hm⟩
      · exact ⟨s', ib', q1, q2, q3, by rw [setF_congr (T := As s') (fun x => by simp [hss])]; exact q4.keep hk (hne _ _ q3 (by simpa using hss))⟩
    a2 := fun s' hn x hx => h.a2 s' hn x hx.1
    h1 := fun k v hv => by
      obtain ⟨p, ib', q1, q2, q3, q4⟩ := h.h1 k v hv
      exact ⟨p, ib', q1, q2, q3, q4.keep hk (hne _ _ q3 (by simp))⟩
    z := fun b hb => by have q := h.z b hb; have := hk.size; exact ⟨q.1, by omega, q.2.2⟩
    la := fun b hb => Nat.lt_of_lt_of_le (h.la b hb) hk.size }, hk.mono (fun b _ hb e => by rw [e, e3] at hb; cases hb), fun b hb => .inl hb⟩
def cutX (X : List (Int × Tm)) (id : Int) : List (Int × Tm) := X.filter fun q => decide (q.1 ≠ id)
theorem mem_cutX {X : List (Int × Tm)} {id : Int} {q : Int × Tm} : q ∈ cutX X id ↔ q ∈ X ∧ q.1 ≠ id := by simp [cutX]
theorem PxAt.cut (h : PxAt w A xb rb hb ab fr fh fa role X Hs As base) {id : Int} (hk : Keep (fun b => b ≠ rb) w w') (hm : MapAt w' rb (fun y => if y = id then none else fr y)) :
    PxAt w' A xb rb hb ab (fun y => if y = id then none else fr y) fh fa role (cutX X id) Hs As base ∧ PMoved role role w w' := by
  have hne : ∀ b r, role b = some r → r ≠ .rows → b ≠ rb := fun b r hb hr e => by subst e; rw [h.ro.2.1] at hb; exact hr (Option.some.inj hb).symm
  refine ⟨{ h with
    x := hk.obj (hne _ _ h.ro.1 (by simp)) h.x
    r := hm
    h := h.h.keep hk (hne _ _ h.ro.2.2.1 (by simp))
    a := h.a.keep hk (hne _ _ h.ro.2.2.2 (by simp))
    r1 := fun y u hu => by
      by_cases e : y = id
      · simp [e] at hu
      · rw [if_neg e] at hu
        obtain ⟨q, q1, q2⟩ := h.r1 y u hu
        exact ⟨q, mem_cutX.2 ⟨q1, e⟩, q2.frame (fun b hb hlt => hk.block b hlt fun e => hb (.inr (by rw [e, h.ro.2.1]; simp))) fun _ _ h => h⟩
    r2 := fun y u hu => by
      obtain ⟨h8, h9⟩ := mem_cutX.1 hu
      obtain ⟨v', hv'⟩ := h.r2 y u h8
      exact ⟨v', by rw [if_neg h9]; exact hv'⟩
    nd := List.Pairwise.sublist (List.Sublist.map _ List.filter_sublist) h.nd
    h1 := fun k v hv => by
      obtain ⟨s, ib, q1, q2, q3, q4⟩ := h.h1 k v hv
      exact ⟨s, ib, q1, q2, q3, q4.keep hk (hne _ _ q3 (by simp))⟩
    a1 := fun k v hv => by
      obtain ⟨s, ib, q1, q2, q3, q4⟩ := h.a1 k v hv
      exact ⟨s, ib, q1, q2, q3, q4.keep hk (hne _ _ q3 (by simp))⟩
    z := fun b hb => by have q := h.z b hb; have := hk.size; exact ⟨q.1, by omega, q.2.2⟩
    la := fun b hb => Nat.lt_of_lt_of_le (h.la b hb) hk.size }, hk.mono (fun b _ hb e => by rw [e, h.ro.2.1] at hb; cases hb), fun b hb => .inl hb⟩
end
def pdropX (X : List (Int × Tm)) (id : Int) : List (Int × Tm) × Int := if id ∈ X.map (·.1) then (cutX X id, 0) else (X, 6)
def DropInv (w : World) (A : Nat → Prop) (xb rb hb ab : Nat) (fr : Int → Option Value) (role : Nat → Option PRole) (X : List (Int × Tm)) (id : Int) (t : Tm) (base : Nat) (fh fa : Value → Option Value) (wr : World) (k : Nat) : Prop :=
  PxAt wr A xb rb hb ab fr fh fa role X (fun s x => hasS X s x ∧ ¬(x = id ∧ s ∈ (psT [] t).take k)) (fun p x => hasP X p x ∧ ¬(x = id ∧ ∃ s ∈ (psT [] t).take k, s.p = p)) base ∧ PMoved role role w wr
theorem nodup_take {α β : Type} {f : α → β} {l : List α} (h : (l.map f).Nodup) {k : Nat} (hk : k < l.length) : ∀ s ∈ l.take k, f s ≠ f l[k] := by
  intro s hs e
  obtain ⟨j, hj, rfl⟩ := List.getElem_of_mem hs
  simp only [List.length_take] at hj
  rw [List.getElem_take] at e
  have h2 := List.pairwise_iff_getElem.1 h j k (by simp; omega) (by simpa using hk) (by omega)
  exact h2 (by simpa using e)
theorem hasS_cut {X : List (Int × Tm)} {id : Int} {t : Tm} (hn : (X.map (·.1)).Nodup) (hm : (id, t) ∈ X) (s : Spt) (x : Int) : (hasS X s x ∧ ¬(x = id ∧ s ∈ psT [] t)) ↔ hasS (cutX X id) s x := by
  constructor
  · rintro ⟨⟨u, h1, h2⟩, h3⟩
    refine ⟨u, mem_cutX.2 ⟨h1, fun e => h3 ⟨e, ?_⟩⟩, h2⟩
    simp only at e
    subst e
    rw [← fst_inj hn h1 hm]; exact h2
  · rintro ⟨u, h1, h2⟩
    obtain ⟨h3, h4⟩ := mem_cutX.1 h1
    exact ⟨⟨u, h3, h2⟩, fun h => h4 h.1⟩
theorem hasP_cut {X : List (Int × Tm)} {id : Int} {t : Tm} (hn : (X.map (·.1)).Nodup) (hm : (id, t) ∈ X) (p : List Nat) (x : Int) : (hasP X p x ∧ ¬(x = id ∧ ∃ s ∈ psT [] t, s.p = p)) ↔ hasP (cutX X id) p x := by
  constructor
  · rintro ⟨⟨u, h1, h2⟩, h3⟩
    refine ⟨u, mem_cutX.2 ⟨h1, fun e => h3 ⟨e, ?_⟩⟩, h2⟩
    simp only at e
    subst e
    rw [← fst_inj hn h1 hm]; exact h2
  · rintro ⟨u, h1, h2⟩
    obtain ⟨h3, h4⟩ := mem_cutX.1 h1
    exact ⟨⟨u, h3, h2⟩, fun h => h4 h.1⟩
end
open Go.RowKit

set_option maxHeartbeats 1000000 in
set_option maxRecDepth 100000 in
theorem pdrop_nil (id : Int) (w : World) : Calls Tryd.prog 23 #[.pointer none, .int .i64 id] w fun e w' => e = .returned (.int .i64 3) ∧ w = w' := by
  go_enter Tryd.func23, Tryd.ntmps23
  go_wp2
  go_ret
  exact ⟨rfl, rfl⟩
set_option maxHeartbeats 1000000 in
set_option maxRecDepth 100000 in
theorem pput_nil (id h : Int) (s : Value) (w : World) (hs : ∃ a n c, s = .slice a n c) : Calls Tryd.prog 12 #[.pointer none, .int .i64 id, .agg #[.int .i64 h, s]] w fun e w' => e = .returned (.int .i64 3) ∧ Below w.heap.size w w' := by
  obtain ⟨a, n, c, rfl⟩ := hs
  have HB := hide (show Below w.heap.size w (w.alloc (.cells #[.int .i64 h, .slice a n c] 24)) from (Below.refl _ _).alloc (Nat.le_refl _) _)
  go_enter Tryd.func12, Tryd.ntmps12
  go_wp2
  go_ret
  exact ⟨rfl, HB.out⟩
set_option maxHeartbeats 8000000 in
set_option maxRecDepth 100000 in
theorem pdrop_calls {A : Nat → Prop} {xb rb hb ab : Nat} {X : List (Int × Tm)} {role : Nat → Option PRole} {base : Nat} (id : Int) (w : World) (h0 : -9223372036854775808 ≤ id) (h1 : id ≤ 9223372036854775807) (hbs : base ≤ w.heap.size) (hX : ∀ q ∈ X, chk q.2 = 0)
    (hx : PxOk w A xb rb hb ab X role base) :
    Calls Tryd.prog 23 #[.pointer (some ⟨xb, 0, none⟩), .int .i64 id] w fun e w' => e = .returned (.int .i64 (pdropX X id).2) ∧ PxOk w' A xb rb hb ab (pdropX X id).1 role base ∧ PMoved role role w w' := by
  obtain ⟨fr, fh, fa, hx⟩ := hx
  have HX := hide hx
  have hlook := hx.r.look (P := Tryd.prog) (k := 3) (t := 59) (e := 64) Tryd.underlying3 Tryd.underlying59 (zeroSpots _) h0 h1
  obtain ⟨hl, q0, q1, q2⟩ := pbox3' hx.x
  clear hx
  cases hf : fr id with
  | none =>
    rw [hf] at hlook
    simp only [Option.getD_none, Option.isSome_none] at hlook
    have HP := hide (show pdropX X id = (X, 6) by
      rw [pdropX, if_neg]
      intro hi
      obtain ⟨q, hq, rfl⟩ := List.mem_map.1 hi
      obtain ⟨v, hv⟩ := HX.out.r2 q.1 q.2 hq
      rw [hf] at hv; cases hv)
    clear hf hX
    go_enter Tryd.func23, Tryd.ntmps23
    go_wp2
    go_ret
    rw [HP.out]
    exact ⟨rfl, ⟨_, _, _, HX.out⟩, PMoved.of_below (Below.refl _ _)⟩
  | some v =>
    rw [hf] at hlook
    simp only [Option.getD_some, Option.isSome_some] at hlook
    obtain ⟨t, ht, hst⟩ := HX.out.r1 id v hf
    have HF := hide hf
    have HT := hide ht
    have HP := hide (show pdropX X id = (cutX X id, 0) by rw [pdropX, if_pos (List.mem_map.2 ⟨_, ht, rfl⟩)])
    obtain ⟨hg, hz⟩ := chk_ok (t := t) (hX _ ht)
    have HOK := hide (spt_ok hg hz)
    have HND := hide (nodup_psT t [])
    have hps := psT_len t []
    have hn9 : (psT [] t).length ≤ 400 := by omega
    obtain ⟨va, vc, rfl, hvc, -⟩ := hst
    have HI := hide (show DropInv w A xb rb hb ab fr role X id t base fh fa w 0 from ⟨HX.out.congr (fun s x => by simp) (fun p x => by simp), PMoved.of_below (Below.refl _ _)⟩)
    clear hf hX ht hg hz hps
    go_enter Tryd.func23, Tryd.ntmps23
    go_wp2
    go_loopw [24] (fun i wr => ∃ k : Nat, k ≤ (psT [] t).length ∧ i = .int .i64 k ∧ Hid (DropInv w A xb rb hb ab fr role X id t base fh fa wr k)) (fun i _ => (psT [] t).length - (intOf i).toNat)
    case atStart => exact ⟨0, by omega, rfl, HI⟩
    case round =>
      obtain ⟨k, hk, rfl, hinv⟩ := hrel
      by_cases hlt : k < (psT [] t).length
      · obtain ⟨hx5, hm5⟩ := hinv.out
        obtain ⟨a2, c2, hve, -, hcl⟩ := hx5.row (id := id) (t := t) HT.out HF.out
        obtain ⟨sb, so, he, -, x0, x1, x2⟩ := hcl k hlt
        simp only [Value.slice.injEq, true_and] at hve
        obtain ⟨rfl, rfl⟩ := hve
        subst he
        have hal : Below wr.heap.size wr (wr.alloc (.cells #[.string (plB (psT [] t)[k].p), .int .i64 (psT [] t)[k].h, .int .i64 (psT [] t)[k].n] 68)) := (Below.refl _ _).alloc (Nat.le_refl _) _
        have HN6 := hide (World.alloc_heap_new wr (.cells #[.string (plB (psT [] t)[k].p), .int .i64 (psT [] t)[k].h, .int .i64 (psT [] t)[k].n] 68))
        have HX6 := hide (hx5.below hal)
        have HM6 := hide (hm5.trans (PMoved.of_below hal))
        have HEB := hide (show role wr.heap.size = none from by
          cases hr : role wr.heap.size with
          | none => rfl
          | some r => have := (hx5.z wr.heap.size (by rw [hr]; simp)).2.1; omega)
        clear hinv hx5 hm5 hcl hal
        go_wp2
        generalize wr.alloc (.cells #[.string (plB (psT [] t)[k].p), .int .i64 (psT [] t)[k].h, .int .i64 (psT [] t)[k].n] 68) = w6 at *
        have hb6 : wr.heap.size < w6.heap.size := (Array.getElem?_eq_some_iff.1 HN6.out).1
        generalize wr.heap.size = eb at *
        have hsok := HOK.out _ (List.getElem_mem hlt)
        obtain ⟨kl, hkey⟩ := spot_key hsok
        -- the spot's set
        obtain ⟨v5, hv5⟩ : ∃ v, fh (psT [] t)[k].key = some v := by
          cases hq : fh (psT [] t)[k].key with
          | some v => exact ⟨v, rfl⟩
          | none =>
            refine absurd ⟨⟨t, HT.out, List.getElem_mem hlt⟩, fun h => ?_⟩ (HX6.out.h2 _ hq id)
            exact nodup_take HND.out hlt _ h.2 rfl
        obtain ⟨p5, hp5⟩ : ∃ v, fa (placeS (psT [] t)[k].p) = some v := by
          cases hq : fa (placeS (psT [] t)[k].p) with
          | some v => exact ⟨v, rfl⟩
          | none =>
            refine absurd ⟨⟨t, HT.out, _, List.getElem_mem hlt, rfl⟩, ?_⟩ (HX6.out.a2 _ hq id)
            rintro ⟨-, s, h1, h2⟩
            exact nodup_take HND.out hlt _ h1 h2
        obtain ⟨s', ib, e1, rfl, e3, e4⟩ := HX6.out.h1 _ _ hv5
        obtain rfl := key_inj e1
        obtain ⟨p', jb, e5, rfl, e7, e8⟩ := HX6.out.a1 _ _ hp5
        obtain rfl := placeS_inj e5
        have HCD := hide (show ∀ (W' : World) Hs As, PxAt W' A xb rb hb ab fr fh fa role X Hs As base → w6.heap[eb]? = W'.heap[eb]? → W'.cell? ⟨xb, 1, none⟩ = some (.map (some hb)) ∧ W'.cell? ⟨xb, 2, none⟩ = some (.map (some ab)) ∧ W'.cell? ⟨eb, 0, none⟩ = some (.string (plB (psT [] t)[k].p)) ∧ W'.cell? ⟨eb, 1, none⟩ = some (.int .i64 (psT [] t)[k].h) ∧ W'.cell? ⟨eb, 2, none⟩ = some (.int .i64 (psT [] t)[k].n) ∧ (Instr.lookup 60 (.map (some hb)) (.agg #[.string (plB (psT [] t)[k].p), .int .i64 (psT [] t)[k].h, .int .i64 (psT [] t)[k].n]) false).run Tryd.prog W' = .ok (.map (some ib)) W' ∧ (Instr.lookup 61 (.map (some ab)) (.string (plB (psT [] t)[k].p)) false).run Tryd.prog W' = .ok (.map (some jb)) W' from fun W' Hs As hx2 h2 => by
          obtain ⟨-, -, x0, x1⟩ := pbox3' hx2.x
          obtain ⟨-, x2, x3, x4⟩ := pbox3' (h2.symm.trans HN6.out)
          have l1 := hx2.h.look spotKeyed Tryd.underlying60 (zeroSet _) hkey false
          have l2 := hx2.a.look (Maps.string_keyed Tryd.underlying9) Tryd.underlying61 (zeroSet _) (place_key hsok.p) false
          rw [hv5] at l1
          rw [hp5] at l2
          exact ⟨x0, x1, x2, x3, x4, l1, l2⟩)
        refine drawn_tree (fun W' => W'.cell? ⟨xb, 1, none⟩ = some (.map (some hb)) ∧ W'.cell? ⟨xb, 2, none⟩ = some (.map (some ab)) ∧ W'.cell? ⟨eb, 0, none⟩ = some (.string (plB (psT [] t)[k].p)) ∧ W'.cell? ⟨eb, 1, none⟩ = some (.int .i64 (psT [] t)[k].h) ∧ W'.cell? ⟨eb, 2, none⟩ = some (.int .i64 (psT [] t)[k].n) ∧ (Instr.lookup 60 (.map (some hb)) (.agg #[.string (plB (psT [] t)[k].p), .int .i64 (psT [] t)[k].h, .int .i64 (psT [] t)[k].n]) false).run Tryd.prog W' = .ok (.map (some ib)) W' ∧ (Instr.lookup 61 (.map (some ab)) (.string (plB (psT [] t)[k].p)) false).run Tryd.prog W' = .ok (.map (some jb)) W') (.take 0 (.take 1 (.take 2 (.take 3 (.take 4 (.take 5 (.take 6 (.one 7 .done)))))))) (by kernel_rfl) (by kernel_rfl) (by kernel_rfl) (by kernel_rfl) (fun _ _ _ _ _ h => h) (HCD.out _ _ _ (HX6.out.below (Below.refl w6.heap.size w6).drew) rfl) ?_
        have gd := (Below.refl w6.heap.size w6).drew
        have HX7 := hide (HX6.out.below gd)
        have HM7 := hide (HM6.out.trans (PMoved.of_below gd))
        iterate 7 (refine t_take (v := ?_) rfl (by rfl) ?_ ?_; rotate_left; (intro w hS; obtain ⟨hS1, hS2, hS3, hS4, hS5, hS6, hS7⟩ := hS; go_simp; try with_reducible rfl); simp only [Act.put, List.setIfInBounds_toArray, List.set_cons_zero, List.set_cons_succ])
        obtain ⟨W8, hdel, hm8, hk8⟩ := (e4.below gd).delete (P := Tryd.prog) (k := 3) (e := 4) (t := 78) (ty := 0) Tryd.underlying3 Tryd.underlying78 h0 h1
        refine t_one rfl (by rfl) ?_
        intro K hK
        go_simp
        have HX8 := hide (HX7.out.delS (s := (psT [] t)[k]) hv5 (id := id) hk8 hm8)
        have hn8 : W8.heap[eb]? = w6.heap[eb]? := (hk8.block eb hb6 fun e => by have := HEB.out; rw [e, e3] at this; cases this).trans rfl
        refine hK.out _ _ (HCD.out _ _ _ HX8.out.1 hn8.symm) ?_
        clear hK K
        refine t_done ?_
        have HM8 := hide (HM7.out.trans HX8.out.2)
        clear hdel hm8 hk8 HX7 HM7 e4 x0 x1 x2
        go_wp2
        refine drawn_tree (fun W' => W'.cell? ⟨xb, 1, none⟩ = some (.map (some hb)) ∧ W'.cell? ⟨xb, 2, none⟩ = some (.map (some ab)) ∧ W'.cell? ⟨eb, 0, none⟩ = some (.string (plB (psT [] t)[k].p)) ∧ W'.cell? ⟨eb, 1, none⟩ = some (.int .i64 (psT [] t)[k].h) ∧ W'.cell? ⟨eb, 2, none⟩ = some (.int .i64 (psT [] t)[k].n) ∧ (Instr.lookup 60 (.map (some hb)) (.agg #[.string (plB (psT [] t)[k].p), .int .i64 (psT [] t)[k].h, .int .i64 (psT [] t)[k].n]) false).run Tryd.prog W' = .ok (.map (some ib)) W' ∧ (Instr.lookup 61 (.map (some ab)) (.string (plB (psT [] t)[k].p)) false).run Tryd.prog W' = .ok (.map (some jb)) W') (.take 0 (.take 1 (.take 2 (.take 3 (.take 4 (.take 5 (.take 6 (.take 7 (.one 8 .done))))))))) (by kernel_rfl) (by kernel_rfl) (by kernel_rfl) (by kernel_rfl) (fun _ _ _ _ _ h => h) (HCD.out _ _ _ (HX8.out.1.below (Below.refl W8.heap.size W8).drew) hn8.symm) ?_
        have gd8 := (Below.refl W8.heap.size W8).drew
        have HX9 := hide (HX8.out.1.below gd8)
        have HM9 := hide (HM8.out.trans (PMoved.of_below gd8))
        iterate 8 (refine t_take (v := ?_) rfl (by rfl) ?_ ?_; rotate_left; (intro w hS; obtain ⟨hS1, hS2, hS3, hS4, hS5, hS6, hS7⟩ := hS; go_simp; try with_reducible rfl); simp only [Act.put, List.setIfInBounds_toArray, List.set_cons_zero, List.set_cons_succ])
        obtain ⟨p9, jb9, e9, e10, -, e12⟩ := HX9.out.a1 _ _ hp5
        obtain rfl := placeS_inj e9
        simp only [Value.map.injEq, Option.some.injEq] at e10
        subst e10
        obtain ⟨W10, hdel, hm10, hk10⟩ := e12.delete (P := Tryd.prog) (k := 3) (e := 4) (t := 78) (ty := 0) Tryd.underlying3 Tryd.underlying78 h0 h1
        refine t_one rfl (by rfl) ?_
        intro K hK
        go_simp
        have HX10 := hide (HX9.out.delA (s := (psT [] t)[k].p) hp5 (id := id) hk10 hm10)
        have hn10 : W10.heap[eb]? = w6.heap[eb]? := (hk10.block eb (by have := hb6; have := HX8.out.2.1.size; have := gd.size; have := gd8.size; omega) fun e => by have := HEB.out; rw [e, e7] at this; cases this).trans hn8
        refine hK.out _ _ (HCD.out _ _ _ HX10.out.1 hn10.symm) ?_
        clear hK K
        refine t_done ?_
        have HI2 := hide (show DropInv w A xb rb hb ab fr role X id t base fh fa W10 (k + 1) from by
          refine ⟨HX10.out.1.congr (fun s x => ?_) fun p x => ?_, HM9.out.trans HX10.out.2⟩
          · rw [List.take_succ_eq_append_getElem hlt, List.mem_append, List.mem_singleton]
            constructor
            · rintro ⟨⟨h1, h2⟩, h3⟩
              refine ⟨h1, ?_⟩
              rintro ⟨h4, h5 | h5⟩
              · exact h2 ⟨h4, h5⟩
              · exact h3 ⟨h5, h4⟩
            · rintro ⟨h1, h2⟩
              exact ⟨⟨h1, fun h => h2 ⟨h.1, .inl h.2⟩⟩, fun h => h2 ⟨h.2, .inr h.1⟩⟩
          · rw [List.take_succ_eq_append_getElem hlt]
            simp only [List.mem_append, List.mem_singleton]
            constructor
            · rintro ⟨⟨h1, h2⟩, h3⟩
              refine ⟨h1, ?_⟩
              rintro ⟨h4, s, h5 | h5, h6⟩
              · exact h2 ⟨h4, s, h5, h6⟩
              · exact h3 ⟨by rw [← h6, h5], h4⟩
            · rintro ⟨h1, h2⟩
              exact ⟨⟨h1, fun ⟨h4, s, h5, h6⟩ => h2 ⟨h4, s, .inl h5, h6⟩⟩, fun h => h2 ⟨h.2, _, .inr rfl, h.1.symm⟩⟩)
        clear hdel hm10 hk10 HX10 HX9 HM9 HX8 HM8 hn8 hn10 gd gd8 HCD HX6 HM6 HN6 HEB e12 e8 hv5 hp5
        go_wp2
        go_roundw
        case rel => exact ⟨k + 1, by omega, by go_num, HI2⟩
        case measure => simp [intOf]; omega
      · obtain rfl : k = (psT [] t).length := by omega
        obtain ⟨hx9, hm9⟩ := hinv.out
        obtain ⟨hl9, q0, q1, q2⟩ := pbox3' hx9.x
        obtain ⟨W10, hdel, hm10, hk10⟩ := hx9.r.delete (P := Tryd.prog) (k := 3) (e := 64) (t := 59) (ty := 0) Tryd.underlying3 Tryd.underlying59 h0 h1
        rw [List.take_length] at hx9
        have HX10 := hide ((hx9.congr (fun s x => hasS_cut hx9.nd HT.out s x) fun p x => hasP_cut hx9.nd HT.out p x).cut hk10 hm10)
        have HM9 := hide hm9
        clear hinv hx9 hm9 hm10 hk10
        go_wp2
        go_ret
        rw [HP.out]
        exact ⟨rfl, ⟨_, _, _, HX10.out.1⟩, HM9.out.trans HX10.out.2⟩
end Go.Proofs.YtneecjikdghchaaDoor
