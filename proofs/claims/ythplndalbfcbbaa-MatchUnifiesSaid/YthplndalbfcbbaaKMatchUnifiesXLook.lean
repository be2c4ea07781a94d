/- What the proof of the law rests on: contracts of the functions, plain laws, and words. -/
import Derived.Test.YthplndalbfcbbaaKMatchUnifiesXKnown
set_option linter.unusedSimpArgs false
set_option linter.unusedVariables false
namespace Go.Proofs.Ythplndalbfcbbaa
open Go.RowKit
theorem look_run_pl {P : Program} {W : World} {ops : Array Oper} {rest : List Oper} {o : Oper} {a : Act} {Q : Exit → Act → World → Prop} (hg : o.guard = none) (m x : Operand) (t : TypeId) (hop : o.op = .lookup t m x true) {mv xv v : Value} (hm : a.eval m = mv) (hx : a.eval x = xv)
    (hrun : (Instr.lookup t mv xv true).run P W = .ok v W) (hK : wpList P ops Q rest (a.put o.dst v) W) : wpList P ops Q (o :: rest) a W := by
  refine wpList_plain hg fun K' hK' => ?_
  unfold Oper.wp
  simp [execOp, hop, hm, hx, hrun, Result.andThen]
  exact hK' _ _ hK
def occB (v : Int) (t : Tm) : Bool := hasB v (varsT t)
theorem occB_iff {v : Int} {t : Tm} : occB v t = true ↔ occ v t := by rw [occB, hasB_iff, occ_iff]
theorem occB_var {v u : Int} (hu : 0 ≤ u) : occB v (varT u) = decide (v = u) := by
  rw [Bool.eq_iff_iff, occB_iff, occ_var hu, decide_eq_true_iff]
theorem occB_args {v : Int} {S : Sub} {t : Tm} (h : ¬ t.h < 0) : occB v (app S t) = t.args.any fun c => occB v (app S c) := by
  rw [Bool.eq_iff_iff, occB_iff, app_pos h, occ_args (by simpa [Tm.h] using h), List.any_eq_true]
  simp only [Tm.args, appL_map, List.mem_map]
  constructor
  · rintro ⟨c, ⟨d, hd, rfl⟩, hc⟩; exact ⟨d, hd, occB_iff.2 hc⟩
  · rintro ⟨d, hd, hc⟩; exact ⟨_, ⟨d, hd, rfl⟩, occB_iff.1 hc⟩
theorem any_drop {α : Type} (p : α → Bool) (l : List α) (k : Nat) (h : k < l.length) : (l.drop k).any p = (p l[k] || (l.drop (k + 1)).any p) := by
  rw [List.drop_eq_getElem_cons h, List.any_cons]
structure HCtx (A : Nat → Prop) (sb ss : Nat) (f : Env) (S : Sub) (v : Int) (vb sbx lb kb : Nat) (w : World) (F : Int → Option Value) : Prop where
  bv : Boxed kb w vb (.cells #[.int .i64 v] 3 (0, 0))
  bs : Boxed kb w sbx (.cells #[.pointer (some ⟨ss, 0, none⟩)] 129 (0, 0))
  bl : Boxed kb w lb (.cells #[.func (.func 201) #[] #[.pointer (some ⟨vb, 0, none⟩), .pointer (some ⟨sbx, 0, none⟩), .pointer (some ⟨kb, 0, none⟩), .pointer (some ⟨lb, 0, none⟩)]] 27 (0, 0))
  sol : SolAt A w sb ss f
  kn : KnAt 236 w kb ss F
  lt : ss < kb
  ok : ∀ x u, F x = some u → u = .bool (occB v (S x))
section
variable {A : Nat → Prop} {sb ss : Nat} {f : Env} {S : Sub} {v : Int} {vb sbx lb kb : Nat}
theorem HCtx.step {w w' : World} {F F' : Int → Option Value} (h : HCtx A sb ss f S v vb sbx lb kb w F) (k : KStep kb w w') (hk : KnAt 236 w' kb ss F') (ho : ∀ x u, F' x = some u → u = .bool (occB v (S x))) : HCtx A sb ss f S v vb sbx lb kb w' F' :=
  ⟨h.bv.step k, h.bs.step k, h.bl.step k, h.sol.keep (k.low h.kn h.lt) (fun _ hb => hb), hk, h.lt, ho⟩
theorem HCtx.below {w w' : World} {F : Int → Option Value} (h : HCtx A sb ss f S v vb sbx lb kb w F) (hB : Below w.heap.size w w') : HCtx A sb ss f S v vb sbx lb kb w' F :=
  h.step (.of_below hB h.kn.lt) (h.kn.below hB) h.ok
theorem HCtx.old {w w' : World} {F : Int → Option Value} (h : HCtx A sb ss f S v vb sbx lb kb w F) (k : KStep kb w w') {x : Int} {s : Value} {t : Tm} (ht : IsTm (OldA sb A) w x s t) : IsTm (OldA sb A) w' x s t :=
  ht.keep9 (k.low h.kn h.lt) fun b _ hb => by have := h.sol.lt; simp only [OldA, not_or] at hb; omega
theorem HCtx.olds {w w' : World} {F : Int → Option Value} (h : HCtx A sb ss f S v vb sbx lb kb w F) (k : KStep kb w w') {s : Value} {l : List Tm} (ht : Terms (OldA sb A) w s l) : Terms (OldA sb A) w' s l :=
  Terms.keep ht (k.low h.kn h.lt) fun b _ hb => by have := h.sol.lt; simp only [OldA, not_or] at hb; omega
end
def LookPost (A : Nat → Prop) (sb ss : Nat) (f : Env) (S : Sub) (v : Int) (vb sbx lb kb : Nat) (r : Bool) (w : World) (e : Ending) (w' : World) : Prop :=
  e = .returned (.bool r) ∧ ∃ F', HCtx A sb ss f S v vb sbx lb kb w' F' ∧ KStep kb w w'
def LookC (A : Nat → Prop) (sb ss : Nat) (f : Env) (S : Sub) (v : Int) (vb sbx lb kb : Nat) (t : Tm) : Prop :=
  ∀ (w : World) (F : Int → Option Value) (h : Int) (s : Value), HCtx A sb ss f S v vb sbx lb kb w F → IsTm (OldA sb A) w h s t →
    Calls Try.prog 201 #[.agg #[.int .i64 h, s], .pointer (some ⟨vb, 0, none⟩), .pointer (some ⟨sbx, 0, none⟩), .pointer (some ⟨kb, 0, none⟩), .pointer (some ⟨lb, 0, none⟩)] w fun e w' => LookPost A sb ss f S v vb sbx lb kb (occB v (app S t)) w e w'
set_option maxHeartbeats 2000000 in
set_option maxRecDepth 100000 in
theorem lookindex_calls (A : Nat → Prop) (sb ss : Nat) (f : Env) (S : Sub) (v : Int) (vb sbx lb kb : Nat) (ts : List Tm) (F : Int → Option Value) (s : Value) (w : World) (hc : HCtx A sb ss f S v vb sbx lb kb w F) (hs : Terms (OldA sb A) w s ts)
    (hL : ∀ t, t ∈ ts → LookC A sb ss f S v vb sbx lb kb t) :
    Calls Try.prog 151 #[s, .func (.func 201) #[] #[.pointer (some ⟨vb, 0, none⟩), .pointer (some ⟨sbx, 0, none⟩), .pointer (some ⟨kb, 0, none⟩), .pointer (some ⟨lb, 0, none⟩)]] w fun e w' =>
      (∃ i : Int, e = .returned (.int .i64 i) ∧ decide (0 ≤ i) = ts.any fun t => occB v (app S t)) ∧ ∃ F', HCtx A sb ss f S v vb sbx lb kb w' F' ∧ KStep kb w w' := by
  obtain ⟨a, c, rfl, hlc, hcc⟩ := hs.shape
  have hl : ts.length ≤ 9223372036854775807 := by omega
  have HL := hide hL
  have HC := hide hc
  have HTS := hide hs
  clear hL hc
  have HG := hide (show (ts.drop 0).any (fun t => occB v (app S t)) = ts.any fun t => occB v (app S t) by simp)
  go_enter Try.func151, Try.ntmps151
  go_wp2
  go_loopw [8] (fun i wr => ∃ (k : Nat) (F' : Int → Option Value), k ≤ ts.length ∧ i = .int .i64 k ∧ Hid ((ts.drop k).any (fun t => occB v (app S t)) = ts.any fun t => occB v (app S t)) ∧ Hid (HCtx A sb ss f S v vb sbx lb kb wr F') ∧ Hid (KStep kb w wr)) (fun i _ => ts.length - (intOf i).toNat)
  case atStart => exact ⟨0, F, by omega, rfl, HG, HC, hide (KStep.of_below (Below.refl _ _) HC.out.kn.lt)⟩
  case round =>
    obtain ⟨k, F', hk, rfl, hx, hcx, hst⟩ := hrel
    by_cases hlt : k < ts.length
    · obtain ⟨b, off, a', c', rfl, hbs, -, g0, g1, gt⟩ := (HC.out.olds hst.out HTS.out).get k hlt
      have hlk := HL.out ts[k] (List.getElem_mem hlt)
      have HX2 := hide (hx.out.symm.trans (any_drop _ _ _ hlt))
      clear hx
      go_wp2_with fail
      refine (hlk wr F' _ _ hcx.out ⟨rfl, gt⟩).mono ?_
      rintro e w4 ⟨rfl, F4, h4, k4⟩
      have hcx4 := hide h4
      have hst4 := hide (hst.out.trans k4)
      generalize occB v (app S ts[k]) = x at *
      clear h4 k4 g0 g1 gt hlk hcx hst
      cases x
      · have HX := hide (show (ts.drop (k + 1)).any (fun t => occB v (app S t)) = ts.any fun t => occB v (app S t) by rw [HX2.out]; rfl)
        clear HX2
        go_wp2
        go_roundw
        case rel => exact ⟨k + 1, F4, by omega, by go_num, HX, hcx4, hst4⟩
        case measure => simp [intOf]; omega
      · have HX := hide (show ts.any (fun t => occB v (app S t)) = true by rw [HX2.out]; rfl)
        clear HX2
        go_wp2
        go_ret
        exact ⟨⟨_, rfl, by rw [HX.out]; simp⟩, F4, hcx4.out, hst4.out⟩
    · have HX := hide (show ts.any (fun t => occB v (app S t)) = false by have := hx.out; rw [List.drop_of_length_le (by omega)] at this; simpa using this.symm)
      clear hx
      go_wp2
      go_ret
      exact ⟨⟨_, rfl, by rw [HX.out]; rfl⟩, F', hcx.out, hst.out⟩
theorem lookany_calls (A : Nat → Prop) (sb ss : Nat) (f : Env) (S : Sub) (v : Int) (vb sbx lb kb : Nat) (ts : List Tm) (F : Int → Option Value) (s : Value) (w : World) (hc : HCtx A sb ss f S v vb sbx lb kb w F) (hs : Terms (OldA sb A) w s ts)
    (hL : ∀ t, t ∈ ts → LookC A sb ss f S v vb sbx lb kb t) :
    Calls Try.prog 114 #[s, .func (.func 201) #[] #[.pointer (some ⟨vb, 0, none⟩), .pointer (some ⟨sbx, 0, none⟩), .pointer (some ⟨kb, 0, none⟩), .pointer (some ⟨lb, 0, none⟩)]] w fun e w' =>
      LookPost A sb ss f S v vb sbx lb kb (ts.any fun t => occB v (app S t)) w e w' := by
  have hi := lookindex_calls A sb ss f S v vb sbx lb kb ts F s w hc hs hL
  clear hL hc hs
  go_enter Try.func114, Try.ntmps114
  go_wp2_with fail
  refine hi.mono ?_
  rintro e w1 ⟨⟨i, rfl, hx⟩, F', h1, h2⟩
  have HX := hide hx
  have H1 := hide h1
  have H2 := hide h2
  clear hi hx h1 h2
  go_wp2
  go_ret
  exact ⟨by rw [← HX.out]; rfl, F', H1.out, H2.out⟩
set_option maxHeartbeats 2000000 in
set_option maxRecDepth 100000 in
/-- The closure that tells. -/
theorem looktell_calls (A : Nat → Prop) (sb ss : Nat) (f : Env) (S : Sub) (v : Int) (vb sbx lb kb ub : Nat) (u : Tm) (au : Option Addr) (cu : Nat) (F : Int → Option Value) (w : World) (hc : HCtx A sb ss f S v vb sbx lb kb w F)
    (hu : w.heap[ub]? = some (.cells #[.int .i64 u.h, .slice au u.args.length cu] 25 (0, 0))) (ht : IsTm (OldA sb A) w u.h (.slice au u.args.length cu) u) (hL : LookC A sb ss f S v vb sbx lb kb u) :
    Calls Try.prog 203 #[.pointer (some ⟨lb, 0, none⟩), .pointer (some ⟨ub, 0, none⟩)] w fun e w' => LookPost A sb ss f S v vb sbx lb kb (occB v (app S u)) w e w' := by
  have hi := hL w F _ _ hc ht
  obtain ⟨-, z0, z1, -, -⟩ := box2 hu
  obtain ⟨-, y0, -⟩ := box1 hc.bl.1
  clear hL hc hu ht
  go_enter Try.func203, Try.ntmps203
  go_wp2_with fail
  refine hi.mono ?_
  rintro e w1 ⟨rfl, F', h1, h2⟩
  have H1 := hide h1
  have H2 := hide h2
  clear hi h1 h2 z0 z1 y0
  go_wp2
  go_ret
  exact ⟨rfl, F', H1.out, H2.out⟩
set_option maxHeartbeats 4000000 in
set_option maxRecDepth 100000 in
theorem look_calls (A : Nat → Prop) (sb ss : Nat) (f : Env) (S : Sub) (hS : Solved f S) (v : Int) (h0 : 0 ≤ v) (h1 : v ≤ 255) (hfv : f v = none) (vb sbx lb kb : Nat) : ∀ (n N : Nat) (t : Tm), t.size ≤ N → t.good = true → (∀ u, occ u t → rankU S u < n) → LookC A sb ss f S v vb sbx lb kb t := by
  intro n
  induction n using Nat.strongRecOn with
  | ind n ihn =>
  intro N
  induction N with
  | zero => intro t ht; have := t.size_eq; omega
  | succ N ih =>
    intro t hts hg hr w F h s hc ht
    obtain ⟨rfl, a, c, rfl, hlc, hcc⟩ := ht.shape
    have hgo := good_args hg
    have HC0 := hide hc
    have HT0 := hide ht
    clear hc ht
    go_enter Try.func201, Try.ntmps201
    refine seq_cut (fun a' w' => a' = { tmps := #[.agg #[.int .i64 t.h, .slice a t.args.length c], .pointer (some ⟨vb, 0, none⟩), .pointer (some ⟨sbx, 0, none⟩), .pointer (some ⟨kb, 0, none⟩), .pointer (some ⟨lb, 0, none⟩), .pointer (some ⟨w.heap.size, 0, none⟩), .bool false, undef, undef, undef, undef, undef, undef, undef, undef, undef, undef, undef, undef, undef, undef, undef, undef, undef, undef, undef, undef, undef, undef, undef, undef, undef, undef, undef, undef, undef, undef, undef], defers := [] } ∧ w' = w.alloc (.cells #[.int .i64 t.h, .slice a t.args.length c] 25)) ?_ ?_
    · go_wp2
      first | done | exact ⟨rfl, rfl⟩ | exact ⟨trivial, trivial⟩
    rintro _ W ⟨rfl, HW⟩
    have hB : Below w.heap.size w W := by rw [HW]; exact (Below.refl _ _).alloc (Nat.le_refl _) _
    have hb : W.heap[w.heap.size]? = some (.cells #[.int .i64 t.h, .slice a t.args.length c] 25 (0, 0)) := by rw [HW]; exact World.alloc_heap_new _ _
    have HC := hide (HC0.out.below hB)
    have HT := hide (HC0.out.old (KStep.of_below hB HC0.out.kn.lt) HT0.out)
    have HS0 := hide (KStep.of_below hB HC0.out.kn.lt)
    obtain ⟨-, z0, z1, -, -⟩ := box2 hb
    obtain ⟨-, y0, -⟩ := box1 HC.out.bv.1
    obtain ⟨-, y1, -⟩ := box1 HC.out.bs.1
    obtain ⟨-, y2, -⟩ := box1 HC.out.bl.1
    have y3 := HC.out.sol.load
    clear HW hB hb HC0 HT0
    by_cases hneg : t.h < 0
    · have hx0 : 0 ≤ -1 - t.h := by omega
      have hx1 : -1 - t.h ≤ 255 := by omega
      have hap : app S t = S (-1 - t.h) := app_neg hneg
      by_cases hxv : -1 - t.h = v
      · have hd : (-1 - t.h == v) = true := by simpa using hxv
        have HR := hide (show occB v (app S t) = true by rw [hap, hxv, hS.free v hfv, occB_var h0]; simp)
        clear hxv hap
        go_wp2
        go_ret
        exact ⟨by rw [HR.out]; rfl, F, HC.out, HS0.out⟩
      · have hd : (-1 - t.h == v) = false := by simpa using hxv
        obtain ⟨vl, is, hrun, -, his, hh, av, nv, cv, rfl, hTv⟩ := HC.out.sol.look hx0 hx1
        have HRUN := hide hrun
        have HIS := hide his
        have HTV := hide hTv
        have HAP := hide hap
        have HRK := hide (hr (-1 - t.h) ⟨hx0, by rw [show -1 - (-1 - t.h) = t.h by omega, Tm.heads_eq]; exact List.mem_cons_self⟩)
        have HXV := hide hxv
        clear hrun his hTv hap hr hxv
        cases is
        · have HF : Hid (f (-1 - t.h) = none) := hide (by
            have := HIS.out
            cases hf : f (-1 - t.h) with
            | none => rfl
            | some u => rw [hf] at this; cases this)
          have HR := hide (show occB v (app S t) = false by rw [HAP.out, hS.free _ HF.out, occB_var hx0]; simp; intro e; exact HXV.out e.symm)
          go_wp2_with (at_lookup; refine look_run_pl rfl (.tmp 23) (.tmp 24) 97 rfl rfl rfl HRUN.out ?_)
          go_ret
          have hal := (Below.refl W.heap.size W).alloc (Nat.le_refl _) (.cells #[.int .i64 hh, .slice av nv cv] 25)
          exact ⟨by rw [HR.out]; rfl, F, HC.out.below hal, HS0.out.trans (KStep.of_below hal HC.out.kn.lt)⟩
        · obtain ⟨u, hu⟩ : ∃ u, f (-1 - t.h) = some u := by
            have := HIS.out
            cases hf : f (-1 - t.h) with
            | none => rw [hf] at this; cases this
            | some u => exact ⟨u, rfl⟩
          have hTu := HTV.out u hu
          obtain rfl := hTu.1
          obtain ⟨-, a9, c9, hsl, -, -⟩ := hTu.shape
          obtain ⟨rfl, rfl, rfl⟩ : av = a9 ∧ nv = u.args.length ∧ cv = c9 := by simpa using hsl
          clear hsl
          have hal := (Below.refl W.heap.size W).alloc (Nat.le_refl _) (.cells #[.int .i64 u.h, .slice av u.args.length cv] 25)
          have hub : (W.alloc (.cells #[.int .i64 u.h, .slice av u.args.length cv] 25)).heap[W.heap.size]? = some (.cells #[.int .i64 u.h, .slice av u.args.length cv] 25 (0, 0)) := World.alloc_heap_new _ _
          have HUB := hide (HC.out.kn.boxed hal hub (Nat.le_refl _))
          have HC2 := hide (HC.out.below hal)
          have HS2 := hide (HS0.out.trans (KStep.of_below hal HC.out.kn.lt))
          have HT2 := hide (HC.out.old (KStep.of_below hal HC.out.kn.lt) hTu)
          have HL : Hid (LookC A sb ss f S v vb sbx lb kb u) := hide (ihn _ HRK.out u.size u (Nat.le_refl _) (hS.rng _ _ hu).2.2 fun y hy => rank_step hS hu hy)
          have HFX := hide (show app S t = app S u by rw [HAP.out, hS.fix _ _ hu])
          have HFX2 := hide (hS.fix _ _ hu)
          clear hal hub hTu hu
          go_wp2_with (at_lookup; refine look_run_pl rfl (.tmp 23) (.tmp 24) 97 rfl rfl rfl HRUN.out ?_)
          refine (ofB_calls kb ss (-1 - t.h) F (occB v (S (-1 - t.h))) (fun F2 => ∀ x u, F2 x = some u → u = .bool (occB v (S x))) _ _ _ hx0 hx1 HC2.out.lt (fun y u hy => ⟨_, HC2.out.ok y u hy⟩) HC2.out.kn ?_).mono ?_
          · intro w1 hs1 hk1 hF1
            refine (looktell_calls A sb ss f S v vb sbx lb kb _ u av cv F w1 (HC2.out.step hs1 hk1 HC2.out.ok) (HUB.out.step hs1).1 (HC2.out.old hs1 HT2.out) HL.out).mono ?_
            rintro e w2 ⟨rfl, F2, hc2, hs2⟩
            exact ⟨by rw [← HFX2.out], F2, hc2.ok, hs2, hc2.kn⟩
          rintro e w3 ⟨F3, hs3, hk3, hor⟩
          have HE : Hid (e = .returned (.bool (occB v (app S t))) ∧ ∀ x u, F3 x = some u → u = .bool (occB v (S x))) := by
            refine hide ?_
            rw [HAP.out]
            rcases hor with ⟨vv, h9, rfl, rfl⟩ | ⟨h9, rfl, F2, h10, rfl⟩
            · exact ⟨by rw [HC2.out.ok _ _ h9], HC2.out.ok⟩
            · refine ⟨rfl, fun x u hx => ?_⟩
              dsimp only at hx
              by_cases e : x = -1 - t.h
              · rw [if_pos e, Option.some.injEq] at hx
                rw [← hx, e]
              · rw [if_neg e] at hx
                exact h10 x u hx
          obtain ⟨rfl, hok⟩ := HE.out
          have HC3 := hide (HC2.out.step hs3 hk3 hok)
          have HS3 := hide (HS2.out.trans hs3)
          clear HE hor hs3 hk3 hok
          generalize hrr : occB v (app S t) = rr
          have HRR := hide hrr
          clear hrr
          go_wp2
          go_ret
          exact ⟨by rw [HRR.out]; rfl, F3, HC3.out, HS3.out⟩
    · have HR := hide (occB_args (v := v) (S := S) hneg)
      have hL : ∀ c, c ∈ t.args → LookC A sb ss f S v vb sbx lb kb c := fun c hcm => by
        have hsz := t.size_eq
        obtain ⟨i, hi, rfl⟩ := List.getElem_of_mem hcm
        have := Tm.size_get t.args i hi
        exact ih _ (by omega) (hgo.2.2 i hi) fun u hu => hr u ((occ_args hneg).2 ⟨_, hcm, hu⟩)
      have hla := lookany_calls A sb ss f S v vb sbx lb kb t.args F (.slice a t.args.length c) W HC.out HT.out.2 hL
      clear hL hr
      go_wp2_with fail
      refine hla.mono ?_
      rintro e w1 ⟨rfl, F', h1, h2⟩
      have H1 := hide h1
      have H2 := hide (HS0.out.trans h2)
      clear hla h1 h2
      rw [← HR.out]
      generalize hrr : occB v (app S t) = rr
      have HRR := hide hrr
      clear hrr
      go_wp2
      go_ret
      exact ⟨by rw [HRR.out]; rfl, F', H1.out, H2.out⟩
end Go.Proofs.Ythplndalbfcbbaa
