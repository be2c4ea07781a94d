/- path: spots in memory; spots, walked. -/
import Derived.Laws.EntriesVeiled
import Derived.Test.YtneecjikdghchaaDoorPathP
import Derived.Test.YtneecjikdghchaaDoorShelfD
import Derived.Test.YtneecjikdghchaaDoorJoin
import Derived.Test.YtneecjikdghchaaDoorChk
import Derived.Test.YtneecjikdghchaaDoorDraw8
import Derived.Test.YtneecjikdghchaaDoorBox
set_option linter.unusedSimpArgs false
set_option linter.unusedVariables false
namespace Go.Proofs.YtneecjikdghchaaDoor
open Go.RowKit

def plB (p : List Nat) : ByteArray := ⟨(dotB p).toArray⟩
abbrev placeS (p : List Nat) : Value := .string (plB p)
theorem pbox1 {w : World} {b : Nat} {x : Value} {t : TypeId} (h : w.heap[b]? = some (.cells #[x] t (0, 0))) : b < w.heap.size ∧ w.cell? ⟨b, 0, none⟩ = some x ∧ w.frozen? ⟨b, 0, none⟩ = false :=
  ⟨(Array.getElem?_eq_some_iff.1 h).1, by simp [World.cell?, h], by simp [World.frozen?, h]⟩
theorem pbox1_set {w : World} {b : Nat} {x v : Value} {t : TypeId} (h : w.heap[b]? = some (.cells #[x] t (0, 0))) : (w.setCell ⟨b, 0, none⟩ v).heap[b]? = some (.cells #[v] t (0, 0)) := by
  simp [World.setCell, Array.getElem?_modify, h]
theorem placeS_inj {p q : List Nat} (h : placeS p = placeS q) : p = q := by
  refine dotB_inj p q ?_
  simp only [placeS, plB, Value.string.injEq, ByteArray.mk.injEq] at h
  simpa using congrArg Array.toList h
def Spt.cells (s : Spt) : List Value := [placeS s.p, .int .i64 s.h, .int .i64 s.n]
def Spt.key (s : Spt) : Value := .agg #[placeS s.p, .int .i64 s.h, .int .i64 s.n]
def spC (l : List Spt) : List Value := (l.map Spt.cells).flatten
theorem spC_append (a b : List Spt) : spC (a ++ b) = spC a ++ spC b := by simp [spC]
theorem spC_length : ∀ l : List Spt, (spC l).length = l.length * 3
  | [] => rfl
  | s :: l => by
    have := spC_length l
    simp only [spC, List.map_cons, List.flatten_cons, List.length_append, List.length_cons] at this ⊢
    rw [this]; simp [Spt.cells]; omega
theorem psL_snoc : ∀ (a : List Tm) (p : List Nat) (i : Nat) (t : Tm), psL p i (a ++ [t]) = psL p i a ++ psT (p ++ [i + a.length]) t
  | [], p, i, t => by simp [psL]
  | u :: a, p, i, t => by
    simp only [List.cons_append, psL, psL_snoc a p (i + 1) t, List.append_assoc, List.length_cons]
    rw [show i + 1 + a.length = i + (a.length + 1) by omega]
mutual
theorem psT_len : ∀ (t : Tm) (p : List Nat), (psT p t).length ≤ t.size
  | .node h l, p => by
    rw [psT]
    simp only [Tm.size]
    split
    · simp
    · simp only [List.length_cons]; have := psL_len l p 0; omega
theorem psL_len : ∀ (l : List Tm) (p : List Nat) (i : Nat), (psL p i l).length ≤ Tm.sizes l
  | [], p, i => by simp [psL]
  | t :: ts, p, i => by
    rw [psL, List.length_append]
    simp only [Tm.sizes]
    have := psT_len t (p ++ [i]); have := psL_len ts p (i + 1); omega
end
theorem psizes_append : ∀ (a b : List Tm), Tm.sizes (a ++ b) = Tm.sizes a + Tm.sizes b
  | [], b => by simp [Tm.sizes]
  | t :: a, b => by simp only [List.cons_append, Tm.sizes, psizes_append a b]; omega
theorem psizes_take (l : List Tm) (i : Nat) (h : i < l.length) : Tm.sizes (l.take i) + (l[i]).size ≤ Tm.sizes l := by
  have h1 : Tm.sizes (l.take (i + 1)) = Tm.sizes (l.take i) + (l[i]).size := by rw [List.take_succ_eq_append_getElem h, psizes_append]; simp [Tm.sizes]
  have h2 := congrArg Tm.sizes (List.take_append_drop (i + 1) l)
  rw [psizes_append] at h2
  omega
theorem psT_eq (p : List Nat) (t : Tm) : psT p t = if t.h < 0 then [] else ⟨p, t.h, t.args.length⟩ :: psL p 0 t.args := by
  cases t with
  | node h l => rw [psT]; rfl
theorem dec_small {i : Nat} (h : i < 10) : Lib.decDigits i = [UInt8.ofNat (48 + i)] := by rw [Lib.decDigits, dif_pos h]
theorem dotB_snoc (p : List Nat) {i : Nat} (h : i < 10) : dotB (p ++ [i]) = dotB p ++ (Lib.decDigits i ++ [46]) := by rw [dotB_append]; simp [dotB]
theorem str_dot (p : List Nat) (i : Nat) (h : i < 10) : (((⟨(dotB p).toArray⟩ : ByteArray) ++ (⟨(Lib.decDigits i).toArray⟩ : ByteArray)) ++ (⟨#[46]⟩ : ByteArray)) = (⟨(dotB (p ++ [i])).toArray⟩ : ByteArray) := by
  rw [dotB_snoc p h]
  apply ByteArray.ext
  simp [ByteArray.data_append]
theorem good_args' {t : Tm} (hg : t.good = true) : t.args.length ≤ 8 ∧ ∀ k (hk : k < t.args.length), (t.args[k]).good = true := by
  cases t with
  | node h l =>
    simp only [Tm.good, Bool.and_eq_true] at hg
    have h1 := hg.1
    simp only [okP, Tm.h, Tm.args, Bool.not_eq_true', Bool.or_eq_false_iff, decide_eq_false_iff_not] at h1
    refine ⟨by simp only [Tm.args]; have := h1.2; have h9 := of_decide_eq_false this; omega, ?_⟩
    have h2 := hg.2
    simp only [Tm.args]
    clear hg h1
    induction l with
    | nil => intro k hk; simp at hk
    | cons u l ih =>
      simp only [Tm.goods, Bool.and_eq_true] at h2
      intro k hk
      cases k with
      | zero => exact h2.1
      | succ k => exact ih h2.2 k (by simpa using hk)
def cloV (ob kb : Nat) : Value := .func (.func 48) #[] #[.pointer (some ⟨ob, 0, none⟩), .pointer (some ⟨kb, 0, none⟩)]
/-- Behind k arguments. -/
def WalkInv (ob kb base : Nat) (w : World) (v : Value) (l : List Spt) (p : List Nat) (t : Tm) (wr : World) (k : Nat) : Prop :=
  ∃ v', wr.heap[ob]? = some (.cells #[v'] 64 (0, 0)) ∧ wr.ownsRow base 68 3 v' (l ++ ⟨p, t.h, t.args.length⟩ :: psL p 0 (t.args.take k)).length (spC (l ++ ⟨p, t.h, t.args.length⟩ :: psL p 0 (t.args.take k))) ∧ Keep (fun b => b ≠ ob ∧ v.ownBlock ≠ some b) w wr ∧ (∀ b, v'.ownBlock = some b → v.ownBlock = some b ∨ w.heap.size ≤ b)
def WalkPost (ob base : Nat) (w : World) (v : Value) (l : List Spt) (w' : World) : Prop :=
  ∃ v', w'.heap[ob]? = some (.cells #[v'] 64 (0, 0)) ∧ w'.ownsRow base 68 3 v' l.length (spC l) ∧ Keep (fun b => b ≠ ob ∧ v.ownBlock ≠ some b) w w' ∧ (∀ b, v'.ownBlock = some b → v.ownBlock = some b ∨ w.heap.size ≤ b)

set_option maxHeartbeats 8000000 in
set_option maxRecDepth 100000 in
theorem walk_calls (ob kb base : Nat) (hok : ob ≠ kb) (hob : ob < base) (hkb : kb < base) (n0 : Nat) : ∀ (t : Tm) (p : List Nat) (l : List Spt) (v : Value) (A : Nat → Prop) (h : Int) (s : Value) (w : World), t.size ≤ n0 → t.good = true → l.length + t.size ≤ 1000000 → (dotB p).length + 2 * t.size ≤ 1000000 →
    w.heap[ob]? = some (.cells #[v] 64 (0, 0)) → w.heap[kb]? = some (.cells #[cloV ob kb] 86 (0, 0)) → w.ownsRow base 68 3 v l.length (spC l) → base ≤ w.heap.size → (∀ b, (b = ob ∨ v.ownBlock = some b) → A b) → IsTm A w h s t →
    Calls Tryd.prog 48 #[.agg #[.int .i64 h, s], .string (plB p), .pointer (some ⟨ob, 0, none⟩), .pointer (some ⟨kb, 0, none⟩)] w fun e w' => e = .returned (.tuple #[]) ∧ WalkPost ob base w v (l ++ psT p t) w' := by
  induction n0 with
  | zero => intro t _ _ _ _ _ _ _ ht; have := t.size_eq; omega
  | succ n0 ih =>
    rintro t p l v A h s w ht hg hl hd ho hk hown hbase hA hs
    obtain ⟨rfl, a, c, rfl, hlc, hc⟩ := hs.shape
    have hb0 : Below w.heap.size w (w.alloc (.cells #[.int .i64 t.h, .slice a t.args.length c] 24)) := (Below.refl _ _).alloc (Nat.le_refl _) _
    by_cases hneg : t.h < 0
    · have HP := hide (show psT p t = [] by rw [psT_eq, if_pos hneg])
      have HB := hide hb0
      have HO := hide ho
      have HW := hide hown
      clear ho hk hown hA hs hg hb0
      go_enter Tryd.func48, Tryd.ntmps48
      go_wp2
      refine bodyPost_ret (results_none rfl _ _ _) rfl ?_
      rw [HP.out, List.append_nil]
      exact ⟨rfl, v, (HB.out.block _ (Array.getElem?_eq_some_iff.1 HO.out).1).trans HO.out, ownsRow_keep HW.out (Keep.of_below (S := fun _ => True) HB.out) fun _ _ => trivial, Keep.of_below HB.out, fun b h => .inl h⟩
    · have HP := hide (show psT p t = ⟨p, t.h, t.args.length⟩ :: psL p 0 t.args by rw [psT_eq, if_neg hneg])
      obtain ⟨hg1, hg2⟩ := good_args' hg
      have HSZ := hide t.size_eq
      have HO := hide ((hb0.block _ (Array.getElem?_eq_some_iff.1 ho).1).trans ho)
      have HK := hide ((hb0.block _ (Array.getElem?_eq_some_iff.1 hk).1).trans hk)
      have HW := hide (ownsRow_keep hown (Keep.of_below (S := fun _ => True) hb0) fun _ _ => trivial)
      have HB := hide hb0
      have HKW := hide hk
      have HS0 := hide hs.2
      have HA := hide hA
      have HL := hide hl
      have HD := hide hd
      have HBS := hide hbase
      have HGK := hide hg2
      have HOWN := hide hown.lt
      obtain ⟨ol, y0, y1⟩ := pbox1 HO.out
      have HNB := hide (show (l.length + 1) * 32 ≤ 140737488355328 by omega)
      clear ho hk hown hs hb0 hA hd hg hg2
      go_enter Tryd.func48, Tryd.ntmps48
      refine seq_cut (fun a' w' => a' = { tmps := #[.agg #[.int .i64 t.h, .slice a t.args.length c], (.string (plB p)), .pointer (some ⟨ob, 0, none⟩), .pointer (some ⟨kb, 0, none⟩), .pointer (some ⟨w.heap.size, 0, none⟩), undef, undef, undef, undef, undef, undef, undef, undef, undef, undef, undef, undef, undef, undef, undef, undef, undef, undef, undef, undef, undef, undef, undef, undef, undef, undef, undef, undef, undef, undef, undef, undef, undef], defers := [] } ∧ w' = w.alloc (.cells #[.int .i64 t.h, .slice a t.args.length c] 24)) ?_ ?_
      · go_wp2
        first | done | exact ⟨rfl, rfl⟩ | exact ⟨trivial, trivial⟩
      have HK0 := hide (World.alloc_heap_new w (.cells #[.int .i64 t.h, .slice a t.args.length c] 24))
      rintro _ _ ⟨rfl, rfl⟩
      generalize w.alloc (.cells #[.int .i64 t.h, .slice a t.args.length c] 24) = W at *
      obtain ⟨kl, z0, z1, -, -⟩ := box2 HK0.out
      go_wp2_with (at_builtin; refine app_pl rfl _ _ 64 rfl base 68 (.agg #[.string ⟨#[]⟩, .int .i64 0, .int .i64 0]) 3 32 Tryd.underlying64 (by kernel_rfl) rfl (by decide) (by decide) v l.length _ rfl HW.out 1 1 _ rfl (by simp [Value.oneCell']) rfl HNB.out (Nat.le_trans HBS.out HB.out.size) ?_; intro v' w9 r1 r2 r3 r4; obtain ⟨va, vc, rfl⟩ := r4; have HO9 := hide (r2.obj (fun h => by have := (HOWN.out _ h).1; omega) HO.out); obtain ⟨ol9, p0, p1⟩ := pbox1 HO9.out; have HK9 := hide (r2.obj (fun h => by have := (HOWN.out _ h).2; omega) HK0.out); have HKS := hide (show (w9.setCell ⟨ob, 0, none⟩ (.slice va (l.length + 1) vc)).heap[w.heap.size]? = _ from (Below.heap_setCell _ _ _ _ (by show w.heap.size ≠ ob; omega)).trans HK9.out); obtain ⟨-, s0, s1, -, -⟩ := box2 HKS.out)
      have HOS := hide (pbox1_set (v := .slice va (l.length + 1) vc) HO9.out)
      have HSET := hide (show Keep (fun b => b ≠ ob) w9 (w9.setCell ⟨ob, 0, none⟩ (.slice va (l.length + 1) vc)) from (Keep.refl _ _).setCell (p := ⟨ob, 0, none⟩) (by simp) _)
      have HI := hide (show WalkInv ob kb base w v l p t (w9.setCell ⟨ob, 0, none⟩ (.slice va (l.length + 1) vc)) 0 from by
        refine ⟨_, HOS.out, ?_, ?_, fun b hb => ?_⟩
        · have q := ownsRow_keep r1 HSET.out fun b hb e => by have := (r1.lt b hb).1; omega
          simpa [psL, spC_append, spC, Spt.cells] using q
        · exact (Keep.of_below (S := fun b => b ≠ ob ∧ v.ownBlock ≠ some b) HB.out).trans ((r2.mono fun b _ h => h.2).trans (HSET.out.mono fun b _ h => h.1))
        · rcases r3 b hb with h | h
          · exact .inl h
          · have := HB.out.size; exact .inr (by omega))
      have HKF := hide (show (w9.setCell ⟨ob, 0, none⟩ (.slice va (l.length + 1) vc)).heap[kb]? = some (.cells #[cloV ob kb] 86 (0, 0)) from (Below.heap_setCell _ _ _ _ (by show kb ≠ ob; exact fun e => hok e.symm)).trans (r2.obj (fun h => by have := (HOWN.out _ h).1; omega) HK.out))
      generalize w9.setCell ⟨ob, 0, none⟩ (.slice va (l.length + 1) vc) = w10 at *
      clear r1 r2 r3 HO9 HK9 HOS HSET p0 p1 y0 y1 z0 z1 ol9
      go_loopw [24] (fun i wr => ∃ k : Nat, k ≤ t.args.length ∧ i = .int .i64 k ∧ Hid (WalkInv ob kb base w v l p t wr k)) (fun i _ => t.args.length - (intOf i).toNat)
      case atStart => exact ⟨0, by omega, rfl, HI⟩
      case round =>
        obtain ⟨k, hk, rfl, hinv⟩ := hrel
        obtain ⟨v', ho, hown, hkp, hnew⟩ := hinv.out
        by_cases hlt : k < t.args.length
        · have HTR := hide (show Terms (fun b => A b ∨ v'.ownBlock = some b) wr (.slice a t.args.length c) t.args from by
            refine RepD.frame (A := A) (w := w) (fun b hb hb' => hkp.block b hb' ⟨fun e => hb (HA.out b (.inl e)), fun e => hb (HA.out b (.inr e))⟩) (fun b hb' hb => ?_) _ _ HS0.out
            rcases hb with hb | hb
            · exact hb
            · rcases hnew b hb with h | h
              · exact HA.out b (.inr h)
              · omega)
          have HKB := hide (hkp.obj ⟨fun e => hok e.symm, fun e => by have := (HOWN.out _ e).1; omega⟩ HKW.out)
          obtain ⟨b2, o2, a2, c2, rfl, hb2, hA2, e0, e1, et⟩ := HTR.out.get k hlt
          have hal : Below wr.heap.size wr (wr.alloc (.cells #[.int .i64 t.args[k].h, .slice a2 t.args[k].args.length c2] 24)) := (Below.refl _ _).alloc (Nat.le_refl _) _
          have HQ5 := hide (World.alloc_heap_new wr (.cells #[.int .i64 t.args[k].h, .slice a2 t.args[k].args.length c2] 24))
          have HK5 := hide ((hal.block _ (Array.getElem?_eq_some_iff.1 HKB.out).1).trans HKB.out)
          have HO5 := hide ((hal.block _ (Array.getElem?_eq_some_iff.1 ho).1).trans ho)
          have HR5 := hide (ownsRow_keep hown (Keep.of_below (S := fun _ => True) hal) fun _ _ => trivial)
          have HT5 := hide (et.below hal)
          have HB5 := hide hal
          have HKP := hide hkp
          have HNW := hide hnew
          have HOL := hide hown.lt
          have hk8 : k < 10 := by omega
          have hks := psizes_take t.args k hlt
          have hkl := psL_len (t.args.take k) p 0
          have HLN := hide (show (l ++ ⟨p, t.h, t.args.length⟩ :: psL p 0 (t.args.take k)).length + t.args[k].size ≤ 1000000 by
            have := HSZ.out; have := HL.out; simp only [List.length_append, List.length_cons]; omega)
          have HDN := hide (show (dotB (p ++ [k])).length + 2 * t.args[k].size ≤ 1000000 by
            have := HSZ.out; have := HD.out; rw [dotB_snoc p hk8, dec_small hk8]; simp only [List.length_append, List.length_cons, List.length_nil]; omega)
          have HSN := hide (show t.args[k].size ≤ n0 by have := HSZ.out; omega)
          have HLE := hide (show (l ++ ⟨p, t.h, t.args.length⟩ :: psL p 0 (t.args.take k)) ++ psT (p ++ [k]) t.args[k] = l ++ ⟨p, t.h, t.args.length⟩ :: psL p 0 (t.args.take (k + 1)) by
            rw [List.take_succ_eq_append_getElem hlt, psL_snoc, List.length_take, Nat.min_eq_left (by omega)]; simp)
          have hbw : base ≤ wr.heap.size := Nat.le_trans HBS.out hkp.size
          have hws := hkp.size
          clear hinv ho hown hkp hnew hal et hks hkl
          go_wp2
          generalize wr.alloc (.cells #[.int .i64 t.args[k].h, .slice a2 t.args[k].args.length c2] 24) = w5 at *
          have HCC := hide (show ∀ W' : World, w5.heap[kb]? = W'.heap[kb]? → w5.heap[wr.heap.size]? = W'.heap[wr.heap.size]? → W'.cell? ⟨kb, 0, none⟩ = some (.func (.func 48) #[] #[.pointer (some ⟨ob, 0, none⟩), .pointer (some ⟨kb, 0, none⟩)]) ∧ W'.cell? ⟨wr.heap.size, 0, none⟩ = some (.int .i64 t.args[k].h) ∧ W'.cell? ⟨wr.heap.size, 1, none⟩ = some (.slice a2 t.args[k].args.length c2) from fun W' h1 h2 => by
            have q1 := h1.symm.trans HK5.out
            have q2 := h2.symm.trans HQ5.out
            obtain ⟨-, x0, -⟩ := pbox1 q1
            obtain ⟨-, x1, x2, -, -⟩ := box2 q2
            exact ⟨x0, x1, x2⟩)
          refine drawn_tree (fun W' => W'.cell? ⟨kb, 0, none⟩ = some (.func (.func 48) #[] #[.pointer (some ⟨ob, 0, none⟩), .pointer (some ⟨kb, 0, none⟩)]) ∧ W'.cell? ⟨wr.heap.size, 0, none⟩ = some (.int .i64 t.args[k].h) ∧ W'.cell? ⟨wr.heap.size, 1, none⟩ = some (.slice a2 t.args[k].args.length c2)) (.take 0 (.take 1 (.take 2 (.take 3 (.one 4 (.take 5 (.take 6 (.one 7 .done)))))))) (by kernel_rfl) (by kernel_rfl) (by kernel_rfl) (by kernel_rfl) (fun _ _ _ _ _ h => h) (HCC.out _ rfl rfl) ?_
          have gd := (Below.refl w5.heap.size w5).drew
          iterate 4 (refine t_take (v := ?_) rfl (by rfl) ?_ ?_; rotate_left; (intro w hS; obtain ⟨hS1, hS2, hS3⟩ := hS; go_simp; try with_reducible rfl); simp only [Act.put, List.setIfInBounds_toArray, List.set_cons_zero, List.set_cons_succ])
          refine t_one rfl (by rfl) ?_
          intro K hK
          go_simp
          refine (Tryd.strconv_Itoa_small k (by omega) w5.drew).mono ?_
          rintro e w6 ⟨rfl, rfl⟩
          refine hK.out _ _ (HCC.out _ rfl rfl) ?_
          clear hK K
          have hds : (Lib.decDigits k).length = 1 := by rw [dec_small hk8]; rfl
          have hps : (plB p).size ≤ 1000000 := by have := HD.out; simp only [plB, ByteArray.size, List.size_toArray]; omega
          have hps2 : (plB p ++ (⟨(Lib.decDigits k).toArray⟩ : ByteArray)).size ≤ 1000001 := by rw [ByteArray.size_append]; simp only [ByteArray.size, List.size_toArray] at hps ⊢; omega
          refine t_take (v := ?_) rfl (by rfl) ?_ ?_; rotate_left; (intro w hS; obtain ⟨hS1, hS2, hS3⟩ := hS; go_simp; rw [if_neg (by omega)]); simp only [Act.put, List.setIfInBounds_toArray, List.set_cons_zero, List.set_cons_succ]
          refine t_take (v := ?_) rfl (by rfl) ?_ ?_; rotate_left; (intro w hS; obtain ⟨hS1, hS2, hS3⟩ := hS; go_simp; rw [if_neg (by first | omega | (simp at *; omega))]); simp only [Act.put, List.setIfInBounds_toArray, List.set_cons_zero, List.set_cons_succ]
          have hstr := str_dot p k hk8
          refine t_one rfl (by rfl) ?_
          intro K hK
          go_simp
          rw [show plB p ++ (⟨(Lib.decDigits k).toArray⟩ : ByteArray) ++ (⟨#[46]⟩ : ByteArray) = plB (p ++ [k]) from hstr]
          clear hds hps hps2 hstr
          have HB6 := hide (show Below wr.heap.size wr w5.drew from more_below HB5.out gd)
          refine (ih t.args[k] (p ++ [k]) (l ++ ⟨p, t.h, t.args.length⟩ :: psL p 0 (t.args.take k)) v' (fun b => A b ∨ v'.ownBlock = some b) _ _ w5.drew HSN.out (HGK.out k hlt) HLN.out HDN.out ((gd.block _ (Array.getElem?_eq_some_iff.1 HO5.out).1).trans HO5.out) ((gd.block _ (Array.getElem?_eq_some_iff.1 HK5.out).1).trans HK5.out) (ownsRow_keep HR5.out (Keep.of_below (S := fun _ => True) gd) fun _ _ => trivial) (Nat.le_trans hbw HB6.out.size) (fun b hb => ?_) ⟨rfl, HT5.out.below gd⟩).mono ?_
          · rcases hb with hb | hb
            · exact .inl (HA.out b (.inl hb))
            · exact .inr hb
          rintro e w7 ⟨rfl, v7, h71, h72, h73, h74⟩
          rw [HLE.out] at h72
          have hq5 : wr.heap.size < w5.drew.heap.size := (Array.getElem?_eq_some_iff.1 HQ5.out).1
          have e1 : w5.heap[kb]? = w7.heap[kb]? := (h73.block kb (Array.getElem?_eq_some_iff.1 HK5.out).1 ⟨fun e => hok e.symm, fun e => by have := (HOL.out _ e).1; omega⟩).symm
          have e2 : w5.heap[wr.heap.size]? = w7.heap[wr.heap.size]? := (h73.block wr.heap.size hq5 ⟨fun e => by omega, fun e => by have := (HOL.out _ e).2; omega⟩).symm
          refine hK.out _ _ (HCC.out w7 e1 e2) ?_
          clear hK K
          refine t_done ?_
          have HI2 := hide (show WalkInv ob kb base w v l p t w7 (k + 1) from by
            refine ⟨v7, h71, h72, ⟨h73.os.trans (HB6.out.os.trans HKP.out.os), h73.tape.trans (HB6.out.tape.trans HKP.out.tape), h73.output.trans (HB6.out.output.trans HKP.out.output), Nat.le_trans hws (Nat.le_trans HB6.out.size h73.size), fun b hb hn => ?_⟩, fun b hb => ?_⟩
            · have hbr : b < wr.heap.size := Nat.lt_of_lt_of_le hb hws
              refine (h73.block b (Nat.lt_of_lt_of_le hbr HB6.out.size) ⟨hn.1, fun e => ?_⟩).trans ((HB6.out.block b hbr).trans (HKP.out.block b hb hn))
              rcases HNW.out b e with h | h
              · exact hn.2 h
              · omega
            · rcases h74 b hb with h | h
              · exact HNW.out b h
              · exact .inr (by have := HB6.out.size; omega))
          clear h71 h72 h73 h74 e1 e2 hq5 HQ5 HK5 HO5 HR5 HT5 HB5 HKP HNW HOL HLN HDN HSN HLE HCC HB6 gd HTR HKB ih
          go_wp2
          go_roundw
          case rel => exact ⟨k + 1, by omega, by go_num, HI2⟩
          case measure => simp [intOf]; omega
        · obtain rfl : k = t.args.length := by omega
          rw [List.take_length, ← HP.out] at hown
          have HF := hide (show WalkPost ob base w v (l ++ psT p t) wr from ⟨v', ho, hown, hkp, hnew⟩)
          clear hinv ho hown hkp hnew
          go_wp2
          go_end0
          exact ⟨rfl, HF.out⟩

set_option maxHeartbeats 2000000 in
set_option maxRecDepth 100000 in
theorem spots_calls (t : Tm) (A : Nat → Prop) (h : Int) (s : Value) (w : World) (hg : t.good = true) (hz : t.size ≤ 100000) (hs : IsTm A w h s t) :
    Calls Tryd.prog 29 #[.agg #[.int .i64 h, s]] w fun e w' => ∃ v, e = .returned v ∧ w'.ownsRow (w.heap.size + 3) 68 3 v (psT [] t).length (spC (psT [] t)) ∧ Below w.heap.size w w' := by
  obtain ⟨rfl, a, c, rfl, hlc, hc⟩ := hs.shape
  have HW := hide (allocs_below w [.cells #[.int .i64 t.h, .slice a t.args.length c] 24, .cells #[.slice none 0 0] 64, .cells #[cloV (w.heap.size + 1) (w.heap.size + 2)] 86])
  have HZ := hide (allocs_size w [.cells #[.int .i64 t.h, .slice a t.args.length c] 24, .cells #[.slice none 0 0] 64, .cells #[cloV (w.heap.size + 1) (w.heap.size + 2)] 86])
  have HK1 := hide (allocs_get w [.cells #[.int .i64 t.h, .slice a t.args.length c] 24, .cells #[.slice none 0 0] 64, .cells #[cloV (w.heap.size + 1) (w.heap.size + 2)] 86] 1 _ rfl)
  have HK2 := hide (allocs_get w [.cells #[.int .i64 t.h, .slice a t.args.length c] 24, .cells #[.slice none 0 0] 64, .cells #[cloV (w.heap.size + 1) (w.heap.size + 2)] 86] 2 _ rfl)
  have HS := hide ((hs.2.bar (B := fun b => b = w.heap.size + 1 ∨ (Value.slice none 0 0).ownBlock = some b) fun b hb h => by
    rcases h with h | h
    · omega
    · simp [Value.ownBlock] at h).below HW.out)
  clear hs
  go_enter Tryd.func29, Tryd.ntmps29
  go_wp2_with fail
  have hgn : ((w.alloc (.cells #[.int .i64 t.h, .slice a t.args.length c] 24)).alloc (.cells #[.slice none 0 0] 64)).alloc (.cells #[.func (.func 48) #[] #[.pointer (some ⟨w.heap.size + 1, 0, none⟩), .pointer (some ⟨w.heap.size + 1 + 1, 0, none⟩)]] 86) = allocs w [.cells #[.int .i64 t.h, .slice a t.args.length c] 24, .cells #[.slice none 0 0] 64, .cells #[cloV (w.heap.size + 1) (w.heap.size + 2)] 86] := rfl
  rw [hgn]
  clear hgn
  generalize allocs w [.cells #[.int .i64 t.h, .slice a t.args.length c] 24, .cells #[.slice none 0 0] 64, .cells #[cloV (w.heap.size + 1) (w.heap.size + 2)] 86] = W at *
  have HSZ := hide (show w.heap.size + 3 ≤ W.heap.size by have := HZ.out; simp only [List.length_cons, List.length_nil] at this; omega)
  refine (walk_calls (w.heap.size + 1) (w.heap.size + 2) (w.heap.size + 3) (by omega) (by omega) (by omega) t.size t [] [] (.slice none 0 0) (fun b => b = w.heap.size + 1 ∨ (Value.slice none 0 0).ownBlock = some b) _ _ W (Nat.le_refl _) hg (by simp; omega) (by simp [dotB]; omega) HK1.out HK2.out (World.ownsRow_nil _ _ _ _) HSZ.out (fun b h => h) ⟨rfl, HS.out⟩).mono ?_
  rintro e w7 ⟨rfl, v7, h71, h72, h73, h74⟩
  rw [List.nil_append] at h72
  obtain ⟨-, x0, -⟩ := pbox1 h71
  have HO := hide h72
  have HBL := hide (show Below w.heap.size w w7 from HW.out.trans (h73.below (fun b hb => ⟨by omega, by simp [Value.ownBlock]⟩) (by have := HSZ.out; omega)))
  clear h71 h72 h73 h74 HK1 HK2 HS HW HZ
  go_wp2
  go_ret
  exact ⟨_, rfl, HO.out, HBL.out⟩
end Go.Proofs.YtneecjikdghchaaDoor
