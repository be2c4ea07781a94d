/- What the proof of the law rests on: contracts of the functions, plain laws, and words. -/
import Derived.Test.YthplndalbfcbbaaKMatchUnifiesG10
import Derived.Test.YthplndalbfcbbaaKMatchUnifiesG12
set_option linter.unusedSimpArgs false
set_option linter.unusedVariables false
namespace Go.Proofs.Ythplndalbfcbbaa
open Go.RowKit
theorem exec_look {P : Program} {W : World} {o : Oper} {a : Act} (m x : Operand) (t : TypeId) (ho : o.op = .lookup t m x true) {mv xv v : Value} (hm : a.eval m = mv) (hx : a.eval x = xv) (hrun : (Instr.lookup t mv xv true).run P W = .ok v W) : (execOp a.eval o).run P W = .ok (.value v) W := by
  simp [execOp, ho, hm, hx, hrun, Result.andThen]
def OldA (sb : Nat) (A : Nat → Prop) : Nat → Prop := fun b => sb ≤ b ∨ A b
structure SolAt (A : Nat → Prop) (w : World) (sb ss : Nat) (f : Env) : Prop where
  cell : w.heap[ss]? = some (.cells #[.map (some sb)] 131 (0, 0))
  env : MapEnv (OldA sb A) w sb f
  lt : sb < ss
theorem SolAt.keep {A S : Nat → Prop} {w w' : World} {sb ss : Nat} {f : Env} (h : SolAt A w sb ss f) (hk : Keep S w w') (hS : ∀ b, b ≤ ss → S b) : SolAt A w' sb ss f :=
  ⟨hk.obj (hS _ (Nat.le_refl _)) h.cell, h.env.keep hk (hS _ (Nat.le_of_lt h.lt)) (fun c _ hc => hS c (by have := h.lt; simp only [OldA, not_or] at hc; omega)), h.lt⟩
theorem SolAt.below {A : Nat → Prop} {w w' : World} {sb ss : Nat} {f : Env} (h : SolAt A w sb ss f) (hB : Below w.heap.size w w') : SolAt A w' sb ss f := h.keep (S := fun _ => True) (.of_below hB) (fun _ _ => trivial)
theorem SolAt.lt_size {A : Nat → Prop} {w : World} {sb ss : Nat} {f : Env} (h : SolAt A w sb ss f) : ss < w.heap.size := (Array.getElem?_eq_some_iff.1 h.cell).1
theorem SolAt.load {A : Nat → Prop} {w : World} {sb ss : Nat} {f : Env} (h : SolAt A w sb ss f) : w.cell? ⟨ss, 0, none⟩ = some (.map (some sb)) := (box1 h.cell).2.1
theorem SolAt.look {A : Nat → Prop} {w : World} {sb ss : Nat} {f : Env} (h : SolAt A w sb ss f) {x : Int} (h0 : 0 ≤ x) (h1 : x ≤ 255) :
    ∃ v is, (Instr.lookup 97 (.map (some sb)) (.int .i64 x) true).run Try.prog w = .ok (.tuple #[v, .bool is]) w ∧ (∀ W', Below w.heap.size w W' → (Instr.lookup 97 (.map (some sb)) (.int .i64 x) true).run Try.prog W' = .ok (.tuple #[v, .bool is]) W') ∧ is = (f x).isSome ∧ (∃ hh ad n cp, v = .agg #[.int .i64 hh, .slice ad n cp] ∧ ∀ t, f x = some t → IsTm (OldA sb A) w hh (.slice ad n cp) t) := by
  obtain ⟨F, h2, h3⟩ := h.env
  have hr := h2.look Try.underlying3 Try.underlying97 (zeroTerm w) (x := x) (by omega) (by omega)
  refine ⟨_, _, hr, fun W' hB => (h2.keep (S := fun _ => True) (.of_below hB) trivial).look Try.underlying3 Try.underlying97 (zeroTerm W') (x := x) (by omega) (by omega), ?_, ?_⟩
  · cases hf : f x with
    | none => rw [(h3 x).1 hf]; rfl
    | some t => obtain ⟨s, hs, -⟩ := (h3 x).2 t hf; rw [hs]; rfl
  · cases hf : f x with
    | none => rw [(h3 x).1 hf]; exact ⟨_, none, 0, 0, rfl, fun t ht => by cases ht⟩
    | some t =>
      obtain ⟨s, hs, ht⟩ := (h3 x).2 t hf
      rw [hs]
      obtain ⟨ad, cp, rfl, -, -⟩ := ht.shape
      exact ⟨_, ad, _, cp, rfl, fun u hu => by cases hu; exact ⟨rfl, ht⟩⟩
def hOf (w : World) (b : Nat) : Int := match w.cell? ⟨b, 0, none⟩ with
  | some (.int _ h) => h
  | _ => 0
def atM (S : Sub) (w : World) (b : Nat) : Nat := if hOf w b < 0 then rankU S (-1 - hOf w b) + 1 else 0
theorem hOf_box {w : World} {b : Nat} {h : Int} {s : Value} {t : TypeId} (hb : w.heap[b]? = some (.cells #[.int .i64 h, s] t (0, 0))) : hOf w b = h := by
  unfold hOf; rw [(box2 hb).2.1]
def AtPost (A : Nat → Prop) (sb : Nat) (f : Env) (t : Tm) (w : World) (e : Ending) (w' : World) : Prop :=
  ∃ (r : Tm) (s' : Value), e = .returned (.agg #[.int .i64 r.h, s']) ∧ IsTm (OldA sb A) w' r.h s' r ∧ Leads f t r ∧ r.good = true ∧ (r.h < 0 → f (-1 - r.h) = none) ∧ Below w.heap.size w w'
set_option maxHeartbeats 4000000 in
set_option maxRecDepth 100000 in
theorem at_calls (A : Nat → Prop) (sb ss : Nat) (f : Env) (S : Sub) (hS : Solved f S) (t : Tm) (h : Int) (s : Value) (w : World) (hg : t.good = true) (hsol : SolAt A w sb ss f) (ht : IsTm (OldA sb A) w h s t) :
    Calls Try.prog 153 #[.pointer (some ⟨ss, 0, none⟩), .agg #[.int .i64 h, s]] w fun e w' => AtPost A sb f t w e w' := by
  obtain ⟨rfl, a, c, rfl, hlc, hc⟩ := ht.shape
  have HT := hide ht
  have HSO := hide hsol
  have HG := hide hg
  clear hsol ht hg
  go_enter Try.func153, Try.ntmps153
  refine seq_cut (fun a' w' => a' = { tmps := #[.pointer (some ⟨ss, 0, none⟩), .agg #[.int .i64 t.h, .slice a t.args.length c], undef, .pointer (some ⟨w.heap.size, 0, none⟩), .pointer (some ⟨w.heap.size + 1, 0, none⟩), undef, undef, undef, undef, undef, undef, undef, undef, undef, undef, undef, undef, undef, undef, undef, undef, undef, undef, undef, undef], defers := [] } ∧ w' = (w.alloc (.cells #[.int .i64 t.h, .slice a t.args.length c] 25)).alloc (.cells #[.int .i64 0, .slice none 0 0] 25)) ?_ ?_
  · go_wp2
    first | done | exact ⟨rfl, rfl⟩ | exact ⟨trivial, trivial⟩
  rintro _ W ⟨rfl, HW⟩
  have hWa : W = allocs w [.cells #[.int .i64 t.h, .slice a t.args.length c] 25, .cells #[.int .i64 0, .slice none 0 0] 25] := HW
  have hB : Below w.heap.size w W := by rw [hWa]; exact allocs_below _ _
  have b0 : W.heap[w.heap.size]? = some (.cells #[.int .i64 t.h, .slice a t.args.length c] 25 (0, 0)) := by rw [hWa]; exact allocs_get _ _ 0 _ rfl
  have b1 : W.heap[w.heap.size + 1]? = some (.cells #[.int .i64 0, .slice none 0 0] 25 (0, 0)) := by rw [hWa]; exact allocs_get _ _ 1 _ rfl
  clear HW hWa
  have hssw : ss < w.heap.size := HSO.out.lt_size
  go_wp2
  go_loopw [] (fun wr => ∃ (r : Tm) (s' : Value), Leads f t r ∧ r.good = true ∧ IsTm (OldA sb A) wr r.h s' r ∧ wr.heap[w.heap.size]? = some (.cells #[.int .i64 r.h, s'] 25 (0, 0)) ∧ wr.heap[w.heap.size + 1]? = some (.cells #[.int .i64 0, .slice none 0 0] 25 (0, 0)) ∧ SolAt A wr sb ss f ∧ Below w.heap.size w wr) (fun wr => atM S wr w.heap.size)
  case atStart => exact ⟨t, _, .refl _, HG.out, HT.out.below hB, b0, b1, HSO.out.below hB, hB⟩
  case round =>
    obtain ⟨r, s', hld, hgr, hT, x0, x1, hso, hBr⟩ := hrel
    obtain ⟨-, ar, cr, rfl, -, -⟩ := hT.shape
    have hfin : (r.h < 0 → f (-1 - r.h) = none) → Hid (∀ W4 : World, Keep (fun b => b ≠ w.heap.size + 1) wr W4 → AtPost A sb f t w (.returned (.agg #[.int .i64 r.h, .slice ar r.args.length cr])) W4) := fun hf => hide fun W4 hk4 => ⟨r, _, rfl, ⟨rfl, hT.2.keep hk4 (fun b hb hnb e => hnb (.inl (by have := hso.lt; omega)))⟩, hld, hgr, hf, hBr.trans (hk4.below (fun b hb e => by omega) hBr.size)⟩
    obtain ⟨xw, y0, y1, y2, y3⟩ := box2 x0
    by_cases hneg : r.h < 0
    · have hgo := good_args hgr
      obtain ⟨v, is, hrun, hrunW, his, hh, av, nv, cv, rfl, hTv⟩ := hso.look (x := -1 - r.h) (by omega) (by omega)
      have hl := hso.load
      have hw1 : IntKind.i64.wrap (-1 - r.h) = -1 - r.h := IntWalk.i64_in _ (by omega)
      have HSO' := hide hso
      have HTV := hide hTv
      have HIS := hide his
      have hst : Hid (∀ W', Below wr.heap.size wr W' → W'.cell? ⟨ss, 0, none⟩ = some (.map (some sb)) ∧ W'.cell? ⟨w.heap.size, 0, none⟩ = some (.int .i64 r.h) ∧ (Instr.lookup 97 (.map (some sb)) (.int .i64 (-1 - r.h)) true).run Try.prog W' = .ok (.tuple #[.agg #[.int .i64 hh, (.slice av nv cv)], .bool is]) W') := hide fun W' hW => ⟨(hso.below hW).load, (box2 ((hW.block _ xw).trans x0)).2.1, hrunW W' hW⟩
      clear hso hrun hrunW hTv his hl
      go_wp2
      refine drawn_text (fun W' => W'.cell? ⟨ss, 0, none⟩ = some (.map (some sb)) ∧ W'.cell? ⟨w.heap.size, 0, none⟩ = some (.int .i64 r.h) ∧ (Instr.lookup 97 (.map (some sb)) (.int .i64 (-1 - r.h)) true).run Try.prog W' = .ok (.tuple #[.agg #[.int .i64 hh, (.slice av nv cv)], .bool is]) W') [false, false, false, false, false, false, false, false, false, false, false, true, true, false] [some 11, some 12, some 13, some 14, some 15, some 16, some 17, some 18, some 10, some 19, some 20, some 5, none, some 6] (by kernel_rfl) rfl (by kernel_rfl) (by kernel_rfl) (by kernel_rfl) (fun _ _ _ _ _ h => h) (hst.out _ (Below.refl _ _).drew) ?_
      iterate 7 (refine txt_take (v := ?_) rfl ?_ ?_; rotate_left; (intro w hS; obtain ⟨hS0, hS1, hS2⟩ := hS; go_simp; try with_reducible rfl); simp only [Act.put, List.setIfInBounds_toArray, List.set_cons_zero, List.set_cons_succ])
      refine txt_take (v := .tuple #[.agg #[.int .i64 hh, (.slice av nv cv)], .bool is]) rfl (fun w hS => exec_look (.tmp 14) (.tmp 17) 97 rfl rfl rfl hS.2.2) ?_
      simp only [Act.put, List.setIfInBounds_toArray, List.set_cons_zero, List.set_cons_succ]
      iterate 3 (refine txt_take (v := ?_) rfl ?_ ?_; rotate_left; (intro w hS; obtain ⟨hS0, hS1, hS2⟩ := hS; go_simp; try with_reducible rfl); simp only [Act.put, List.setIfInBounds_toArray, List.set_cons_zero, List.set_cons_succ])
      refine txt_do rfl ?_
      intro K hK
      go_simp
      have hB1 : Below wr.heap.size wr (wr.alloc (.cells #[.int .i64 0, .slice none 0 0] 25)).drew := ((Below.refl wr.heap.size wr).alloc (Nat.le_refl _) (.cells #[.int .i64 0, .slice none 0 0] 25)).drew
      have hn : (wr.alloc (.cells #[.int .i64 0, .slice none 0 0] 25)).drew.heap[wr.heap.size]? = some (.cells #[.int .i64 0, .slice none 0 0] 25 (0, 0)) := World.alloc_heap_new _ _
      refine hK.out _ _ (hst.out _ hB1) ?_
      clear hK K
      generalize (wr.alloc (.cells #[.int .i64 0, .slice none 0 0] 25)).drew = W1 at *
      obtain ⟨-, n0, n1, n2, n3⟩ := box2 hn
      have hn2 := box2_set hn (.int .i64 hh) (.slice av nv cv)
      have hB2 : Below wr.heap.size wr ((W1.setCell ⟨wr.heap.size, 0, none⟩ (.int .i64 hh)).setCell ⟨wr.heap.size, 1, none⟩ (.slice av nv cv)) := set2_below hB1 (Nat.le_refl _) _ _
      refine txt_do rfl ?_
      intro K hK
      go_simp
      refine hK.out _ _ (hst.out _ hB2) ?_
      clear hK K
      generalize ((W1.setCell ⟨wr.heap.size, 0, none⟩ (.int .i64 hh)).setCell ⟨wr.heap.size, 1, none⟩ (.slice av nv cv)) = W2 at *
      iterate 1 (refine txt_take (v := ?_) rfl ?_ ?_; rotate_left; (intro w hS; obtain ⟨hS0, hS1, hS2⟩ := hS; go_simp; try with_reducible rfl); simp only [Act.put, List.setIfInBounds_toArray, List.set_cons_zero, List.set_cons_succ])
      refine txt_done ?_
      obtain ⟨-, m0, m1, m2, m3⟩ := box2 hn2
      have x0' := (hB2.block _ xw).trans x0
      have x1' := (hB2.block _ (Array.getElem?_eq_some_iff.1 x1).1).trans x1
      obtain ⟨-, p0, p1, p2, p3⟩ := box2 x0'
      have HSO2 := hide (HSO'.out.below hB2)
      have HBr2 := hide (more_below hBr hB2)
      clear n0 n1 n2 n3 hB1 hn y0 y1 y2 y3
      cases is
      · have HF := hide (hfin fun _ => by
          have := HIS.out
          cases hf : f (-1 - r.h) with
          | none => rfl
          | some u => rw [hf] at this; cases this)
        obtain ⟨-, q0, q1, q2, q3⟩ := box2 x1'
        obtain ⟨-, r0, r1, -, -⟩ := box2 (box2_set x1' (.int .i64 r.h) (.slice ar r.args.length cr))
        have HE := hide (HF.out _ (((Keep.of_below (S := fun b => b ≠ w.heap.size + 1) hB2).setCell (p := ⟨w.heap.size + 1, 0, none⟩) (by simp) (.int .i64 r.h)).setCell (p := ⟨w.heap.size + 1, 1, none⟩) (by simp) (.slice ar r.args.length cr)))
        clear hfin HF
        go_wp2
        exact bodyPost_ret (v := .agg #[.int .i64 r.h, .slice ar r.args.length cr]) (by simp [results, Try.results153, go_sem, r0, r1]) rfl HE.out
      · obtain ⟨u, hu⟩ : ∃ u, f (-1 - r.h) = some u := by
          have := HIS.out
          cases hf : f (-1 - r.h) with
          | none => rw [hf] at this; cases this
          | some u => exact ⟨u, rfl⟩
        have hTu := HTV.out u hu
        obtain rfl := hTu.1
        obtain ⟨-, a9, c9, hsl, -, -⟩ := hTu.shape
        obtain ⟨rfl, rfl, rfl⟩ : av = a9 ∧ nv = u.args.length ∧ cv = c9 := by simpa using hsl
        clear hsl
        have hk9 : Keep (fun b => b ≠ w.heap.size) W2 ((W2.setCell ⟨w.heap.size, 0, none⟩ (.int .i64 u.h)).setCell ⟨w.heap.size, 1, none⟩ (.slice av u.args.length cv)) := ((Keep.refl _ _).setCell (p := ⟨w.heap.size, 0, none⟩) (by simp) _).setCell (p := ⟨w.heap.size, 1, none⟩) (by simp) _
        have hT9 := hTu.2.below hB2
        have HREL := hide (show Leads f t u ∧ u.good = true ∧ IsTm (OldA sb A) ((W2.setCell ⟨w.heap.size, 0, none⟩ (.int .i64 u.h)).setCell ⟨w.heap.size, 1, none⟩ (.slice av u.args.length cv)) u.h (.slice av u.args.length cv) u ∧ ((W2.setCell ⟨w.heap.size, 0, none⟩ (.int .i64 u.h)).setCell ⟨w.heap.size, 1, none⟩ (.slice av u.args.length cv)).heap[w.heap.size]? = some (.cells #[.int .i64 u.h, .slice av u.args.length cv] 25 (0, 0)) ∧ ((W2.setCell ⟨w.heap.size, 0, none⟩ (.int .i64 u.h)).setCell ⟨w.heap.size, 1, none⟩ (.slice av u.args.length cv)).heap[w.heap.size + 1]? = some (.cells #[.int .i64 0, .slice none 0 0] 25 (0, 0)) ∧ SolAt A ((W2.setCell ⟨w.heap.size, 0, none⟩ (.int .i64 u.h)).setCell ⟨w.heap.size, 1, none⟩ (.slice av u.args.length cv)) sb ss f ∧ Below w.heap.size w ((W2.setCell ⟨w.heap.size, 0, none⟩ (.int .i64 u.h)).setCell ⟨w.heap.size, 1, none⟩ (.slice av u.args.length cv)) from
          ⟨hld.snoc hneg hu, (hS.rng _ _ hu).2.2, ⟨rfl, hT9.keep hk9 (fun b hb hnb e => hnb (.inl (by have := HSO2.out.lt; omega)))⟩, box2_set x0' _ _, hk9.obj (by omega) x1', HSO2.out.keep hk9 (fun b hb e => by omega), set2_below HBr2.out (Nat.le_refl _) _ _⟩)
        have HM := hide (show atM S ((W2.setCell ⟨w.heap.size, 0, none⟩ (.int .i64 u.h)).setCell ⟨w.heap.size, 1, none⟩ (.slice av u.args.length cv)) w.heap.size < atM S wr w.heap.size by
          have e1 := hOf_box x0
          have e2 := hOf_box (box2_set x0' (.int .i64 u.h) (.slice av u.args.length cv))
          unfold atM
          rw [e1, e2, if_pos hneg]
          split
          · rename_i hn
            have := rank_step hS hu (u := -1 - u.h) ⟨by omega, by rw [show -1 - (-1 - u.h) = u.h by omega, Tm.heads_eq]; exact List.mem_cons_self⟩
            omega
          · omega)
        clear hfin hk9 hT9 hTu
        go_wp2
        go_roundw
        case rel => exact ⟨u, _, HREL.out⟩
        case measure => exact HM.out
    · have HF := hide (hfin fun h => absurd h hneg)
      have hso' := hide hso
      obtain ⟨-, q0, q1, q2, q3⟩ := box2 x1
      obtain ⟨-, r0, r1, -, -⟩ := box2 (box2_set x1 (.int .i64 r.h) (.slice ar r.args.length cr))
      have HE := hide (HF.out _ (((Keep.refl (fun b => b ≠ w.heap.size + 1) _).setCell (p := ⟨w.heap.size + 1, 0, none⟩) (by simp) (.int .i64 r.h)).setCell (p := ⟨w.heap.size + 1, 1, none⟩) (by simp) (.slice ar r.args.length cr)))
      clear hfin HF hso
      go_wp2
      exact bodyPost_ret (v := .agg #[.int .i64 r.h, .slice ar r.args.length cr]) (by simp [results, Try.results153, go_sem, r0, r1]) rfl HE.out
end Go.Proofs.Ythplndalbfcbbaa
