/- term.Check, walked. -/
import Derived.Test.YtneecjikdghchaaDoorChk
set_option linter.unusedSimpArgs false
set_option linter.unusedVariables false
namespace Go.Proofs.YtneecjikdghchaaDoor
open Go.RowKit Go.Shelf
attribute [local go_sem] Oper.semAt_some

set_option maxHeartbeats 2000000 in
set_option maxRecDepth 100000 in
theorem check_calls (t : Tm) (A : Nat → Prop) (h : Int) (s : Value) (w : World) (hs : IsTm A w h s t) (hsz : t.size ≤ 1000000000) :
    Calls Tryd.prog 13 #[.agg #[.int .i64 h, s]] w fun e w' => e = .returned (.int .i64 (chk t)) ∧ Below w.heap.size w w' := by
  refine (callsIn_wide (n := 0)).1 ?_
  obtain ⟨rfl, a, c, rfl, hc1, hc2⟩ := hs.shape
  refine callsIn_of_wp_marks Tryd.func13 rfl trivial ?_ rfl
  simp only [Tryd.ntmps13, List.size_toArray, List.length_cons, List.length_nil, Nat.reduceAdd, Nat.reduceSub, Array.replicate_succ, Array.replicate_zero, List.push_toArray, List.append_toArray, List.nil_append, List.cons_append]
  gi_wp2_with fail
  refine ⟨trivial, rfl, (callsIn_wide.2 (parts_calls _ _ ⟨_, _, _, rfl⟩ _)).mono ?_⟩
  rintro e W ⟨rfl, hW⟩
  have HW := hide hW
  clear hW
  gi_wp2_with fail
  have hWa : W = allocs w [.cells #[.int .i64 t.h, .slice a t.args.length c] 24, .cells #[.int .i64 0] 3, .cells #[.int .i64 0] 3, .cells #[.bool false] 4, .cells #[.int .i64 t.h, .slice a t.args.length c] 24] := HW.out
  clear HW
  have hsW0 : W.heap.size = w.heap.size + 5 := by rw [hWa, allocs_size]; rfl
  have hsW1 : W.heap.size ≤ w.heap.size + 5 := by omega
  have hsW2 : w.heap.size + 5 ≤ W.heap.size := by omega
  clear hsW0
  have hbW : Below w.heap.size w W := by rw [hWa]; exact allocs_below _ _
  have e1 : W.heap[w.heap.size + 1]? = some (.cells #[.int .i64 0] 3 (0, 0)) := by rw [hWa]; exact allocs_get _ _ 1 _ rfl
  have e2 : W.heap[w.heap.size + 2]? = some (.cells #[.int .i64 0] 3 (0, 0)) := by rw [hWa]; exact allocs_get _ _ 2 _ rfl
  have e3 : W.heap[w.heap.size + 3]? = some (.cells #[.bool false] 4 (0, 0)) := by rw [hWa]; exact allocs_get _ _ 3 _ rfl
  have e4 : W.heap[w.heap.size + 4]? = some (.cells #[.int .i64 t.h, .slice a t.args.length c] 24 (0, 0)) := by rw [hWa]; exact allocs_get _ _ 4 _ rfl
  clear hWa
  have hT : Terms (fun b => w.heap.size ≤ b) W (.slice a t.args.length c) t.args :=
    RepD.frame (fun b hb hlt => hbW.block b hlt) (fun b hb h => by omega) _ _ hs.2
  have hmix : Tryd.prog.follows .mixedOrders = true := by kernel_rfl
  refine wp_range_out (gf := 46) (lb := #[.pointer (some ⟨w.heap.size + 4, 0, none⟩)]) (xs := rawT W t 1 (t.h, .slice a t.args.length c)) (S := CheckS w.heap.size W.heap.size) rfl (enters_of Tryd.func46 (by kernel_rfl) rfl)
    (parts1_seq W (fun b => w.heap.size ≤ b) _ (w.heap.size + 4) t (t.h, .slice a t.args.length c) ⟨by omega, by omega, by omega, by omega⟩ (fun b hb h => ⟨hb, by omega, by omega, by omega⟩) (fun b hb => hb.1) (by simp [World.cell?, e4]) (by simp [World.cell?, e4]) rfl hT hsz) (fun x => rfl)
    (CheckI w.heap.size W) (fun _ _ _ _ => False) ?frI (fun _ _ _ _ _ _ _ h _ _ => h)
    ⟨Keep.refl _ _, 0, 0, false, e1, e2, e3, rfl, rfl, rfl⟩ (fun b hb => hb.1)
    (fun O pre x a' Wx => ∃ Bx, Wx.heap[Bx]? = some (.cells #[.int .i64 x.2.1, x.2.2] 24 (0, 0)) ∧ ¬ O Bx ∧ W.heap.size ≤ Bx ∧ Bx < Wx.heap.size ∧ a' = { tmps := #[.agg #[.int .i64 t.h, .slice a t.args.length c], .pointer (some ⟨w.heap.size, 0, none⟩), .int .i64 0, .pointer (some ⟨w.heap.size + 1, 0, none⟩), .pointer (some ⟨w.heap.size + 2, 0, none⟩), .pointer (some ⟨w.heap.size + 3, 0, none⟩), .int .i64 x.1, .pointer (some ⟨Bx, 0, none⟩), .agg #[.int .i64 t.h, .slice a t.args.length c], .func (.func 46) #[] #[.pointer (some ⟨w.heap.size + 4, 0, none⟩)], .int .i64 x.1, .agg #[.int .i64 x.2.1, x.2.2], undef, undef, undef, undef, undef, undef, undef, undef, undef, undef, undef, undef, undef, undef, undef, undef, undef, undef, undef, undef, undef, undef, undef, undef, undef, undef, undef, undef, undef, undef, undef, undef, undef, undef, undef, undef, undef, undef, undef, undef, undef], defers := [] }) ?hAx ?assign ?body ?done (fun _ _ _ _ _ _ _ _ _ h => h.elim)
  case frI =>
    rintro pre O O' Wx Wx' hO ⟨hk0, n, m, z, h1, h2, h3, h4, h5, h6⟩ hk hO'
    exact ⟨hk0.trans (hk.mono fun b _ hb h => by have := (hO b h).1; have := hb.1; omega), n, m, z, hk.obj (fun h => by have := (hO _ h).1; omega) h1, hk.obj (fun h => by have := (hO _ h).1; omega) h2, hk.obj (fun h => by have := (hO _ h).1; omega) h3, h4, h5, h6⟩
  case hAx =>
    rintro O pre x a' Wx Wx' ⟨Bx, h1, h2, h3, h4, h5⟩ hk
    exact ⟨Bx, hk.obj h2 h1, h2, h3, Nat.lt_of_lt_of_le h4 hk.size, h5⟩
  case assign =>
    intro l O pre x Wx K hpx hI hO hK
    obtain ⟨xa, xn, xc, hxe⟩ := raw_mem_shape rfl hT (pre_mem hpx)
    obtain ⟨hk, -⟩ := hI
    have hsz := hk.size
    clear hpx hk
    obtain ⟨xd, xh, xs⟩ := x
    simp only at hxe
    subst hxe
    simp only [encP]
    have HK := hide hK
    clear hK e1 e2 e3 e4
    gi_wp2
    exact HK.out _ _ ((Keep.refl _ _).alloc _) ⟨Wx.heap.size, World.alloc_heap_new _ _, fun h => by have := (hO _ h).2; omega, by omega, by simp, rfl⟩
  case body =>
    rintro l O pre x a' Wx hpx hO hOl hrec hkx ⟨hk0, n, m, z, h1, h2, h3, hn, hm, hz⟩ ⟨Bx, hBx1, hBx2, hBx3, hBx4, rfl⟩
    obtain ⟨xa, xn, xc, hxe⟩ := raw_mem_shape rfl hT (pre_mem hpx)
    have hlen : pre.length < 1000000000 := by
      have h1 := hpx.length_le
      have h2 := (rawT_pre t 1 (t.h, .slice a t.args.length c) rfl hT).length
      have h3 := preT_length 1 t
      simp at h1; omega
    clear hpx e1 e2 e3 e4
    obtain ⟨xd, xh, xs⟩ := x
    simp only at hxe hBx1
    subst hxe
    have HN := hide hn
    have HM := hide hm
    have HZ := hide hz
    have hn0 : 0 ≤ n := by omega
    have hn1 : n < 1000000000 := by omega
    clear hn hm hz
    have k1 := cell_of_one h1
    have k2 := cell_of_one h2
    have k3 := cell_of_one h3
    have f1 := free_of_one h1
    have f2 := free_of_one h2
    have f3 := free_of_one h3
    have c0 : Wx.cell? ⟨Bx, 0, none⟩ = some (.int .i64 xh) := by simp [World.cell?, hBx1]
    have c1' : Wx.cell? ⟨Bx, 1, none⟩ = some (.slice xa xn xc) := by simp [World.cell?, hBx1]
    have hlt : w.heap.size + 5 ≤ Wx.heap.size := by have := hk0.size; omega
    clear hBx1
    have hw : IntKind.i64.wrap (n + 1) = n + 1 := IntWalk.i64_in _ (by omega)
    gi_wp2
    refine cut_in (fun a' w' => a' = { tmps := #[.agg #[.int .i64 t.h, .slice a t.args.length c], .pointer (some ⟨w.heap.size, 0, none⟩), .int .i64 0, .pointer (some ⟨w.heap.size + 1, 0, none⟩), .pointer (some ⟨w.heap.size + 2, 0, none⟩), .pointer (some ⟨w.heap.size + 3, 0, none⟩), .int .i64 xd, .pointer (some ⟨Bx, 0, none⟩), .agg #[.int .i64 t.h, .slice a t.args.length c], .func (.func 46) #[] #[.pointer (some ⟨w.heap.size + 4, 0, none⟩)], .int .i64 xd, .agg #[.int .i64 xh, .slice xa xn xc], .int .i64 n, .int .i64 (n + 1), .int .i64 m, .int .i64 xd, .int .i64 (if m < xd then xd else m), undef, undef, undef, undef, undef, undef, undef, undef, undef, undef, undef, undef, undef, undef, undef, undef, undef, undef, undef, undef, undef, undef, undef, undef, undef, undef, undef, undef, undef, undef, undef, undef, undef, undef, undef, undef], defers := [] } ∧ w' = ((Wx.setCell ⟨w.heap.size + 1, 0, none⟩ (.int .i64 (n + 1))).setCell ⟨w.heap.size + 2, 0, none⟩ (.int .i64 (if m < xd then xd else m))).drew) ?_ ?_
    · gi_region_with_o (fail)
      all_goals exact ⟨rfl, rfl⟩
    rintro _ _ ⟨rfl, HW2⟩
    rename_i W2
    have q1 : W2.heap[w.heap.size + 1]? = some (.cells #[.int .i64 (n + 1)] 3 (0, 0)) := by rw [HW2]; exact (Below.heap_setCell _ _ _ _ (by simp)).trans (setCell_box h1 _)
    have q2 : W2.heap[w.heap.size + 2]? = some (.cells #[.int .i64 (if m < xd then xd else m)] 3 (0, 0)) := by
      rw [HW2]; exact setCell_box ((Below.heap_setCell _ _ _ _ (by simp)).trans h2) _
    have hk2 : Keep (fun b => b ≠ w.heap.size + 1 ∧ b ≠ w.heap.size + 2) Wx W2 := by rw [HW2]; exact (((Keep.refl _ _).setCell (by simp) _).setCell (by simp) _).drew
    have q3 := hk2.obj ⟨by omega, by omega⟩ h3
    have r3 := cell_of_one q3
    have g3 := free_of_one q3
    have d0 := hk2.cell (p := ⟨Bx, 0, none⟩) ⟨by simp only; omega, by simp only; omega⟩ c0
    have d1 := hk2.cell (p := ⟨Bx, 1, none⟩) ⟨by simp only; omega, by simp only; omega⟩ c1'
    have hs2 := hk2.size
    clear HW2 hw k1 k2 k3 f1 f2 f3 c0 c1'
    have hOb : ∀ c, O c → w.heap.size + 4 ≤ c := fun c hc => by have := (hO c hc).1; omega
    have fin : ∀ (v : Bool) (a' : Act), v = (pre.any badR || badR (xd, xh, .slice xa xn xc)) → postI (CheckS w.heap.size W.heap.size) O (CheckI w.heap.size W) (fun _ _ _ _ => False) (pre ++ [(xd, xh, .slice xa xn xc)]) Wx .normal a' (W2.setCell ⟨w.heap.size + 3, 0, none⟩ (.bool v)) :=
      fun v a' hv => check_close hk0 hOb hk2 q1 q2 q3 HN.out HM.out hv
    have FIN := hide fin
    clear fin
    rw [← HZ.out] at FIN
    cases z
    · rcases Nat.eq_zero_or_pos xn with rfl | hxn
      · gi_wp2
        all_goals refine FIN.out _ _ ?_
        all_goals rw [badR_eq, Bool.false_or]
        all_goals (rw [Bool.eq_iff_iff]; simp only [Bool.or_eq_true, Bool.and_eq_true, decide_eq_true_eq, true_iff]; omega)
      · gi_wp2
        all_goals refine FIN.out _ _ ?_
        all_goals rw [badR_eq, Bool.false_or]
        all_goals (rw [Bool.eq_iff_iff]; simp only [Bool.or_eq_true, Bool.and_eq_true, decide_eq_true_eq, true_iff]; omega)
    · gi_wp2_with (refine wpListIn_skip rfl rfl ?_)
      all_goals refine FIN.out _ _ ?_
      all_goals simp
  case done =>
    intro O Wx hO hOw hkx hdef ⟨hk0, n, m, z, h1, h2, h3, hn, hm, hz⟩
    obtain ⟨r1, r2, r3⟩ := check_raw_eq (r := (t.h, .slice a t.args.length c)) rfl hT
    rw [r1] at hn
    rw [r2] at hm
    rw [r3] at hz
    subst hn hm hz
    have k1 := cell_of_one h1
    have k2 := cell_of_one h2
    have k3 := cell_of_one h3
    have hB : Below w.heap.size w Wx := hbW.trans (hk0.below (fun b hb => ⟨by omega, by omega, by omega, by omega⟩) (by omega))
    have hszx := hk0.size
    have fin : ∀ (tm : Array Value) (v : Int), tm[2]? = some (.int .i64 v) → v = chk t → LeavesInM Fence.wide 0 Tryd.prog Tryd.f13 tm (fun e w' => e = .returned (.int .i64 (chk t)) ∧ Below w.heap.size w w') (marks [W.heap.size]) .returning Wx := by
      intro tm v h1 h2
      refine leaves_marks [W.heap.size] Wx ⟨by simp, fun D hD => by simp at hD; subst hD; exact hdef⟩ fun W' hk => ⟨_, results_tmp rfl _ _ _, ?_, hB.trans (hk.below (fun b hb => by simp; omega) (by omega))⟩
      simp [h1, h2, Array.getD_eq_getD_getElem?]
    have FIN := hide fin
    clear fin e1 e2 e3 e4 h1 h2 h3 hkx r1 r2 r3
    have g0 : ∀ {x y : Nat}, ¬ y < x → (decide ((y : Int) < x)) = false := fun h => by simpa using h
    by_cases c1 : 400 < t.size
    · gi_wp2
      exact FIN.out _ _ rfl (by simp [chk, c1])
    · by_cases c2 : 40 < t.depth
      · gi_wp2
        exact FIN.out _ _ rfl (by simp [chk, c1, c2])
      · cases c3 : t.good
        · have C3 := hide c3
          rw [c3] at k3
          clear c3
          gi_wp2
          exact FIN.out _ _ rfl (by simp [chk, c1, c2, C3.out])
        · have C3 := hide c3
          rw [c3] at k3
          clear c3
          gi_wp2
          exact FIN.out _ _ rfl (by simp [chk, c1, c2, C3.out])
end Go.Proofs.YtneecjikdghchaaDoor
