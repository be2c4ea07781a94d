/- term.Vars, walked. -/
import Derived.Test.YthplndalbfcbbaaCheck
import Derived.Test.YthplndalbfcbbaaVars
import Derived.Test.YthplndalbfcbbaaHas
set_option linter.unusedSimpArgs false
set_option linter.unusedVariables false
namespace Go.Proofs.Ythplndalbfcbbaa
open Go.RowKit Go.Shelf
attribute [local go_sem] Oper.semAt_some

theorem flat_ints : ∀ l : List Int, (l.map fun n => [Value.int .i64 n]).flatten = l.map (Value.int .i64)
  | [] => rfl
  | x :: l => by rw [List.map_cons, List.flatten_cons, flat_ints l, List.map_cons]; rfl
theorem Ints.of_own {A : Nat → Prop} {w : World} {base e : Nat} {v : Value} {l : List Int} (h : w.ownsRow base e 1 v l.length (l.map (Value.int .i64))) (hA : ∀ b, v.ownBlock = some b → ¬ A b) : Ints A w v l := by
  simp only [Ints, RepD]
  rcases h.2 with ⟨hv, h0⟩ | ⟨g, cap, cur, hv, hg, hh, hn, hm, hs, ht⟩
  · exact ⟨none, 0, 0, by rw [hv], by simp [h0], by omega, by omega, by omega⟩
  · refine ⟨_, _, _, by rw [hv], by simp, hn, by simpa [maxLen] using hm, fun h0 => ⟨g, 0, rfl, (Array.getElem?_eq_some_iff.1 hh).1, hA g (by rw [hv]; rfl), ?_⟩⟩
    have hfl := flat_ints l
    refine RepR.of (l.map fun n => [Value.int .i64 n]) _ 0 (by simp) (fun j hj => ?_) ?_
    · rw [hfl] at hj ⊢
      have := h.cells (g := g) (by rw [hv]; rfl) j ((l.map (Value.int .i64))[j]) (by simp)
      rw [add_plain] at this
      rw [Nat.zero_add, this, List.getElem?_eq_getElem hj]
    · clear hfl h hv hh hn hm hs ht h0 hA
      induction l with
      | nil => exact .nil
      | cons x l ih => exact .cons (by simp [intD, RepD]) ih

structure VarsInv (n0 : Nat) (W : World) (O : Nat → Prop) (l : List Int) (v : Value) (Wx : World) : Prop where
  box : Wx.heap[n0 + 1]? = some (.cells #[v] 37 (0, 0))
  row : Wx.ownsRow W.heap.size 3 1 v l.length (l.map (Value.int .i64))
  ne : ∀ b, v.ownBlock = some b → ¬ O b
  kp : Keep (fun b => b < W.heap.size ∧ b ≠ n0 + 1) W Wx
def VarsI (n0 : Nat) (W : World) (O : Nat → Prop) (pre : List Raw) (Wx : World) : Prop := ∃ v, VarsInv n0 W O (varsH (pre.map fun r => r.2.1)) v Wx
theorem varsI_framed (n0 : Nat) (W : World) (hn : n0 + 1 < W.heap.size) (pre : List Raw) : Framed W.heap.size fun O Wx => VarsI n0 W O pre Wx := by
  rintro O O' Wx Wx' hO ⟨v, h⟩ hk hO'
  refine ⟨v, hk.obj (fun h => by have := (hO _ h).1; omega) h.box, ownsRow_keep h.row hk (fun b hb => h.ne b hb), fun b hb hb' => ?_, h.kp.trans (hk.mono fun b _ hb h => by have := (hO b h).1; have := hb.1; omega)⟩
  rcases hO' b hb' with h' | h'
  · exact h.ne b hb h'
  · have := (h.row.lt b hb).2; omega

set_option maxHeartbeats 4000000 in
set_option maxRecDepth 100000 in
theorem tvars_calls (t : Tm) (A A2 : Nat → Prop) (h : Int) (s : Value) (w : World) (hA : ∀ b, A b → b < w.heap.size) (hs : IsTm A2 w h s t) (hsz : t.size ≤ 1000000000) (hr : ∀ h, h ∈ t.heads → -256 ≤ h ∧ h ≤ 1023) :
    Calls Try.prog 37 #[.agg #[.int .i64 h, s]] w fun e w' => ∃ v, e = .returned v ∧ Ints A w' v (varsT t) ∧ Below w.heap.size w w' := by
  refine (callsIn_wide (n := 0)).1 ?_
  obtain ⟨rfl, a, c, rfl, hc1, hc2⟩ := hs.shape
  refine callsIn_of_wp_marks Try.func37 rfl trivial ?_ rfl
  simp only [Try.ntmps37, List.size_toArray, List.length_cons, List.length_nil, Nat.reduceAdd, Nat.reduceSub, Array.replicate_succ, Array.replicate_zero, List.push_toArray, List.append_toArray, List.nil_append, List.cons_append]
  gi_wp2_with fail
  refine ⟨trivial, rfl, (callsIn_wide.2 (parts_calls _ _ ⟨_, _, _, rfl⟩ _)).mono ?_⟩
  rintro e W ⟨rfl, hW⟩
  have HW := hide hW
  clear hW
  gi_wp2_with fail
  have hWa : W = allocs w [.cells #[.int .i64 t.h, .slice a t.args.length c] 25, .cells #[.slice none 0 0] 37, .cells #[.int .i64 t.h, .slice a t.args.length c] 25] := HW.out
  clear HW
  have hsW0 : W.heap.size = w.heap.size + 3 := by rw [hWa, allocs_size]; rfl
  have hsW1 : W.heap.size ≤ w.heap.size + 3 := by omega
  have hsW2 : w.heap.size + 3 ≤ W.heap.size := by omega
  clear hsW0
  have hbW : Below w.heap.size w W := by rw [hWa]; exact allocs_below _ _
  have e1 : W.heap[w.heap.size + 1]? = some (.cells #[.slice none 0 0] 37 (0, 0)) := by rw [hWa]; exact allocs_get _ _ 1 _ rfl
  have e2 : W.heap[w.heap.size + 2]? = some (.cells #[.int .i64 t.h, .slice a t.args.length c] 25 (0, 0)) := by rw [hWa]; exact allocs_get _ _ 2 _ rfl
  clear hWa
  have hT : Terms (fun b => w.heap.size ≤ b) W (.slice a t.args.length c) t.args :=
    RepD.frame (fun b hb hlt => hbW.block b hlt) (fun b hb h => by omega) _ _ hs.2
  refine wp_range_out (gf := 138) (lb := #[.pointer (some ⟨w.heap.size + 2, 0, none⟩)]) (xs := rawT W t 1 (t.h, .slice a t.args.length c)) (S := fun b => b < W.heap.size ∧ b ≠ w.heap.size + 1) rfl (enters_of Try.func138 (by kernel_rfl) rfl)
    (parts1_seq W (fun b => w.heap.size ≤ b) _ (w.heap.size + 2) t (t.h, .slice a t.args.length c) ⟨by omega, by omega⟩ (fun b hb h => ⟨hb, by omega⟩) (fun b hb => hb.1) (by simp [World.cell?, e2]) (by simp [World.cell?, e2]) rfl hT hsz) (fun x => rfl)
    (VarsI w.heap.size W) (fun _ _ _ _ => False) (varsI_framed _ _ (by omega)) (fun _ _ _ _ _ _ _ h _ _ => h)
    ⟨_, e1, World.ownsRow_nil _ _ _ _, fun b hb => by simp [Value.ownBlock] at hb, Keep.refl _ _⟩ (fun b hb => hb.1)
    (fun O pre x a' Wx => ∃ Bx, Wx.heap[Bx]? = some (.cells #[.int .i64 x.2.1, x.2.2] 25 (0, 0)) ∧ ¬ O Bx ∧ W.heap.size ≤ Bx ∧ Bx < Wx.heap.size ∧ a' = { tmps := #[.agg #[.int .i64 t.h, .slice a t.args.length c], .pointer (some ⟨w.heap.size, 0, none⟩), .slice none 0 0, .pointer (some ⟨w.heap.size + 1, 0, none⟩), undef, .pointer (some ⟨Bx, 0, none⟩), undef, .agg #[.int .i64 t.h, .slice a t.args.length c], .func (.func 138) #[] #[.pointer (some ⟨w.heap.size + 2, 0, none⟩)], .int .i64 x.1, .agg #[.int .i64 x.2.1, x.2.2], undef, undef, undef, undef, undef, undef, undef, undef, undef, undef, undef, undef, undef, undef, undef, undef], defers := [] }) ?hAx ?assign ?body ?done (fun _ _ _ _ _ _ _ _ _ h => h.elim)
  case hAx =>
    rintro O pre x a' Wx Wx' ⟨Bx, h1, h2, h3, h4, h5⟩ hk
    exact ⟨Bx, hk.obj h2 h1, h2, h3, Nat.lt_of_lt_of_le h4 hk.size, h5⟩
  case assign =>
    intro l O pre x Wx K hpx hI hO hK
    obtain ⟨xa, xn, xc, hxe⟩ := raw_mem_shape rfl hT (pre_mem hpx)
    obtain ⟨v, hI⟩ := hI
    have hsz := hI.kp.size
    clear hpx hI
    obtain ⟨xd, xh, xs⟩ := x
    simp only at hxe
    subst hxe
    simp only [encP]
    have HK := hide hK
    clear hK e1 e2
    gi_wp2
    exact HK.out _ _ ((Keep.refl _ _).alloc _) ⟨Wx.heap.size, World.alloc_heap_new _ _, fun h => by have := (hO _ h).2; omega, by omega, by simp, rfl⟩
  case body =>
    rintro l O pre x a' Wx hpx hO hOl hrec hkx ⟨v, hI⟩ ⟨Bx, hBx1, hBx2, hBx3, hBx4, rfl⟩
    obtain ⟨xa, xn, xc, hxe⟩ := raw_mem_shape rfl hT (pre_mem hpx)
    have hlen : pre.length < 1000000000 := by
      have h1 := hpx.length_le
      have h2 := (rawT_pre t 1 (t.h, .slice a t.args.length c) rfl hT).length
      have h3 := preT_length 1 t
      simp at h1; omega
    have hrx : -256 ≤ x.2.1 ∧ x.2.1 ≤ 1023 := by
      refine hr _ ?_
      rw [← raw_heads (r := (t.h, .slice a t.args.length c)) (W := W) (d := 1) rfl hT]
      exact List.mem_map.2 ⟨x, pre_mem hpx, rfl⟩
    have hll : (varsH (pre.map fun r => r.2.1)).length ≤ pre.length := by
      have := foldl_vstep_length (pre.map fun r => r.2.1) []
      simpa [varsH] using this
    have hsn : varsH ((pre ++ [x]).map fun r => r.2.1) = vstep (varsH (pre.map fun r => r.2.1)) x.2.1 := by rw [List.map_append, List.map_cons, List.map_nil, varsH_snoc]
    have HSN := hide hsn
    clear hpx e1 e2 hsn
    obtain ⟨xd, xh, xs⟩ := x
    simp only at hxe hBx1 hrx
    subst hxe
    generalize hL : varsH (pre.map fun r => r.2.1) = L at *
    clear hL
    have hbc := cell_of_one hI.box
    have hbf := free_of_one hI.box
    have c0 : Wx.cell? ⟨Bx, 0, none⟩ = some (.int .i64 xh) := by simp [World.cell?, hBx1]
    have hlt : w.heap.size + 3 ≤ Wx.heap.size := by have := hI.kp.size; omega
    have hw1 : IntKind.i64.wrap (-1 - xh) = -1 - xh := IntWalk.i64_in _ (by omega)
    obtain ⟨va, vc, rfl⟩ : ∃ va vc, v = .slice va L.length vc := by
      rcases hI.row.2 with ⟨h, h'⟩ | ⟨g, cap, cur, h, _⟩
      · exact ⟨none, 0, by rw [h, h']⟩
      · exact ⟨_, _, h⟩
    have hkeep : ∀ W', Below Wx.heap.size Wx W' → vstep L xh = L → ∀ a', postI (fun b => b < W.heap.size ∧ b ≠ w.heap.size + 1) O (VarsI w.heap.size W) (fun _ _ _ _ => False) (pre ++ [(xd, xh, .slice xa xn xc)]) Wx .normal a' W' := fun W' hB hv a' => by
      refine ⟨.of_below hB, .slice va L.length vc, ?_⟩
      rw [HSN.out, hv]
      have hk := Keep.of_below (S := fun _ => True) hB
      exact ⟨hk.obj trivial hI.box, ownsRow_keep hI.row hk (fun _ _ => trivial), hI.ne, hI.kp.trans (hk.mono fun _ _ _ => trivial)⟩
    have HKEEP := hide hkeep
    clear hkeep
    by_cases hneg : xh < 0
    · have hge : 0 ≤ -1 - xh := by omega
      gi_wp2_with fail
      refine ⟨trivial, rfl, (callsIn_wide.2 (contains_calls (-1 - xh) L (fun _ => False) _ _ (Ints.of_own hI.row fun _ _ h => h))).mono ?_⟩
      rintro e W1 ⟨rfl, hB1⟩
      cases hb : hasB (-1 - xh) L
      · have hnm : ¬ (-1 - xh) ∈ L := fun h => by rw [hasB_iff.2 h] at hb; cases hb
        have HV := hide (show vstep L xh = L ++ [-1 - xh] by unfold vstep; rw [if_pos ⟨hneg, hnm⟩])
        clear hb hnm
        have hk1 := Keep.of_below (S := fun _ => True) hB1
        have hbx1 := hk1.obj trivial hI.box
        have hrow1 := ownsRow_keep hI.row hk1 (fun _ _ => trivial)
        have hbc1 := cell_of_one hbx1
        have hbf1 := free_of_one hbx1
        have hbase : W.heap.size ≤ W1.heap.size := by have := hI.kp.size; have := hB1.size; omega
        have hs1 := hB1.size
        have hne := hI.ne
        have hkp := hI.kp
        clear hbc hbf c0 hBx1
        gi_wp2_with (gi_at_builtin; refine app_in rfl _ _ 37 rfl W.heap.size 3 (.int .i64 0) 1 8 Try.underlying37 (by kernel_rfl) rfl (by decide) (by decide) _ _ _ rfl hrow1 1 1 _ rfl (by simp [Value.oneCell']) rfl (by omega) hbase ?_; intro v' w1 r1 r2 r3 r4; obtain ⟨va', vc', rfl⟩ := r4; have hb1 := r2.obj (fun h => by have := (hrow1.lt _ h).1; omega) hbx1; have hc1 := cell_of_one hb1; have hf1 := free_of_one hb1)
        have hfin : postI (fun b => b < W.heap.size ∧ b ≠ w.heap.size + 1) O (VarsI w.heap.size W) (fun _ _ _ _ => False) (pre ++ [(xd, xh, .slice xa xn xc)]) Wx .normal { tmps := #[], defers := [] } (w1.setCell ⟨w.heap.size + 1, 0, none⟩ (.slice va' (L.length + 1) vc')) := by
          have hlv := hrow1.lt
          have hkk : Keep (fun b => b ≠ w.heap.size + 1 ∧ (Value.slice va L.length vc).ownBlock ≠ some b) Wx (w1.setCell ⟨w.heap.size + 1, 0, none⟩ (.slice va' (L.length + 1) vc')) :=
            (((Keep.of_below hB1).trans (r2.mono fun b _ h => h.2)).setCell (fun h => h.1 rfl) _)
          have hown' : ∀ b, (Value.slice va' (L.length + 1) vc').ownBlock = some b → (Value.slice va L.length vc).ownBlock = some b ∨ W1.heap.size < b := r3
          refine ⟨hkk.mono fun b hb h => ⟨?_, ?_⟩, .slice va' (L.length + 1) vc', ?_⟩
          · rcases h with h | h
            · exact h.2
            · have := (hO b h).1; omega
          · rcases h with h | h
            · intro e; have := (hI.row.lt b e).1; omega
            · intro e; exact hne b e h
          · rw [HSN.out, HV.out]
            refine ⟨setCell_box hb1 _, ?_, fun b hb hb' => ?_, ?_⟩
            · have := ownsRow_keep r1 ((Keep.refl (fun b => b ≠ w.heap.size + 1) w1).setCell (p := ⟨w.heap.size + 1, 0, none⟩) (by simp) (.slice va' (L.length + 1) vc')) (fun b hb => by
                rcases hown' b hb with h | h
                · have := (hlv b h).1; omega
                · omega)
              simpa using this
            · rcases hown' b hb with h | h
              · exact hne b h hb'
              · have := (hO b hb').2; omega
            · exact hkp.trans (hkk.mono fun b hb h => ⟨h.2, fun e => by have := (hI.row.lt b e).1; omega⟩)
        exact hfin
      · have HV := hide (show vstep L xh = L by unfold vstep; rw [if_neg (fun h => h.2 (hasB_iff.1 hb))])
        clear hb
        gi_wp2
        exact HKEEP.out _ hB1 HV.out _
    · have HV := hide (show vstep L xh = L by unfold vstep; rw [if_neg (fun h => hneg h.1)])
      have hge : ¬ 0 ≤ -1 - xh := by omega
      gi_wp2
      refine ⟨trivial, ?_⟩
      gi_wp2
      exact HKEEP.out _ (Below.refl _ _) HV.out _
  case done =>
    intro O Wx hO hOw hkx hdef ⟨v, hI⟩
    rw [raw_heads (r := (t.h, .slice a t.args.length c)) rfl hT] at hI
    have k1 := cell_of_one hI.box
    have hB : Below w.heap.size w Wx := hbW.trans (hI.kp.below (fun b hb => ⟨by omega, by omega⟩) (by omega))
    have hszx := hI.kp.size
    obtain ⟨va, vc, rfl⟩ : ∃ va vc, v = .slice va (varsH t.heads).length vc := by
      rcases hI.row.2 with ⟨h, h'⟩ | ⟨g, cap, cur, h, _⟩
      · exact ⟨none, 0, by rw [h, h']⟩
      · exact ⟨_, _, h⟩
    have fin : ∀ (tm : Array Value), tm[2]? = some (.slice va (varsH t.heads).length vc) → LeavesInM Fence.wide 0 Try.prog Try.f37 tm (fun e w' => ∃ v, e = .returned v ∧ Ints A w' v (varsT t) ∧ Below w.heap.size w w') (marks [W.heap.size]) .returning Wx := by
      intro tm h1
      refine leaves_marks [W.heap.size] Wx ⟨by simp, fun D hD => by simp at hD; subst hD; exact hdef⟩ fun W' hk => ⟨_, results_tmp rfl _ _ _, ?_⟩
      refine ⟨.slice va (varsH t.heads).length vc, by simp [h1, Array.getD_eq_getD_getElem?], ?_, hB.trans (hk.below (fun b hb => by simp; omega) (by omega))⟩
      exact Ints.of_own (ownsRow_keep hI.row hk (fun b hb => by simp; exact fun e => hI.ne b hb (e ▸ hOw))) fun b hb h => by have := (hI.row.lt b hb).1; have := hA b h; omega
    have FIN := hide fin
    clear fin e1 e2 hkx
    gi_wp2
    exact FIN.out _ rfl
end Go.Proofs.Ythplndalbfcbbaa
