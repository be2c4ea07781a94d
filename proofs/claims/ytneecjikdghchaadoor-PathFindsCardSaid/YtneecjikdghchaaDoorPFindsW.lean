/- PathFinds, walked. -/
import Derived.Test.YtneecjikdghchaaDoorCheck
import Derived.Test.YtneecjikdghchaaDoorPDropsP
import Derived.Test.YtneecjikdghchaaDoorFew5P
import Derived.Test.YtneecjikdghchaaDoorZTMatch
import Derived.Test.YtneecjikdghchaaDoorZTUSidesP
set_option linter.unusedSimpArgs false
set_option linter.unusedVariables false
namespace Go.Proofs.YtneecjikdghchaaDoor
section
open Go.RowKit Go.Shelf
attribute [local go_sem] Oper.semAt_some

def SizeS (b s : Nat) : Nat → Prop := fun x => x < s ∧ x ≠ b + 1
def SizeI (b : Nat) (W : World) (_ : Nat → Prop) (pre : List Raw) (Wx : World) : Prop := Keep (SizeS b W.heap.size) W Wx ∧ ∃ n : Int, Wx.heap[b + 1]? = some (.cells #[.int .i64 n] 3 (0, 0)) ∧ n = pre.length
set_option maxHeartbeats 2000000 in
set_option maxRecDepth 100000 in
theorem tsize_calls (t : Tm) (A : Nat → Prop) (h : Int) (s : Value) (w : World) (hs : IsTm A w h s t) (hsz : t.size ≤ 1000000000) :
    Calls Tryd.prog 9 #[.agg #[.int .i64 h, s]] w fun e w' => e = .returned (.int .i64 t.size) ∧ Below w.heap.size w w' := by
  refine (callsIn_wide (n := 0)).1 ?_
  obtain ⟨rfl, a, c, rfl, hc1, hc2⟩ := hs.shape
  refine callsIn_of_wp_marks Tryd.func9 rfl trivial ?_ rfl
  simp only [Tryd.ntmps9, List.size_toArray, List.length_cons, List.length_nil, Nat.reduceAdd, Nat.reduceSub, Array.replicate_succ, Array.replicate_zero, List.push_toArray, List.append_toArray, List.nil_append, List.cons_append]
  gi_wp2_with fail
  refine ⟨trivial, rfl, (callsIn_wide.2 (parts_calls _ _ ⟨_, _, _, rfl⟩ _)).mono ?_⟩
  rintro e W ⟨rfl, hW⟩
  have HW := hide hW
  clear hW
  gi_wp2_with fail
  have hWa : W = allocs w [.cells #[.int .i64 t.h, .slice a t.args.length c] 24, .cells #[.int .i64 0] 3, .cells #[.int .i64 t.h, .slice a t.args.length c] 24] := HW.out
  clear HW
  have hsW0 : W.heap.size = w.heap.size + 3 := by rw [hWa, allocs_size]; rfl
  have hsW1 : W.heap.size ≤ w.heap.size + 3 := by omega
  have hsW2 : w.heap.size + 3 ≤ W.heap.size := by omega
  clear hsW0
  have hbW : Below w.heap.size w W := by rw [hWa]; exact allocs_below _ _
  have e1 : W.heap[w.heap.size + 1]? = some (.cells #[.int .i64 0] 3 (0, 0)) := by rw [hWa]; exact allocs_get _ _ 1 _ rfl
  have e4 : W.heap[w.heap.size + 2]? = some (.cells #[.int .i64 t.h, .slice a t.args.length c] 24 (0, 0)) := by rw [hWa]; exact allocs_get _ _ 2 _ rfl
  clear hWa
  have hT : Terms (fun b => w.heap.size ≤ b) W (.slice a t.args.length c) t.args :=
    RepD.frame (fun b hb hlt => hbW.block b hlt) (fun b hb h => by omega) _ _ hs.2
  have hmix : Tryd.prog.follows .mixedOrders = true := by kernel_rfl
  refine wp_range_out (gf := 46) (lb := #[.pointer (some ⟨w.heap.size + 2, 0, none⟩)]) (xs := rawT W t 1 (t.h, .slice a t.args.length c)) (S := SizeS w.heap.size W.heap.size) rfl (enters_of Tryd.func46 (by kernel_rfl) rfl)
    (parts1_seq W (fun b => w.heap.size ≤ b) _ (w.heap.size + 2) t (t.h, .slice a t.args.length c) ⟨by omega, by omega⟩ (fun b hb h => ⟨hb, by omega⟩) (fun b hb => hb.1) (by simp [World.cell?, e4]) (by simp [World.cell?, e4]) rfl hT hsz) (fun x => rfl)
    (SizeI w.heap.size W) (fun _ _ _ _ => False) ?frI (fun _ _ _ _ _ _ _ h _ _ => h)
    ⟨Keep.refl _ _, 0, e1, rfl⟩ (fun b hb => hb.1)
    (fun O pre x a' Wx => a' = { tmps := #[.agg #[.int .i64 t.h, .slice a t.args.length c], .pointer (some ⟨w.heap.size, 0, none⟩), .int .i64 0, .pointer (some ⟨w.heap.size + 1, 0, none⟩), .agg #[.int .i64 t.h, .slice a t.args.length c], .func (.func 46) #[] #[.pointer (some ⟨w.heap.size + 2, 0, none⟩)], .int .i64 x.1, .agg #[.int .i64 x.2.1, x.2.2], undef, undef, undef], defers := [] }) ?hAx ?assign ?body ?done (fun _ _ _ _ _ _ _ _ _ h => h.elim)
  case frI =>
    rintro pre O O' Wx Wx' hO ⟨hk0, n, h1, h2⟩ hk hO'
    exact ⟨hk0.trans (hk.mono fun b _ hb h => by have := (hO b h).1; have := hb.1; omega), n, hk.obj (fun h => by have := (hO _ h).1; omega) h1, h2⟩
  case hAx =>
    rintro O pre x a' Wx Wx' h1 hk
    exact h1
  case assign =>
    intro l O pre x Wx K hpx hI hO hK
    obtain ⟨xd, xh, xs⟩ := x
    simp only [encP]
    have HK := hide hK
    clear hK e1 e4
    gi_wp2
    exact HK.out _ _ (Keep.refl _ _) rfl
  case body =>
    rintro l O pre x a' Wx hpx hO hOl hrec hkx ⟨hk0, n, h1, hn⟩ rfl
    have hlen : pre.length < 1000000000 := by
      have h1 := hpx.length_le
      have h2 := (rawT_pre t 1 (t.h, .slice a t.args.length c) rfl hT).length
      have h3 := preT_length 1 t
      simp at h1; omega
    clear hpx e1 e4
    have HN := hide hn
    have hn0 : 0 ≤ n := by omega
    have hn1 : n < 1000000000 := by omega
    clear hn
    have k1 := cell_of_one h1
    have f1 := free_of_one h1
    have hlt : w.heap.size + 3 ≤ Wx.heap.size := by have := hk0.size; omega
    have hw : IntKind.i64.wrap (n + 1) = n + 1 := IntWalk.i64_in _ (by omega)
    have hOb : ∀ c, O c → w.heap.size + 3 ≤ c := fun c hc => by have := (hO c hc).1; omega
    have fin : ∀ a' : Act, postI (SizeS w.heap.size W.heap.size) O (SizeI w.heap.size W) (fun _ _ _ _ => False) (pre ++ [x]) Wx .normal a' (Wx.setCell ⟨w.heap.size + 1, 0, none⟩ (.int .i64 (n + 1))) := fun a' => by
      have hk : Keep (fun c => SizeS w.heap.size W.heap.size c ∨ O c) Wx (Wx.setCell ⟨w.heap.size + 1, 0, none⟩ (.int .i64 (n + 1))) := by
        refine (Keep.refl _ _).setCell ?_ _
        rintro (h | h)
        · exact h.2 rfl
        · have := hOb _ h; simp only at this; omega
      exact ⟨hk, hk0.trans (hk.mono fun c _ h => .inl h), n + 1, setCell_box h1 _, by simp [HN.out]⟩
    have FIN := hide fin
    clear fin
    gi_wp2
    exact FIN.out _
  case done =>
    intro O Wx hO hOw hkx hdef ⟨hk0, n, h1, hn⟩
    obtain ⟨r1, -, -⟩ := check_raw_eq (r := (t.h, .slice a t.args.length c)) rfl hT
    rw [r1] at hn
    subst hn
    have k1 := cell_of_one h1
    have hB : Below w.heap.size w Wx := hbW.trans (hk0.below (fun b hb => ⟨by omega, by omega⟩) (by omega))
    have hszx := hk0.size
    have fin : ∀ (tm : Array Value), tm[2]? = some (.int .i64 t.size) → LeavesInM Fence.wide 0 Tryd.prog Tryd.f9 tm (fun e w' => e = .returned (.int .i64 t.size) ∧ Below w.heap.size w w') (marks [W.heap.size]) .returning Wx := by
      intro tm h1
      refine leaves_marks [W.heap.size] Wx ⟨by simp, fun D hD => by simp at hD; subst hD; exact hdef⟩ fun W' hk => ⟨_, results_tmp rfl _ _ _, ?_, hB.trans (hk.below (fun b hb => by simp; omega) (by omega))⟩
      simp [h1, Array.getD_eq_getD_getElem?]
    have FIN := hide fin
    clear fin e1 e4 h1 hkx r1
    gi_wp2
    exact FIN.out _ rfl
end
open Go.RowKit

/-! ### Purely -/
mutual
theorem makes_form {σ : Env} : ∀ (p t : Tm), Makes σ p t → formT p t = true
  | .node h l, t, hm => by
    rw [Makes] at hm
    rw [formT]
    by_cases hn : h < 0
    · rw [if_pos hn]
    · rw [if_neg hn] at hm ⊢
      obtain ⟨h1, h2⟩ := makesL_form l t.args hm.2
      rw [if_neg (fun h9 => h9.elim (fun h3 => h3 hm.1) (fun h3 => h3 h1))]
      exact h2
theorem makesL_form {σ : Env} : ∀ (ps ts : List Tm), MakesL σ ps ts → ps.length = ts.length ∧ formL ps ts = true
  | [], ts, hm => by
    rw [MakesL] at hm
    subst hm
    exact ⟨rfl, by rw [formL]⟩
  | p :: ps, [], hm => by rw [MakesL] at hm; exact hm.elim
  | p :: ps, t :: ts, hm => by
    rw [MakesL] at hm
    obtain ⟨h1, h2⟩ := makesL_form ps ts hm.2
    exact ⟨by simp [h1], by rw [formL, makes_form p t hm.1, h2]; rfl⟩
end
mutual
theorem sol_odds {τ : Sub} : ∀ (a b : Tm), app τ a = app τ b → oddsT a b = false
  | .node h l, .node h' l', he => by
    rw [oddsT]
    by_cases hn : h < 0 ∨ h' < 0
    · exact if_pos hn
    · rw [app, app, if_neg (by omega), if_neg (by omega)] at he
      simp only [Tm.node.injEq] at he
      obtain ⟨h1, h2⟩ := sols_odds l l' he.2
      exact (if_neg hn).trans ((if_neg (show ¬ (h ≠ h' ∨ l.length ≠ l'.length) from fun h9 => h9.elim (fun h3 => h3 he.1) (fun h3 => h3 h1))).trans h2)
theorem sols_odds {τ : Sub} : ∀ (a b : List Tm), appL τ a = appL τ b → a.length = b.length ∧ oddsL a b = false
  | [], [], _ => ⟨rfl, by rw [oddsL]⟩
  | [], t :: ts, he => by simp [appL] at he
  | p :: ps, [], he => by simp [appL] at he
  | p :: ps, t :: ts, he => by
    simp only [appL, List.cons.injEq] at he
    obtain ⟨h1, h2⟩ := sols_odds ps ts he.2
    exact ⟨by simp [h1], by rw [oddsL, sol_odds p t he.1, h2]; rfl⟩
end
theorem fit_unif0 {t u : Tm} (h : fitT 0 t u = true) : fitT 2 t u = true := by
  simp only [fitT, Bool.not_eq_true'] at h ⊢
  exact (odds_iff u t).2 fun q x y h1 h2 => by rw [(form_iff u t).1 h q x h1] at h2; exact Option.some.inj h2
theorem fit_unif1 {t u : Tm} (h : fitT 1 t u = true) : fitT 2 t u = true := by
  simp only [fitT, Bool.not_eq_true'] at h ⊢
  exact (odds_iff u t).2 fun q x y h1 h2 => by rw [(form_iff t u).1 h q y h2] at h1; exact (Option.some.inj h1).symm
theorem match_fit {u t : Tm} (h : (matchT [u] [t]).2.2 = 0) : chk u = 0 ∧ chk t = 0 ∧ ((matchT [u] [t]).2.1 = true → formT u t = true) := by
  rcases hm : matchT [u] [t] with ⟨l, x, e⟩
  rw [hm] at h
  simp only at h
  subst h
  obtain ⟨h1, h2, h3⟩ := match_iff hm
  refine ⟨by simpa [rightB] using h1, by simpa [rightB] using h2, fun hx => ?_⟩
  obtain ⟨σ, hσ⟩ := h3.1 hx
  exact makes_form u t hσ
theorem mgu_fit {u t : Tm} (h : (unifyT [u] [t]).2.2 = 0) (hx : (unifyT [u] [t]).2.1 = true) : oddsT u t = false := by
  obtain ⟨τ, hτ⟩ := (ok_of_sol h).1.1 hx
  exact sol_odds u t (hτ (u, t) (by simp))
def FindsL (k : Nat) (ts : List Tm) (t : Tm) (l : List Int) : Prop := ∀ x, x ∈ l ↔ ∃ u, (x, u) ∈ allX ts ts.length ∧ fitT k t u = true
theorem FindsL.has {k : Nat} {ts : List Tm} {t : Tm} {l : List Int} (h : FindsL k ts t l) {n : Nat} (hn : n < ts.length) (hc : chk ts[n] = 0) : hasB n l = fitT k t ts[n] := by
  rw [Bool.eq_iff_iff, hasB_iff, h]
  constructor
  · rintro ⟨u, h1, h2⟩
    obtain ⟨j, -, h3, h4, -⟩ := (allX_mem ts _ _).1 h1
    have h9 : (n : Int) = j := h3
    obtain rfl : n = j := by omega
    rw [List.getElem?_eq_getElem hn] at h4
    rw [Option.some.inj h4]; exact h2
  · intro h2
    exact ⟨_, (allX_mem ts _ _).2 ⟨n, hn, rfl, List.getElem?_eq_getElem hn, hc⟩, h2⟩
theorem FP.ok {k : Nat} {ts : List Tm} {t : Tm} {w w' : World} {e : Ending} (h : FP k (allX ts ts.length) t w w' e) (hc : chk t = 0) : ∃ a c l, e = .returned (.tuple #[.slice a l.length c, .int .i64 0]) ∧ Ints (fun _ => False) w' (.slice a l.length c) l ∧ FindsL k ts t l ∧ Below w.heap.size w w' := by
  obtain ⟨v, o, rfl, h1, h2, h3⟩ := h.2.1 hc
  obtain ⟨a, c, rfl, -⟩ := ints_of_row h1
  exact ⟨a, c, sortI o, rfl, Ints.of_own h1 (fun _ _ h => h), fun x => by rw [sortI_mem]; exact h3 x, h.2.2⟩
/-- The index while the terms are put in. -/
def FInvF (w : World) (xb rb hb ab bx : Nat) (ts : List Tm) (wr : World) (n : Nat) : Prop := ∃ rx, PxOk wr (fun _ => False) xb rb hb ab (allX ts n) rx bx ∧ Below w.heap.size w wr ∧ bx ≤ wr.heap.size ∧ w.heap.size < bx
set_option maxHeartbeats 32000000 in
set_option maxRecDepth 100000 in
theorem pfinds_calls (ts : List Tm) (t : Tm) (s : Value) (h : Int) (s2 : Value) (w : World) (hl : Terms (fun _ => False) w s ts) (ht : IsTm (fun _ => False) w h s2 t) :
    Calls Tryd.prog 3 #[s, .agg #[.int .i64 h, s2]] w fun e w' => e = .returned (.bool true) ∧ Below w.heap.size w w' := by
  obtain ⟨rfl, a, c, rfl, hlc, hc⟩ := ht.shape
  obtain ⟨la, lc, rfl, hllc, hlc2⟩ := hl.shape
  have b0 : Below w.heap.size w (w.alloc (.cells #[.int .i64 t.h, .slice a t.args.length c] 24)) := (Below.refl _ _).alloc (Nat.le_refl _) _
  have k0 := World.alloc_heap_new w (.cells #[.int .i64 t.h, .slice a t.args.length c] 24)
  have HL := hide hl
  have HT := hide ht.2
  have HB0 := hide b0
  clear hl ht b0
  go_enter Tryd.func3, Tryd.ntmps3
  go_wp2_with fail
  generalize w.alloc (.cells #[.int .i64 t.h, .slice a t.args.length c] 24) = w0 at *
  refine (few5_calls ts (fun _ => False) _ w0 (HL.out.over HB0.out fun _ h => h.elim)).mono ?_
  rintro e w1 ⟨rfl, b1⟩
  have HB1 := hide (more_below HB0.out b1)
  have k1 := (b1.block _ (Array.getElem?_eq_some_iff.1 k0).1).trans k0
  obtain ⟨kl, z0, z1, -, -⟩ := box2 k1
  clear b1 k0 HB0
  have HFS := hide (show fewS ts = true → Tm.sizes ts ≤ 500 from fewS_sizes)
  generalize fewS ts = fs at *
  cases fs
  · go_wp2
    go_ret
    exact ⟨rfl, HB1.out⟩
  go_wp2_with fail
  refine (few1_calls t (fun _ => False) _ _ w1 ⟨rfl, HT.out.over HB1.out fun _ h => h.elim⟩).mono ?_
  rintro e w2 ⟨rfl, b2⟩
  have HB2 := hide (more_below HB1.out b2)
  have k2 := (b2.block _ (Array.getElem?_eq_some_iff.1 k1).1).trans k1
  obtain ⟨kl2, y0, y1, -, -⟩ := box2 k2
  clear b2 k1 HB1 z0 z1 kl
  have HFB := hide (show fewB t = true → t.size ≤ 500 from few_size)
  generalize fewB t = fb at *
  cases fb
  · go_wp2
    go_ret
    exact ⟨rfl, HB2.out⟩
  have HSZ := hide (HFS.out trivial)
  have htz : t.size ≤ 500 := HFB.out rfl
  clear HFS HFB
  by_cases h20 : ts.length ≤ 20
  rotate_left
  · have hd : decide ((ts.length : Int) > 20) = true := by simp; omega
    go_wp2
    go_ret
    exact ⟨rfl, HB2.out⟩
  have hd20 : decide ((ts.length : Int) > 20) = false := by simp; omega
  go_wp2_with fail
  refine (tsize_calls t (fun _ => False) _ _ w2 ⟨rfl, HT.out.over HB2.out fun _ h => h.elim⟩ (by omega)).mono ?_
  rintro e w3 ⟨rfl, b3⟩
  have HB3 := hide (more_below HB2.out b3)
  have k3 := (b3.block _ (Array.getElem?_eq_some_iff.1 k2).1).trans k2
  obtain ⟨kl3, x0, x1, -, -⟩ := box2 k3
  clear b3 k2 HB2 y0 y1 kl2
  by_cases h60 : (t.size : Int) > 60
  · have hd : decide ((t.size : Int) > 60) = true := by simpa using h60
    go_wp2
    go_ret
    exact ⟨rfl, HB3.out⟩
  have hd60 : decide ((t.size : Int) > 60) = false := by simpa using h60
  clear h60
  go_wp2_with fail
  refine (pnew_calls (fun _ => False) w3 (fun _ h => h.elim)).mono ?_
  rintro e w4 ⟨xb, rb, hb, ab, rx, rfl, hx4, b4⟩
  have HB4 := hide (more_below HB3.out b4)
  have HI4 := hide (show FInvF w xb rb hb ab w3.heap.size ts w4 0 from ⟨rx, hx4, HB4.out, b4.size, kl3⟩)
  have HK4 := hide ((b4.block _ (Array.getElem?_eq_some_iff.1 k3).1).trans k3)
  generalize w3.heap.size = bx at *
  clear b4 k3 hx4 HB3 HB4 kl3 x0 x1 hd60 hd20
  go_wp2
  go_loopw [6] (fun i wr => ∃ n : Nat, n ≤ ts.length ∧ i = .int .i64 n ∧ Hid (FInvF w xb rb hb ab bx ts wr n) ∧ Hid (wr.heap[w.heap.size]? = some (.cells #[.int .i64 t.h, .slice a t.args.length c] 24 (0, 0)))) (fun i _ => ts.length - (intOf i).toNat)
  case atStart => exact ⟨0, by omega, rfl, HI4, HK4⟩
  case round =>
    obtain ⟨n, hn, rfl, hinv, hkt⟩ := hrel
    by_cases hlt : n < ts.length
    · obtain ⟨rx', hx5, b5, u1, u2⟩ := hinv.out
      have hxz := hx5.z
      have hrx : ∀ b, rx' b ≠ none → w.heap.size ≤ b := fun b hb => by have := (hxz b hb).1; omega
      obtain ⟨gb, go, ga, gc, rfl, hgb, -, c0, c1, tx⟩ := HL.out.get n hlt
      have hts : (ts[n]).size ≤ 500 := by have := Tm.size_get ts n hlt; have := HSZ.out; omega
      have hlen := allX_len ts n
      have C0 := (b5.cell (p := ⟨gb, go + n * 2, none⟩) hgb).trans c0
      have C1 := (b5.cell (p := ⟨gb, go + n * 2 + 1, none⟩) hgb).trans c1
      have HX5 := hide hx5
      have HB5 := hide b5
      have HU := hide (show bx ≤ wr.heap.size ∧ w.heap.size < bx from ⟨u1, u2⟩)
      have HXZ := hide hxz
      have HTX := hide tx
      have HC0 := hide c0
      have HC1 := hide c1
      have HRX := hide hrx
      clear hinv hx5 b5 hrx hxz u1 u2 c0 c1 tx
      go_wp2_with fail
      refine (count_calls _ ts[n] (fun _ => False) _ _ wr 60 (Nat.le_refl _) (by omega) (by omega) ⟨rfl, HTX.out.over HB5.out fun _ h => h.elim⟩).mono ?_
      rintro e w6 ⟨rfl, b6⟩
      have HB6 := hide (more_below HB5.out b6)
      by_cases hct : cntT ts[n] 60 > 60
      · have hd : decide (cntT ts[n] 60 > 60) = true := by simpa using hct
        clear b6
        go_wp2
        go_ret
        exact ⟨rfl, HB6.out⟩
      have hd : decide (cntT ts[n] 60 > 60) = false := by simpa using hct
      have D0 := (b6.cell (p := ⟨gb, go + n * 2, none⟩) (World.block_lt_of_cell? _ _ C0)).trans C0
      have D1 := (b6.cell (p := ⟨gb, go + n * 2 + 1, none⟩) (World.block_lt_of_cell? _ _ C1)).trans C1
      have HX6 := hide (HX5.out.below b6)
      have HK6 := hide ((b6.block _ (Array.getElem?_eq_some_iff.1 hkt.out).1).trans hkt.out)
      have HU6 := hide (show bx ≤ w6.heap.size from Nat.le_trans HU.out.1 b6.size)
      clear hct b6 HX5 HXZ hkt HB5 C0 C1
      go_wp2_with fail
      refine (pput_calls n ts[n] _ _ w6 (by omega) (by omega) (by omega) (by omega) HU6.out HX6.out ⟨rfl, HTX.out.over HB6.out HRX.out⟩).mono ?_
      rintro e w7 ⟨rfl, rx7, hx7, m7⟩
      rw [allX_put hlt (by omega)] at hx7 ⊢
      generalize her : (if chk ts[n] = 0 then (0 : Int) else 1) = er at hx7 ⊢
      simp only at hx7 ⊢
      have HER := hide her
      clear her
      have HB7 := hide (HB6.out.trans (m7.under (fun b hb => HRX.out b hb) HB6.out.size))
      have hnr : rx' w.heap.size = none := by
        cases hr : rx' w.heap.size with
        | none => rfl
        | some r => have := (HX6.out.z _ (by rw [hr]; simp)).1; have := HU.out.2; omega
      have HK7 := hide (m7.obj hnr HK6.out).1
      have HX7 := hide hx7
      have HU7 := hide (Nat.le_trans HU6.out m7.1.size)
      have E0 := (HB7.out.cell (p := ⟨gb, go + n * 2, none⟩) hgb).trans HC0.out
      have E1 := (HB7.out.cell (p := ⟨gb, go + n * 2 + 1, none⟩) hgb).trans HC1.out
      clear m7 hx7 HX6 HB6 HK6 D0 D1 hd HU6
      go_wp2_with fail
      refine (check_calls ts[n] (fun _ => False) _ _ w7 ⟨rfl, HTX.out.over HB7.out fun _ h => h.elim⟩ (by omega)).mono ?_
      rintro e w8 ⟨rfl, b8⟩
      have HB8 := hide (more_below HB7.out b8)
      have HK8 := hide ((b8.block _ (Array.getElem?_eq_some_iff.1 HK7.out).1).trans HK7.out)
      have HI8 := hide (show FInvF w xb rb hb ab bx ts w8 (n + 1) from ⟨rx7, HX7.out.below b8, HB8.out, Nat.le_trans HU7.out b8.size, HU.out.2⟩)
      clear b8 HB7 HK7 HX7 E0 E1 HU7
      generalize chk ts[n] = cz at HER ⊢
      by_cases hcz : cz = 0
      · obtain rfl : er = 0 := by rw [← HER.out, if_pos hcz]
        subst hcz
        clear HER
        go_wp2
        go_roundw
        case rel => exact ⟨n + 1, by omega, by go_num, HI8, HK8⟩
        case measure => simp [intOf]; omega
      · obtain rfl : er = 1 := by rw [← HER.out, if_neg hcz]
        have hne : (cz == 0) = false := by simp [hcz]
        clear HER hcz
        go_wp2
        go_roundw
        case rel => exact ⟨n + 1, by omega, by go_num, HI8, HK8⟩
        case measure => simp [intOf]; omega
    · obtain rfl : n = ts.length := by omega
      obtain ⟨rx', hx5, b5, -, -⟩ := hinv.out
      have hlen := allX_len ts ts.length
      have HX0 := hide hx5
      have HB0 := hide b5
      obtain ⟨-, y0, y1, -, -⟩ := box2 hkt.out
      generalize wr = p0 at *
      clear hinv hx5 b5
      by_cases hct : chk t = 0
      rotate_left
      · have HCT := hide hct
        clear hct
        go_wp2_with fail
        refine (pf0_calls t (fun _ => False) _ _ p0 (by omega) (by omega) HX0.out ⟨rfl, HT.out.over HB0.out fun _ h => h.elim⟩).mono ?_
        rintro e p1 ⟨h1, -, b9⟩
        obtain rfl := h1 HCT.out
        have HX1 := hide (HX0.out.below b9)
        have HB1 := hide (more_below HB0.out b9)
        have hk1 := (b9.block _ (Array.getElem?_eq_some_iff.1 hkt.out).1).trans hkt.out
        clear y0 y1
        obtain ⟨-, y0, y1, -, -⟩ := box2 hk1
        clear b9 HX0 HB0
        go_wp2_with fail
        refine (pf1_calls t (fun _ => False) _ _ p1 (by omega) (by omega) HX1.out ⟨rfl, HT.out.over HB1.out fun _ h => h.elim⟩).mono ?_
        rintro e p2 ⟨h1, -, b9⟩
        obtain rfl := h1 HCT.out
        have HX2 := hide (HX1.out.below b9)
        have HB2 := hide (more_below HB1.out b9)
        have hk2 := (b9.block _ (Array.getElem?_eq_some_iff.1 hk1).1).trans hk1
        clear hk1
        clear y0 y1
        obtain ⟨-, y0, y1, -, -⟩ := box2 hk2
        clear b9 HX1 HB1
        go_wp2_with fail
        refine (pf2_calls t (fun _ => False) _ _ p2 (by omega) (by omega) HX2.out ⟨rfl, HT.out.over HB2.out fun _ h => h.elim⟩).mono ?_
        rintro e p3 ⟨h1, -, b9⟩
        obtain rfl := h1 HCT.out
        have HX3 := hide (HX2.out.below b9)
        have HB3 := hide (more_below HB2.out b9)
        have hk3 := (b9.block _ (Array.getElem?_eq_some_iff.1 hk2).1).trans hk2
        clear hk2
        clear y0 y1
        obtain ⟨-, y0, y1, -, -⟩ := box2 hk3
        clear b9 HX2 HB2
        go_wp2_with fail
        refine (awake17_calls p3).mono ?_
        rintro e p4 ⟨rfl, b9⟩
        have HB4 := hide (more_below HB3.out b9)
        have hk4 := (b9.block _ (Array.getElem?_eq_some_iff.1 hk3).1).trans hk3
        clear y0 y1
        obtain ⟨-, y0, y1, -, -⟩ := box2 hk4
        clear b9 hk3
        go_wp2_with fail
        refine (check_calls t (fun _ => False) _ _ p4 ⟨rfl, HT.out.over HB4.out fun _ h => h.elim⟩ (by omega)).mono ?_
        rintro e p5 ⟨rfl, b9⟩
        have HB5 := hide (more_below HB4.out b9)
        have hne : (chk t != 0) = true := by simpa using HCT.out
        clear b9 y0 y1 hk4
        go_wp2
        go_ret
        exact ⟨rfl, HB5.out⟩
      · have HCT := hide hct
        clear hct
        go_wp2_with fail
        refine (pf0_calls t (fun _ => False) _ _ p0 (by omega) (by omega) HX0.out ⟨rfl, HT.out.over HB0.out fun _ h => h.elim⟩).mono ?_
        rintro e p1 hf
        obtain ⟨a0, c0, l0, rfl, i9, f9, b9⟩ := hf.ok HCT.out
        have HI0 := hide i9
        have HF0 := hide f9
        clear hf i9 f9
        have HX1 := hide (HX0.out.below b9)
        have HB1 := hide (more_below HB0.out b9)
        have hk1 := (b9.block _ (Array.getElem?_eq_some_iff.1 hkt.out).1).trans hkt.out
        clear y0 y1
        obtain ⟨-, y0, y1, -, -⟩ := box2 hk1
        clear b9 HX0 HB0
        go_wp2_with fail
        refine (pf1_calls t (fun _ => False) _ _ p1 (by omega) (by omega) HX1.out ⟨rfl, HT.out.over HB1.out fun _ h => h.elim⟩).mono ?_
        rintro e p2 hf
        obtain ⟨a1, c1, l1, rfl, i9, f9, b9⟩ := hf.ok HCT.out
        have HI1 := hide i9
        have HF1 := hide f9
        clear hf i9 f9
        have HX2 := hide (HX1.out.below b9)
        have HB2 := hide (more_below HB1.out b9)
        have hk2 := (b9.block _ (Array.getElem?_eq_some_iff.1 hk1).1).trans hk1
        clear hk1
        replace HI0 := hide (HI0.out.below b9)
        clear y0 y1
        obtain ⟨-, y0, y1, -, -⟩ := box2 hk2
        clear b9 HX1 HB1
        go_wp2_with fail
        refine (pf2_calls t (fun _ => False) _ _ p2 (by omega) (by omega) HX2.out ⟨rfl, HT.out.over HB2.out fun _ h => h.elim⟩).mono ?_
        rintro e p3 hf
        obtain ⟨a2, c2, l2, rfl, i9, f9, b9⟩ := hf.ok HCT.out
        have HI2 := hide i9
        have HF2 := hide f9
        clear hf i9 f9
        have HX3 := hide (HX2.out.below b9)
        have HB3 := hide (more_below HB2.out b9)
        have hk3 := (b9.block _ (Array.getElem?_eq_some_iff.1 hk2).1).trans hk2
        clear hk2
        replace HI0 := hide (HI0.out.below b9)
        replace HI1 := hide (HI1.out.below b9)
        clear y0 y1
        obtain ⟨-, y0, y1, -, -⟩ := box2 hk3
        clear b9 HX2 HB2
        clear HX3 y0 y1
        have HK3 := hide hk3
        clear hk3
        go_wp2
        go_loopw [14] (fun i wr => ∃ n : Nat, n ≤ ts.length ∧ i = .int .i64 n ∧ Hid (Below p3.heap.size p3 wr)) (fun i _ => ts.length - (intOf i).toNat)
        case atStart => exact ⟨0, by omega, rfl, hide (Below.refl _ _)⟩
        case round =>
          obtain ⟨n, hn, rfl, HB⟩ := hrel
          by_cases hlt : n < ts.length
          · obtain ⟨gb, go, ga, gc, rfl, hgb, -, c0, c1, tx⟩ := HL.out.get n hlt
            have hts : (ts[n]).size ≤ 500 := by have := Tm.size_get ts n hlt; have := HSZ.out; omega
            have HH := hide (fun (hc : chk ts[n] = 0) => (show hasB n l0 = fitT 0 t ts[n] ∧ hasB n l1 = fitT 1 t ts[n] ∧ hasB n l2 = fitT 2 t ts[n] from ⟨HF0.out.has hlt hc, HF1.out.has hlt hc, HF2.out.has hlt hc⟩))
            generalize ts[n] = u at c0 c1 tx hts HH
            have HUZ := hide (show u.size ≤ 500 ∧ t.size ≤ 500 from ⟨hts, htz⟩)
            have HTu := hide (fun (W : World) (hW : Below p3.heap.size p3 W) => (show Terms (fun _ => False) W (.slice ga u.args.length gc) u.args from tx.over (HB3.out.trans (hW.mono HB3.out.size)) fun _ h => h.elim))
            have HTt := hide (fun (W : World) (hW : Below p3.heap.size p3 W) => (show Terms (fun _ => False) W (.slice a t.args.length c) t.args from HT.out.over (HB3.out.trans (hW.mono HB3.out.size)) fun _ h => h.elim))
            have HCL := hide (fun (W : World) (hW : Below p3.heap.size p3 W) => (show W.cell? ⟨w.heap.size, 0, none⟩ = some (.int .i64 t.h) ∧ W.cell? ⟨w.heap.size, 1, none⟩ = some (.slice a t.args.length c) ∧ W.cell? ⟨gb, go + n * 2, none⟩ = some (.int .i64 u.h) ∧ W.cell? ⟨gb, go + n * 2 + 1, none⟩ = some (.slice ga u.args.length gc) from by
              obtain ⟨-, y0, y1, -, -⟩ := box2 ((hW.block _ (Array.getElem?_eq_some_iff.1 HK3.out).1).trans HK3.out)
              have hww := HB3.out.trans (hW.mono HB3.out.size)
              exact ⟨y0, y1, (hww.cell (p := ⟨gb, go + n * 2, none⟩) hgb).trans c0, (hww.cell (p := ⟨gb, go + n * 2 + 1, none⟩) hgb).trans c1⟩))
            have HM1 := hide (match_fit (u := u) (t := t))
            have HM2 := hide (match_fit (u := t) (t := u))
            have HM3 := hide (mgu_fit (u := u) (t := t))
            clear c0 c1 tx hts
            go_wp2
            refine drawn_tree (fun W => W.cell? ⟨w.heap.size, 0, none⟩ = some (.int .i64 t.h) ∧ W.cell? ⟨w.heap.size, 1, none⟩ = some (.slice a t.args.length c) ∧ W.cell? ⟨gb, go + n * 2, none⟩ = some (.int .i64 u.h) ∧ W.cell? ⟨gb, go + n * 2 + 1, none⟩ = some (.slice ga u.args.length gc)) (.take 0 <| .take 1 <| .take 2 <| .take 3 <| .take 4 <| .one 5 <| .take 6 <| .take 7 <| .take 8 <| .take 9 <| .take 10 <| .take 11 <| .take 12 <| .done) (by kernel_rfl) (by kernel_rfl) (by kernel_rfl) (by kernel_rfl) (fun _ _ _ _ _ h => h) (HCL.out _ (HB.out.drew)) ?_
            iterate 5 (refine t_take (v := ?_) rfl (by rfl) ?_ ?_; rotate_left; (intro w hS; obtain ⟨hS1, hS2, hS3, hS4⟩ := hS; go_simp; try with_reducible rfl); simp only [Act.put, List.setIfInBounds_toArray, List.set_cons_zero, List.set_cons_succ])
            refine t_one rfl (by rfl) ?_
            intro K hK
            go_simp
            refine (match_calls (fun _ => False) u t _ _ _ _ _ (by have := HUZ.out; omega) (by have := HUZ.out; omega) (fun _ h => h.elim) ⟨rfl, HTu.out _ HB.out.drew⟩ ⟨rfl, HTt.out _ HB.out.drew⟩).mono ?_
            rintro e q1 ⟨vq1, rfl, -, b9⟩
            have HB1 := hide (HB.out.drew.trans (b9.mono HB.out.drew.size))
            refine hK.out _ _ (HCL.out _ HB1.out) ?_
            clear hK K b9
            generalize (matchT [u] [t]).2.1 = x1 at HM1 ⊢
            generalize (matchT [u] [t]).2.2 = e1 at HM1 ⊢
            iterate 7 (refine t_take (v := ?_) rfl (by rfl) ?_ ?_; rotate_left; (intro w hS; obtain ⟨hS1, hS2, hS3, hS4⟩ := hS; go_simp; try with_reducible rfl); simp only [Act.put, List.setIfInBounds_toArray, List.set_cons_zero, List.set_cons_succ])
            refine t_done ?_
            go_wp2
            refine drawn_tree (fun W => W.cell? ⟨w.heap.size, 0, none⟩ = some (.int .i64 t.h) ∧ W.cell? ⟨w.heap.size, 1, none⟩ = some (.slice a t.args.length c) ∧ W.cell? ⟨gb, go + n * 2, none⟩ = some (.int .i64 u.h) ∧ W.cell? ⟨gb, go + n * 2 + 1, none⟩ = some (.slice ga u.args.length gc)) (.take 0 <| .take 1 <| .take 2 <| .take 3 <| .take 4 <| .one 5 <| .take 6 <| .take 7 <| .take 8 <| .take 9 <| .take 10 <| .take 11 <| .take 12 <| .done) (by kernel_rfl) (by kernel_rfl) (by kernel_rfl) (by kernel_rfl) (fun _ _ _ _ _ h => h) (HCL.out _ (HB1.out.drew)) ?_
            iterate 5 (refine t_take (v := ?_) rfl (by rfl) ?_ ?_; rotate_left; (intro w hS; obtain ⟨hS1, hS2, hS3, hS4⟩ := hS; go_simp; try with_reducible rfl); simp only [Act.put, List.setIfInBounds_toArray, List.set_cons_zero, List.set_cons_succ])
            refine t_one rfl (by rfl) ?_
            intro K hK
            go_simp
            refine (match_calls (fun _ => False) t u _ _ _ _ _ (by have := HUZ.out; omega) (by have := HUZ.out; omega) (fun _ h => h.elim) ⟨rfl, HTt.out _ HB1.out.drew⟩ ⟨rfl, HTu.out _ HB1.out.drew⟩).mono ?_
            rintro e q2 ⟨vq2, rfl, -, b9⟩
            have HB2 := hide (HB1.out.drew.trans (b9.mono HB1.out.drew.size))
            refine hK.out _ _ (HCL.out _ HB2.out) ?_
            clear hK K b9
            generalize (matchT [t] [u]).2.1 = x2 at HM2 ⊢
            generalize (matchT [t] [u]).2.2 = e2 at HM2 ⊢
            iterate 7 (refine t_take (v := ?_) rfl (by rfl) ?_ ?_; rotate_left; (intro w hS; obtain ⟨hS1, hS2, hS3, hS4⟩ := hS; go_simp; try with_reducible rfl); simp only [Act.put, List.setIfInBounds_toArray, List.set_cons_zero, List.set_cons_succ])
            refine t_done ?_
            go_wp2
            refine drawn_tree (fun W => W.cell? ⟨w.heap.size, 0, none⟩ = some (.int .i64 t.h) ∧ W.cell? ⟨w.heap.size, 1, none⟩ = some (.slice a t.args.length c) ∧ W.cell? ⟨gb, go + n * 2, none⟩ = some (.int .i64 u.h) ∧ W.cell? ⟨gb, go + n * 2 + 1, none⟩ = some (.slice ga u.args.length gc)) (.take 0 <| .take 1 <| .take 2 <| .take 3 <| .take 4 <| .one 5 <| .take 6 <| .take 7 <| .take 8 <| .take 9 <| .take 10 <| .take 11 <| .take 12 <| .done) (by kernel_rfl) (by kernel_rfl) (by kernel_rfl) (by kernel_rfl) (fun _ _ _ _ _ h => h) (HCL.out _ (HB2.out.drew)) ?_
            iterate 5 (refine t_take (v := ?_) rfl (by rfl) ?_ ?_; rotate_left; (intro w hS; obtain ⟨hS1, hS2, hS3, hS4⟩ := hS; go_simp; try with_reducible rfl); simp only [Act.put, List.setIfInBounds_toArray, List.set_cons_zero, List.set_cons_succ])
            refine t_one rfl (by rfl) ?_
            intro K hK
            go_simp
            refine (umgu_calls (fun _ => False) u t _ _ _ _ _ (by have := HUZ.out; omega) (by have := HUZ.out; omega) (fun _ h => h.elim) ⟨rfl, HTu.out _ HB2.out.drew⟩ ⟨rfl, HTt.out _ HB2.out.drew⟩).mono ?_
            rintro e q3 ⟨vq3, rfl, -, b9⟩
            have HB4 := hide (HB2.out.drew.trans (b9.mono HB2.out.drew.size))
            refine hK.out _ _ (HCL.out _ HB4.out) ?_
            clear hK K b9
            generalize (unifyT [u] [t]).2.1 = x3 at HM3 ⊢
            generalize (unifyT [u] [t]).2.2 = e3 at HM3 ⊢
            iterate 7 (refine t_take (v := ?_) rfl (by rfl) ?_ ?_; rotate_left; (intro w hS; obtain ⟨hS1, hS2, hS3, hS4⟩ := hS; go_simp; try with_reducible rfl); simp only [Act.put, List.setIfInBounds_toArray, List.set_cons_zero, List.set_cons_succ])
            refine t_done ?_
            clear HTu HTt HCL HB HB1 HB2
            by_cases he1 : e1 = 0
            rotate_left
            · have hne : (e1 != 0) = true := by simpa using he1
              go_wp2
              go_roundw
              case rel => exact ⟨n + 1, by omega, by go_num, HB4⟩
              case measure => simp [intOf]; omega
            by_cases he2 : e2 = 0
            rotate_left
            · subst he1
              have hne : (e2 != 0) = true := by simpa using he2
              go_wp2
              go_roundw
              case rel => exact ⟨n + 1, by omega, by go_num, HB4⟩
              case measure => simp [intOf]; omega
            subst he1 he2
            obtain ⟨hu, -, m1⟩ := HM1.out rfl
            obtain ⟨-, -, m2⟩ := HM2.out rfl
            have hh := HH.out hu
            have HC := hide (show (x1 = true → hasB n l0 = true) ∧ (x2 = true → hasB n l1 = true) ∧ (x3 = true → e3 = 0 → hasB n l2 = true) ∧ (hasB n l0 = true → hasB n l2 = true) ∧ (hasB n l1 = true → hasB n l2 = true) from by
              rw [hh.1, hh.2.1, hh.2.2]
              exact ⟨m1, m2, fun h3 h4 => show (!oddsT u t) = true by rw [HM3.out h4 h3]; rfl, fit_unif0, fit_unif1⟩)
            have HI3 := hide (show Ints (fun _ => False) q3 (.slice a0 l0.length c0) l0 ∧ Ints (fun _ => False) q3 (.slice a1 l1.length c1) l1 ∧ Ints (fun _ => False) q3 (.slice a2 l2.length c2) l2 from ⟨HI0.out.below HB4.out, HI1.out.below HB4.out, HI2.out.below HB4.out⟩)
            clear hu m1 m2 hh HH HM1 HM2 HM3
            generalize hf0 : hasB n l0 = f0 at HC
            generalize hf1 : hasB n l1 = f1 at HC
            generalize hf2 : hasB n l2 = f2 at HC
            have E0 := hide hf0
            have E1 := hide hf1
            have E2 := hide hf2
            clear hf0 hf1 hf2
            cases f2 with
            | false =>
              cases f0 with
              | false =>
                cases f1 with
                | false =>
                  cases x1 with
                  | false =>
                    cases x2 with
                    | false =>
                      cases x3 with
                      | false =>
                        have HJ := HI3
                        have HBJ := HB4
                        clear HI3 HB4
                        go_wp2_with fail
                        refine (in_calls n l0 _ _ q3 HJ.out.1).mono ?_
                        rintro e r0 ⟨rfl, b9⟩
                        rw [E0.out]
                        replace HJ := hide (show Ints (fun _ => False) r0 (.slice a0 l0.length c0) l0 ∧ Ints (fun _ => False) r0 (.slice a1 l1.length c1) l1 ∧ Ints (fun _ => False) r0 (.slice a2 l2.length c2) l2 from ⟨HJ.out.1.below b9, HJ.out.2.1.below b9, HJ.out.2.2.below b9⟩)
                        replace HBJ := hide (HBJ.out.trans (b9.mono HBJ.out.size))
                        clear b9
                        go_wp2_with fail
                        refine (in_calls n l1 _ _ r0 HJ.out.2.1).mono ?_
                        rintro e r1 ⟨rfl, b9⟩
                        rw [E1.out]
                        replace HJ := hide (show Ints (fun _ => False) r1 (.slice a0 l0.length c0) l0 ∧ Ints (fun _ => False) r1 (.slice a1 l1.length c1) l1 ∧ Ints (fun _ => False) r1 (.slice a2 l2.length c2) l2 from ⟨HJ.out.1.below b9, HJ.out.2.1.below b9, HJ.out.2.2.below b9⟩)
                        replace HBJ := hide (HBJ.out.trans (b9.mono HBJ.out.size))
                        clear b9
                        go_wp2
                        go_roundw
                        case rel => exact ⟨n + 1, by omega, by go_num, HBJ⟩
                        case measure => simp [intOf]; omega
                      | true =>
                        by_cases he3 : e3 = 0
                        · subst he3
                          exact absurd (HC.out.2.2.1 rfl rfl) (by simp)
                        · have he4 : (e3 == 0) = false := by simp [he3]
                          have HJ := HI3
                          have HBJ := HB4
                          clear HI3 HB4
                          go_wp2_with fail
                          refine (in_calls n l0 _ _ q3 HJ.out.1).mono ?_
                          rintro e r0 ⟨rfl, b9⟩
                          rw [E0.out]
                          replace HJ := hide (show Ints (fun _ => False) r0 (.slice a0 l0.length c0) l0 ∧ Ints (fun _ => False) r0 (.slice a1 l1.length c1) l1 ∧ Ints (fun _ => False) r0 (.slice a2 l2.length c2) l2 from ⟨HJ.out.1.below b9, HJ.out.2.1.below b9, HJ.out.2.2.below b9⟩)
                          replace HBJ := hide (HBJ.out.trans (b9.mono HBJ.out.size))
                          clear b9
                          go_wp2_with fail
                          refine (in_calls n l1 _ _ r0 HJ.out.2.1).mono ?_
                          rintro e r1 ⟨rfl, b9⟩
                          rw [E1.out]
                          replace HJ := hide (show Ints (fun _ => False) r1 (.slice a0 l0.length c0) l0 ∧ Ints (fun _ => False) r1 (.slice a1 l1.length c1) l1 ∧ Ints (fun _ => False) r1 (.slice a2 l2.length c2) l2 from ⟨HJ.out.1.below b9, HJ.out.2.1.below b9, HJ.out.2.2.below b9⟩)
                          replace HBJ := hide (HBJ.out.trans (b9.mono HBJ.out.size))
                          clear b9
                          go_wp2
                          go_roundw
                          case rel => exact ⟨n + 1, by omega, by go_num, HBJ⟩
                          case measure => simp [intOf]; omega
                    | true =>
                      exact absurd (HC.out.2.1 rfl) (by simp)
                  | true =>
                    exact absurd (HC.out.1 rfl) (by simp)
                | true =>
                  exact absurd (HC.out.2.2.2.2 rfl) (by simp)
              | true =>
                exact absurd (HC.out.2.2.2.1 rfl) (by simp)
            | true =>
              cases f0 with
              | false =>
                cases f1 with
                | false =>
                  cases x1 with
                  | false =>
                    cases x2 with
                    | false =>
                      cases x3 with
                      | false =>
                        have HJ := HI3
                        have HBJ := HB4
                        clear HI3 HB4
                        go_wp2_with fail
                        refine (in_calls n l0 _ _ q3 HJ.out.1).mono ?_
                        rintro e r0 ⟨rfl, b9⟩
                        rw [E0.out]
                        replace HJ := hide (show Ints (fun _ => False) r0 (.slice a0 l0.length c0) l0 ∧ Ints (fun _ => False) r0 (.slice a1 l1.length c1) l1 ∧ Ints (fun _ => False) r0 (.slice a2 l2.length c2) l2 from ⟨HJ.out.1.below b9, HJ.out.2.1.below b9, HJ.out.2.2.below b9⟩)
                        replace HBJ := hide (HBJ.out.trans (b9.mono HBJ.out.size))
                        clear b9
                        go_wp2_with fail
                        refine (in_calls n l1 _ _ r0 HJ.out.2.1).mono ?_
                        rintro e r1 ⟨rfl, b9⟩
                        rw [E1.out]
                        replace HJ := hide (show Ints (fun _ => False) r1 (.slice a0 l0.length c0) l0 ∧ Ints (fun _ => False) r1 (.slice a1 l1.length c1) l1 ∧ Ints (fun _ => False) r1 (.slice a2 l2.length c2) l2 from ⟨HJ.out.1.below b9, HJ.out.2.1.below b9, HJ.out.2.2.below b9⟩)
                        replace HBJ := hide (HBJ.out.trans (b9.mono HBJ.out.size))
                        clear b9
                        go_wp2
                        go_roundw
                        case rel => exact ⟨n + 1, by omega, by go_num, HBJ⟩
                        case measure => simp [intOf]; omega
                      | true =>
                        by_cases he3 : e3 = 0
                        · subst he3
                          have HJ := HI3
                          have HBJ := HB4
                          clear HI3 HB4
                          go_wp2_with fail
                          refine (in_calls n l2 _ _ q3 HJ.out.2.2).mono ?_
                          rintro e r0 ⟨rfl, b9⟩
                          rw [E2.out]
                          replace HJ := hide (show Ints (fun _ => False) r0 (.slice a0 l0.length c0) l0 ∧ Ints (fun _ => False) r0 (.slice a1 l1.length c1) l1 ∧ Ints (fun _ => False) r0 (.slice a2 l2.length c2) l2 from ⟨HJ.out.1.below b9, HJ.out.2.1.below b9, HJ.out.2.2.below b9⟩)
                          replace HBJ := hide (HBJ.out.trans (b9.mono HBJ.out.size))
                          clear b9
                          go_wp2_with fail
                          refine (in_calls n l0 _ _ r0 HJ.out.1).mono ?_
                          rintro e r1 ⟨rfl, b9⟩
                          rw [E0.out]
                          replace HJ := hide (show Ints (fun _ => False) r1 (.slice a0 l0.length c0) l0 ∧ Ints (fun _ => False) r1 (.slice a1 l1.length c1) l1 ∧ Ints (fun _ => False) r1 (.slice a2 l2.length c2) l2 from ⟨HJ.out.1.below b9, HJ.out.2.1.below b9, HJ.out.2.2.below b9⟩)
                          replace HBJ := hide (HBJ.out.trans (b9.mono HBJ.out.size))
                          clear b9
                          go_wp2_with fail
                          refine (in_calls n l1 _ _ r1 HJ.out.2.1).mono ?_
                          rintro e r2 ⟨rfl, b9⟩
                          rw [E1.out]
                          replace HJ := hide (show Ints (fun _ => False) r2 (.slice a0 l0.length c0) l0 ∧ Ints (fun _ => False) r2 (.slice a1 l1.length c1) l1 ∧ Ints (fun _ => False) r2 (.slice a2 l2.length c2) l2 from ⟨HJ.out.1.below b9, HJ.out.2.1.below b9, HJ.out.2.2.below b9⟩)
                          replace HBJ := hide (HBJ.out.trans (b9.mono HBJ.out.size))
                          clear b9
                          go_wp2
                          go_roundw
                          case rel => exact ⟨n + 1, by omega, by go_num, HBJ⟩
                          case measure => simp [intOf]; omega
                        · have he4 : (e3 == 0) = false := by simp [he3]
                          have HJ := HI3
                          have HBJ := HB4
                          clear HI3 HB4
                          go_wp2_with fail
                          refine (in_calls n l0 _ _ q3 HJ.out.1).mono ?_
                          rintro e r0 ⟨rfl, b9⟩
                          rw [E0.out]
                          replace HJ := hide (show Ints (fun _ => False) r0 (.slice a0 l0.length c0) l0 ∧ Ints (fun _ => False) r0 (.slice a1 l1.length c1) l1 ∧ Ints (fun _ => False) r0 (.slice a2 l2.length c2) l2 from ⟨HJ.out.1.below b9, HJ.out.2.1.below b9, HJ.out.2.2.below b9⟩)
                          replace HBJ := hide (HBJ.out.trans (b9.mono HBJ.out.size))
                          clear b9
                          go_wp2_with fail
                          refine (in_calls n l1 _ _ r0 HJ.out.2.1).mono ?_
                          rintro e r1 ⟨rfl, b9⟩
                          rw [E1.out]
                          replace HJ := hide (show Ints (fun _ => False) r1 (.slice a0 l0.length c0) l0 ∧ Ints (fun _ => False) r1 (.slice a1 l1.length c1) l1 ∧ Ints (fun _ => False) r1 (.slice a2 l2.length c2) l2 from ⟨HJ.out.1.below b9, HJ.out.2.1.below b9, HJ.out.2.2.below b9⟩)
                          replace HBJ := hide (HBJ.out.trans (b9.mono HBJ.out.size))
                          clear b9
                          go_wp2
                          go_roundw
                          case rel => exact ⟨n + 1, by omega, by go_num, HBJ⟩
                          case measure => simp [intOf]; omega
                    | true =>
                      exact absurd (HC.out.2.1 rfl) (by simp)
                  | true =>
                    exact absurd (HC.out.1 rfl) (by simp)
                | true =>
                  cases x1 with
                  | false =>
                    cases x2 with
                    | false =>
                      cases x3 with
                      | false =>
                        have HJ := HI3
                        have HBJ := HB4
                        clear HI3 HB4
                        go_wp2_with fail
                        refine (in_calls n l0 _ _ q3 HJ.out.1).mono ?_
                        rintro e r0 ⟨rfl, b9⟩
                        rw [E0.out]
                        replace HJ := hide (show Ints (fun _ => False) r0 (.slice a0 l0.length c0) l0 ∧ Ints (fun _ => False) r0 (.slice a1 l1.length c1) l1 ∧ Ints (fun _ => False) r0 (.slice a2 l2.length c2) l2 from ⟨HJ.out.1.below b9, HJ.out.2.1.below b9, HJ.out.2.2.below b9⟩)
                        replace HBJ := hide (HBJ.out.trans (b9.mono HBJ.out.size))
                        clear b9
                        go_wp2_with fail
                        refine (in_calls n l1 _ _ r0 HJ.out.2.1).mono ?_
                        rintro e r1 ⟨rfl, b9⟩
                        rw [E1.out]
                        replace HJ := hide (show Ints (fun _ => False) r1 (.slice a0 l0.length c0) l0 ∧ Ints (fun _ => False) r1 (.slice a1 l1.length c1) l1 ∧ Ints (fun _ => False) r1 (.slice a2 l2.length c2) l2 from ⟨HJ.out.1.below b9, HJ.out.2.1.below b9, HJ.out.2.2.below b9⟩)
                        replace HBJ := hide (HBJ.out.trans (b9.mono HBJ.out.size))
                        clear b9
                        go_wp2_with fail
                        refine (in_calls n l2 _ _ r1 HJ.out.2.2).mono ?_
                        rintro e r2 ⟨rfl, b9⟩
                        rw [E2.out]
                        replace HJ := hide (show Ints (fun _ => False) r2 (.slice a0 l0.length c0) l0 ∧ Ints (fun _ => False) r2 (.slice a1 l1.length c1) l1 ∧ Ints (fun _ => False) r2 (.slice a2 l2.length c2) l2 from ⟨HJ.out.1.below b9, HJ.out.2.1.below b9, HJ.out.2.2.below b9⟩)
                        replace HBJ := hide (HBJ.out.trans (b9.mono HBJ.out.size))
                        clear b9
                        go_wp2
                        go_roundw
                        case rel => exact ⟨n + 1, by omega, by go_num, HBJ⟩
                        case measure => simp [intOf]; omega
                      | true =>
                        by_cases he3 : e3 = 0
                        · subst he3
                          have HJ := HI3
                          have HBJ := HB4
                          clear HI3 HB4
                          go_wp2_with fail
                          refine (in_calls n l2 _ _ q3 HJ.out.2.2).mono ?_
                          rintro e r0 ⟨rfl, b9⟩
                          rw [E2.out]
                          replace HJ := hide (show Ints (fun _ => False) r0 (.slice a0 l0.length c0) l0 ∧ Ints (fun _ => False) r0 (.slice a1 l1.length c1) l1 ∧ Ints (fun _ => False) r0 (.slice a2 l2.length c2) l2 from ⟨HJ.out.1.below b9, HJ.out.2.1.below b9, HJ.out.2.2.below b9⟩)
                          replace HBJ := hide (HBJ.out.trans (b9.mono HBJ.out.size))
                          clear b9
                          go_wp2_with fail
                          refine (in_calls n l0 _ _ r0 HJ.out.1).mono ?_
                          rintro e r1 ⟨rfl, b9⟩
                          rw [E0.out]
                          replace HJ := hide (show Ints (fun _ => False) r1 (.slice a0 l0.length c0) l0 ∧ Ints (fun _ => False) r1 (.slice a1 l1.length c1) l1 ∧ Ints (fun _ => False) r1 (.slice a2 l2.length c2) l2 from ⟨HJ.out.1.below b9, HJ.out.2.1.below b9, HJ.out.2.2.below b9⟩)
                          replace HBJ := hide (HBJ.out.trans (b9.mono HBJ.out.size))
                          clear b9
                          go_wp2_with fail
                          refine (in_calls n l1 _ _ r1 HJ.out.2.1).mono ?_
                          rintro e r2 ⟨rfl, b9⟩
                          rw [E1.out]
                          replace HJ := hide (show Ints (fun _ => False) r2 (.slice a0 l0.length c0) l0 ∧ Ints (fun _ => False) r2 (.slice a1 l1.length c1) l1 ∧ Ints (fun _ => False) r2 (.slice a2 l2.length c2) l2 from ⟨HJ.out.1.below b9, HJ.out.2.1.below b9, HJ.out.2.2.below b9⟩)
                          replace HBJ := hide (HBJ.out.trans (b9.mono HBJ.out.size))
                          clear b9
                          go_wp2_with fail
                          refine (in_calls n l2 _ _ r2 HJ.out.2.2).mono ?_
                          rintro e r3 ⟨rfl, b9⟩
                          rw [E2.out]
                          replace HJ := hide (show Ints (fun _ => False) r3 (.slice a0 l0.length c0) l0 ∧ Ints (fun _ => False) r3 (.slice a1 l1.length c1) l1 ∧ Ints (fun _ => False) r3 (.slice a2 l2.length c2) l2 from ⟨HJ.out.1.below b9, HJ.out.2.1.below b9, HJ.out.2.2.below b9⟩)
                          replace HBJ := hide (HBJ.out.trans (b9.mono HBJ.out.size))
                          clear b9
                          go_wp2
                          go_roundw
                          case rel => exact ⟨n + 1, by omega, by go_num, HBJ⟩
                          case measure => simp [intOf]; omega
                        · have he4 : (e3 == 0) = false := by simp [he3]
                          have HJ := HI3
                          have HBJ := HB4
                          clear HI3 HB4
                          go_wp2_with fail
                          refine (in_calls n l0 _ _ q3 HJ.out.1).mono ?_
                          rintro e r0 ⟨rfl, b9⟩
                          rw [E0.out]
                          replace HJ := hide (show Ints (fun _ => False) r0 (.slice a0 l0.length c0) l0 ∧ Ints (fun _ => False) r0 (.slice a1 l1.length c1) l1 ∧ Ints (fun _ => False) r0 (.slice a2 l2.length c2) l2 from ⟨HJ.out.1.below b9, HJ.out.2.1.below b9, HJ.out.2.2.below b9⟩)
                          replace HBJ := hide (HBJ.out.trans (b9.mono HBJ.out.size))
                          clear b9
                          go_wp2_with fail
                          refine (in_calls n l1 _ _ r0 HJ.out.2.1).mono ?_
                          rintro e r1 ⟨rfl, b9⟩
                          rw [E1.out]
                          replace HJ := hide (show Ints (fun _ => False) r1 (.slice a0 l0.length c0) l0 ∧ Ints (fun _ => False) r1 (.slice a1 l1.length c1) l1 ∧ Ints (fun _ => False) r1 (.slice a2 l2.length c2) l2 from ⟨HJ.out.1.below b9, HJ.out.2.1.below b9, HJ.out.2.2.below b9⟩)
                          replace HBJ := hide (HBJ.out.trans (b9.mono HBJ.out.size))
                          clear b9
                          go_wp2_with fail
                          refine (in_calls n l2 _ _ r1 HJ.out.2.2).mono ?_
                          rintro e r2 ⟨rfl, b9⟩
                          rw [E2.out]
                          replace HJ := hide (show Ints (fun _ => False) r2 (.slice a0 l0.length c0) l0 ∧ Ints (fun _ => False) r2 (.slice a1 l1.length c1) l1 ∧ Ints (fun _ => False) r2 (.slice a2 l2.length c2) l2 from ⟨HJ.out.1.below b9, HJ.out.2.1.below b9, HJ.out.2.2.below b9⟩)
                          replace HBJ := hide (HBJ.out.trans (b9.mono HBJ.out.size))
                          clear b9
                          go_wp2
                          go_roundw
                          case rel => exact ⟨n + 1, by omega, by go_num, HBJ⟩
                          case measure => simp [intOf]; omega
                    | true =>
                      cases x3 with
                      | false =>
                        have HJ := HI3
                        have HBJ := HB4
                        clear HI3 HB4
                        go_wp2_with fail
                        refine (in_calls n l1 _ _ q3 HJ.out.2.1).mono ?_
                        rintro e r0 ⟨rfl, b9⟩
                        rw [E1.out]
                        replace HJ := hide (show Ints (fun _ => False) r0 (.slice a0 l0.length c0) l0 ∧ Ints (fun _ => False) r0 (.slice a1 l1.length c1) l1 ∧ Ints (fun _ => False) r0 (.slice a2 l2.length c2) l2 from ⟨HJ.out.1.below b9, HJ.out.2.1.below b9, HJ.out.2.2.below b9⟩)
                        replace HBJ := hide (HBJ.out.trans (b9.mono HBJ.out.size))
                        clear b9
                        go_wp2_with fail
                        refine (in_calls n l0 _ _ r0 HJ.out.1).mono ?_
                        rintro e r1 ⟨rfl, b9⟩
                        rw [E0.out]
                        replace HJ := hide (show Ints (fun _ => False) r1 (.slice a0 l0.length c0) l0 ∧ Ints (fun _ => False) r1 (.slice a1 l1.length c1) l1 ∧ Ints (fun _ => False) r1 (.slice a2 l2.length c2) l2 from ⟨HJ.out.1.below b9, HJ.out.2.1.below b9, HJ.out.2.2.below b9⟩)
                        replace HBJ := hide (HBJ.out.trans (b9.mono HBJ.out.size))
                        clear b9
                        go_wp2_with fail
                        refine (in_calls n l1 _ _ r1 HJ.out.2.1).mono ?_
                        rintro e r2 ⟨rfl, b9⟩
                        rw [E1.out]
                        replace HJ := hide (show Ints (fun _ => False) r2 (.slice a0 l0.length c0) l0 ∧ Ints (fun _ => False) r2 (.slice a1 l1.length c1) l1 ∧ Ints (fun _ => False) r2 (.slice a2 l2.length c2) l2 from ⟨HJ.out.1.below b9, HJ.out.2.1.below b9, HJ.out.2.2.below b9⟩)
                        replace HBJ := hide (HBJ.out.trans (b9.mono HBJ.out.size))
                        clear b9
                        go_wp2_with fail
                        refine (in_calls n l2 _ _ r2 HJ.out.2.2).mono ?_
                        rintro e r3 ⟨rfl, b9⟩
                        rw [E2.out]
                        replace HJ := hide (show Ints (fun _ => False) r3 (.slice a0 l0.length c0) l0 ∧ Ints (fun _ => False) r3 (.slice a1 l1.length c1) l1 ∧ Ints (fun _ => False) r3 (.slice a2 l2.length c2) l2 from ⟨HJ.out.1.below b9, HJ.out.2.1.below b9, HJ.out.2.2.below b9⟩)
                        replace HBJ := hide (HBJ.out.trans (b9.mono HBJ.out.size))
                        clear b9
                        go_wp2
                        go_roundw
                        case rel => exact ⟨n + 1, by omega, by go_num, HBJ⟩
                        case measure => simp [intOf]; omega
                      | true =>
                        by_cases he3 : e3 = 0
                        · subst he3
                          have HJ := HI3
                          have HBJ := HB4
                          clear HI3 HB4
                          go_wp2_with fail
                          refine (in_calls n l1 _ _ q3 HJ.out.2.1).mono ?_
                          rintro e r0 ⟨rfl, b9⟩
                          rw [E1.out]
                          replace HJ := hide (show Ints (fun _ => False) r0 (.slice a0 l0.length c0) l0 ∧ Ints (fun _ => False) r0 (.slice a1 l1.length c1) l1 ∧ Ints (fun _ => False) r0 (.slice a2 l2.length c2) l2 from ⟨HJ.out.1.below b9, HJ.out.2.1.below b9, HJ.out.2.2.below b9⟩)
                          replace HBJ := hide (HBJ.out.trans (b9.mono HBJ.out.size))
                          clear b9
                          go_wp2_with fail
                          refine (in_calls n l2 _ _ r0 HJ.out.2.2).mono ?_
                          rintro e r1 ⟨rfl, b9⟩
                          rw [E2.out]
                          replace HJ := hide (show Ints (fun _ => False) r1 (.slice a0 l0.length c0) l0 ∧ Ints (fun _ => False) r1 (.slice a1 l1.length c1) l1 ∧ Ints (fun _ => False) r1 (.slice a2 l2.length c2) l2 from ⟨HJ.out.1.below b9, HJ.out.2.1.below b9, HJ.out.2.2.below b9⟩)
                          replace HBJ := hide (HBJ.out.trans (b9.mono HBJ.out.size))
                          clear b9
                          go_wp2_with fail
                          refine (in_calls n l0 _ _ r1 HJ.out.1).mono ?_
                          rintro e r2 ⟨rfl, b9⟩
                          rw [E0.out]
                          replace HJ := hide (show Ints (fun _ => False) r2 (.slice a0 l0.length c0) l0 ∧ Ints (fun _ => False) r2 (.slice a1 l1.length c1) l1 ∧ Ints (fun _ => False) r2 (.slice a2 l2.length c2) l2 from ⟨HJ.out.1.below b9, HJ.out.2.1.below b9, HJ.out.2.2.below b9⟩)
                          replace HBJ := hide (HBJ.out.trans (b9.mono HBJ.out.size))
                          clear b9
                          go_wp2_with fail
                          refine (in_calls n l1 _ _ r2 HJ.out.2.1).mono ?_
                          rintro e r3 ⟨rfl, b9⟩
                          rw [E1.out]
                          replace HJ := hide (show Ints (fun _ => False) r3 (.slice a0 l0.length c0) l0 ∧ Ints (fun _ => False) r3 (.slice a1 l1.length c1) l1 ∧ Ints (fun _ => False) r3 (.slice a2 l2.length c2) l2 from ⟨HJ.out.1.below b9, HJ.out.2.1.below b9, HJ.out.2.2.below b9⟩)
                          replace HBJ := hide (HBJ.out.trans (b9.mono HBJ.out.size))
                          clear b9
                          go_wp2_with fail
                          refine (in_calls n l2 _ _ r3 HJ.out.2.2).mono ?_
                          rintro e r4 ⟨rfl, b9⟩
                          rw [E2.out]
                          replace HJ := hide (show Ints (fun _ => False) r4 (.slice a0 l0.length c0) l0 ∧ Ints (fun _ => False) r4 (.slice a1 l1.length c1) l1 ∧ Ints (fun _ => False) r4 (.slice a2 l2.length c2) l2 from ⟨HJ.out.1.below b9, HJ.out.2.1.below b9, HJ.out.2.2.below b9⟩)
                          replace HBJ := hide (HBJ.out.trans (b9.mono HBJ.out.size))
                          clear b9
                          go_wp2
                          go_roundw
                          case rel => exact ⟨n + 1, by omega, by go_num, HBJ⟩
                          case measure => simp [intOf]; omega
                        · have he4 : (e3 == 0) = false := by simp [he3]
                          have HJ := HI3
                          have HBJ := HB4
                          clear HI3 HB4
                          go_wp2_with fail
                          refine (in_calls n l1 _ _ q3 HJ.out.2.1).mono ?_
                          rintro e r0 ⟨rfl, b9⟩
                          rw [E1.out]
                          replace HJ := hide (show Ints (fun _ => False) r0 (.slice a0 l0.length c0) l0 ∧ Ints (fun _ => False) r0 (.slice a1 l1.length c1) l1 ∧ Ints (fun _ => False) r0 (.slice a2 l2.length c2) l2 from ⟨HJ.out.1.below b9, HJ.out.2.1.below b9, HJ.out.2.2.below b9⟩)
                          replace HBJ := hide (HBJ.out.trans (b9.mono HBJ.out.size))
                          clear b9
                          go_wp2_with fail
                          refine (in_calls n l0 _ _ r0 HJ.out.1).mono ?_
                          rintro e r1 ⟨rfl, b9⟩
                          rw [E0.out]
                          replace HJ := hide (show Ints (fun _ => False) r1 (.slice a0 l0.length c0) l0 ∧ Ints (fun _ => False) r1 (.slice a1 l1.length c1) l1 ∧ Ints (fun _ => False) r1 (.slice a2 l2.length c2) l2 from ⟨HJ.out.1.below b9, HJ.out.2.1.below b9, HJ.out.2.2.below b9⟩)
                          replace HBJ := hide (HBJ.out.trans (b9.mono HBJ.out.size))
                          clear b9
                          go_wp2_with fail
                          refine (in_calls n l1 _ _ r1 HJ.out.2.1).mono ?_
                          rintro e r2 ⟨rfl, b9⟩
                          rw [E1.out]
                          replace HJ := hide (show Ints (fun _ => False) r2 (.slice a0 l0.length c0) l0 ∧ Ints (fun _ => False) r2 (.slice a1 l1.length c1) l1 ∧ Ints (fun _ => False) r2 (.slice a2 l2.length c2) l2 from ⟨HJ.out.1.below b9, HJ.out.2.1.below b9, HJ.out.2.2.below b9⟩)
                          replace HBJ := hide (HBJ.out.trans (b9.mono HBJ.out.size))
                          clear b9
                          go_wp2_with fail
                          refine (in_calls n l2 _ _ r2 HJ.out.2.2).mono ?_
                          rintro e r3 ⟨rfl, b9⟩
                          rw [E2.out]
                          replace HJ := hide (show Ints (fun _ => False) r3 (.slice a0 l0.length c0) l0 ∧ Ints (fun _ => False) r3 (.slice a1 l1.length c1) l1 ∧ Ints (fun _ => False) r3 (.slice a2 l2.length c2) l2 from ⟨HJ.out.1.below b9, HJ.out.2.1.below b9, HJ.out.2.2.below b9⟩)
                          replace HBJ := hide (HBJ.out.trans (b9.mono HBJ.out.size))
                          clear b9
                          go_wp2
                          go_roundw
                          case rel => exact ⟨n + 1, by omega, by go_num, HBJ⟩
                          case measure => simp [intOf]; omega
                  | true =>
                    exact absurd (HC.out.1 rfl) (by simp)
              | true =>
                cases f1 with
                | false =>
                  cases x1 with
                  | false =>
                    cases x2 with
                    | false =>
                      cases x3 with
                      | false =>
                        have HJ := HI3
                        have HBJ := HB4
                        clear HI3 HB4
                        go_wp2_with fail
                        refine (in_calls n l0 _ _ q3 HJ.out.1).mono ?_
                        rintro e r0 ⟨rfl, b9⟩
                        rw [E0.out]
                        replace HJ := hide (show Ints (fun _ => False) r0 (.slice a0 l0.length c0) l0 ∧ Ints (fun _ => False) r0 (.slice a1 l1.length c1) l1 ∧ Ints (fun _ => False) r0 (.slice a2 l2.length c2) l2 from ⟨HJ.out.1.below b9, HJ.out.2.1.below b9, HJ.out.2.2.below b9⟩)
                        replace HBJ := hide (HBJ.out.trans (b9.mono HBJ.out.size))
                        clear b9
                        go_wp2_with fail
                        refine (in_calls n l2 _ _ r0 HJ.out.2.2).mono ?_
                        rintro e r1 ⟨rfl, b9⟩
                        rw [E2.out]
                        replace HJ := hide (show Ints (fun _ => False) r1 (.slice a0 l0.length c0) l0 ∧ Ints (fun _ => False) r1 (.slice a1 l1.length c1) l1 ∧ Ints (fun _ => False) r1 (.slice a2 l2.length c2) l2 from ⟨HJ.out.1.below b9, HJ.out.2.1.below b9, HJ.out.2.2.below b9⟩)
                        replace HBJ := hide (HBJ.out.trans (b9.mono HBJ.out.size))
                        clear b9
                        go_wp2
                        go_roundw
                        case rel => exact ⟨n + 1, by omega, by go_num, HBJ⟩
                        case measure => simp [intOf]; omega
                      | true =>
                        by_cases he3 : e3 = 0
                        · subst he3
                          have HJ := HI3
                          have HBJ := HB4
                          clear HI3 HB4
                          go_wp2_with fail
                          refine (in_calls n l2 _ _ q3 HJ.out.2.2).mono ?_
                          rintro e r0 ⟨rfl, b9⟩
                          rw [E2.out]
                          replace HJ := hide (show Ints (fun _ => False) r0 (.slice a0 l0.length c0) l0 ∧ Ints (fun _ => False) r0 (.slice a1 l1.length c1) l1 ∧ Ints (fun _ => False) r0 (.slice a2 l2.length c2) l2 from ⟨HJ.out.1.below b9, HJ.out.2.1.below b9, HJ.out.2.2.below b9⟩)
                          replace HBJ := hide (HBJ.out.trans (b9.mono HBJ.out.size))
                          clear b9
                          go_wp2_with fail
                          refine (in_calls n l0 _ _ r0 HJ.out.1).mono ?_
                          rintro e r1 ⟨rfl, b9⟩
                          rw [E0.out]
                          replace HJ := hide (show Ints (fun _ => False) r1 (.slice a0 l0.length c0) l0 ∧ Ints (fun _ => False) r1 (.slice a1 l1.length c1) l1 ∧ Ints (fun _ => False) r1 (.slice a2 l2.length c2) l2 from ⟨HJ.out.1.below b9, HJ.out.2.1.below b9, HJ.out.2.2.below b9⟩)
                          replace HBJ := hide (HBJ.out.trans (b9.mono HBJ.out.size))
                          clear b9
                          go_wp2_with fail
                          refine (in_calls n l2 _ _ r1 HJ.out.2.2).mono ?_
                          rintro e r2 ⟨rfl, b9⟩
                          rw [E2.out]
                          replace HJ := hide (show Ints (fun _ => False) r2 (.slice a0 l0.length c0) l0 ∧ Ints (fun _ => False) r2 (.slice a1 l1.length c1) l1 ∧ Ints (fun _ => False) r2 (.slice a2 l2.length c2) l2 from ⟨HJ.out.1.below b9, HJ.out.2.1.below b9, HJ.out.2.2.below b9⟩)
                          replace HBJ := hide (HBJ.out.trans (b9.mono HBJ.out.size))
                          clear b9
                          go_wp2
                          go_roundw
                          case rel => exact ⟨n + 1, by omega, by go_num, HBJ⟩
                          case measure => simp [intOf]; omega
                        · have he4 : (e3 == 0) = false := by simp [he3]
                          have HJ := HI3
                          have HBJ := HB4
                          clear HI3 HB4
                          go_wp2_with fail
                          refine (in_calls n l0 _ _ q3 HJ.out.1).mono ?_
                          rintro e r0 ⟨rfl, b9⟩
                          rw [E0.out]
                          replace HJ := hide (show Ints (fun _ => False) r0 (.slice a0 l0.length c0) l0 ∧ Ints (fun _ => False) r0 (.slice a1 l1.length c1) l1 ∧ Ints (fun _ => False) r0 (.slice a2 l2.length c2) l2 from ⟨HJ.out.1.below b9, HJ.out.2.1.below b9, HJ.out.2.2.below b9⟩)
                          replace HBJ := hide (HBJ.out.trans (b9.mono HBJ.out.size))
                          clear b9
                          go_wp2_with fail
                          refine (in_calls n l2 _ _ r0 HJ.out.2.2).mono ?_
                          rintro e r1 ⟨rfl, b9⟩
                          rw [E2.out]
                          replace HJ := hide (show Ints (fun _ => False) r1 (.slice a0 l0.length c0) l0 ∧ Ints (fun _ => False) r1 (.slice a1 l1.length c1) l1 ∧ Ints (fun _ => False) r1 (.slice a2 l2.length c2) l2 from ⟨HJ.out.1.below b9, HJ.out.2.1.below b9, HJ.out.2.2.below b9⟩)
                          replace HBJ := hide (HBJ.out.trans (b9.mono HBJ.out.size))
                          clear b9
                          go_wp2
                          go_roundw
                          case rel => exact ⟨n + 1, by omega, by go_num, HBJ⟩
                          case measure => simp [intOf]; omega
                    | true =>
                      exact absurd (HC.out.2.1 rfl) (by simp)
                  | true =>
                    cases x2 with
                    | false =>
                      cases x3 with
                      | false =>
                        have HJ := HI3
                        have HBJ := HB4
                        clear HI3 HB4
                        go_wp2_with fail
                        refine (in_calls n l0 _ _ q3 HJ.out.1).mono ?_
                        rintro e r0 ⟨rfl, b9⟩
                        rw [E0.out]
                        replace HJ := hide (show Ints (fun _ => False) r0 (.slice a0 l0.length c0) l0 ∧ Ints (fun _ => False) r0 (.slice a1 l1.length c1) l1 ∧ Ints (fun _ => False) r0 (.slice a2 l2.length c2) l2 from ⟨HJ.out.1.below b9, HJ.out.2.1.below b9, HJ.out.2.2.below b9⟩)
                        replace HBJ := hide (HBJ.out.trans (b9.mono HBJ.out.size))
                        clear b9
                        go_wp2_with fail
                        refine (in_calls n l0 _ _ r0 HJ.out.1).mono ?_
                        rintro e r1 ⟨rfl, b9⟩
                        rw [E0.out]
                        replace HJ := hide (show Ints (fun _ => False) r1 (.slice a0 l0.length c0) l0 ∧ Ints (fun _ => False) r1 (.slice a1 l1.length c1) l1 ∧ Ints (fun _ => False) r1 (.slice a2 l2.length c2) l2 from ⟨HJ.out.1.below b9, HJ.out.2.1.below b9, HJ.out.2.2.below b9⟩)
                        replace HBJ := hide (HBJ.out.trans (b9.mono HBJ.out.size))
                        clear b9
                        go_wp2_with fail
                        refine (in_calls n l2 _ _ r1 HJ.out.2.2).mono ?_
                        rintro e r2 ⟨rfl, b9⟩
                        rw [E2.out]
                        replace HJ := hide (show Ints (fun _ => False) r2 (.slice a0 l0.length c0) l0 ∧ Ints (fun _ => False) r2 (.slice a1 l1.length c1) l1 ∧ Ints (fun _ => False) r2 (.slice a2 l2.length c2) l2 from ⟨HJ.out.1.below b9, HJ.out.2.1.below b9, HJ.out.2.2.below b9⟩)
                        replace HBJ := hide (HBJ.out.trans (b9.mono HBJ.out.size))
                        clear b9
                        go_wp2
                        go_roundw
                        case rel => exact ⟨n + 1, by omega, by go_num, HBJ⟩
                        case measure => simp [intOf]; omega
                      | true =>
                        by_cases he3 : e3 = 0
                        · subst he3
                          have HJ := HI3
                          have HBJ := HB4
                          clear HI3 HB4
                          go_wp2_with fail
                          refine (in_calls n l0 _ _ q3 HJ.out.1).mono ?_
                          rintro e r0 ⟨rfl, b9⟩
                          rw [E0.out]
                          replace HJ := hide (show Ints (fun _ => False) r0 (.slice a0 l0.length c0) l0 ∧ Ints (fun _ => False) r0 (.slice a1 l1.length c1) l1 ∧ Ints (fun _ => False) r0 (.slice a2 l2.length c2) l2 from ⟨HJ.out.1.below b9, HJ.out.2.1.below b9, HJ.out.2.2.below b9⟩)
                          replace HBJ := hide (HBJ.out.trans (b9.mono HBJ.out.size))
                          clear b9
                          go_wp2_with fail
                          refine (in_calls n l2 _ _ r0 HJ.out.2.2).mono ?_
                          rintro e r1 ⟨rfl, b9⟩
                          rw [E2.out]
                          replace HJ := hide (show Ints (fun _ => False) r1 (.slice a0 l0.length c0) l0 ∧ Ints (fun _ => False) r1 (.slice a1 l1.length c1) l1 ∧ Ints (fun _ => False) r1 (.slice a2 l2.length c2) l2 from ⟨HJ.out.1.below b9, HJ.out.2.1.below b9, HJ.out.2.2.below b9⟩)
                          replace HBJ := hide (HBJ.out.trans (b9.mono HBJ.out.size))
                          clear b9
                          go_wp2_with fail
                          refine (in_calls n l0 _ _ r1 HJ.out.1).mono ?_
                          rintro e r2 ⟨rfl, b9⟩
                          rw [E0.out]
                          replace HJ := hide (show Ints (fun _ => False) r2 (.slice a0 l0.length c0) l0 ∧ Ints (fun _ => False) r2 (.slice a1 l1.length c1) l1 ∧ Ints (fun _ => False) r2 (.slice a2 l2.length c2) l2 from ⟨HJ.out.1.below b9, HJ.out.2.1.below b9, HJ.out.2.2.below b9⟩)
                          replace HBJ := hide (HBJ.out.trans (b9.mono HBJ.out.size))
                          clear b9
                          go_wp2_with fail
                          refine (in_calls n l2 _ _ r2 HJ.out.2.2).mono ?_
                          rintro e r3 ⟨rfl, b9⟩
                          rw [E2.out]
                          replace HJ := hide (show Ints (fun _ => False) r3 (.slice a0 l0.length c0) l0 ∧ Ints (fun _ => False) r3 (.slice a1 l1.length c1) l1 ∧ Ints (fun _ => False) r3 (.slice a2 l2.length c2) l2 from ⟨HJ.out.1.below b9, HJ.out.2.1.below b9, HJ.out.2.2.below b9⟩)
                          replace HBJ := hide (HBJ.out.trans (b9.mono HBJ.out.size))
                          clear b9
                          go_wp2
                          go_roundw
                          case rel => exact ⟨n + 1, by omega, by go_num, HBJ⟩
                          case measure => simp [intOf]; omega
                        · have he4 : (e3 == 0) = false := by simp [he3]
                          have HJ := HI3
                          have HBJ := HB4
                          clear HI3 HB4
                          go_wp2_with fail
                          refine (in_calls n l0 _ _ q3 HJ.out.1).mono ?_
                          rintro e r0 ⟨rfl, b9⟩
                          rw [E0.out]
                          replace HJ := hide (show Ints (fun _ => False) r0 (.slice a0 l0.length c0) l0 ∧ Ints (fun _ => False) r0 (.slice a1 l1.length c1) l1 ∧ Ints (fun _ => False) r0 (.slice a2 l2.length c2) l2 from ⟨HJ.out.1.below b9, HJ.out.2.1.below b9, HJ.out.2.2.below b9⟩)
                          replace HBJ := hide (HBJ.out.trans (b9.mono HBJ.out.size))
                          clear b9
                          go_wp2_with fail
                          refine (in_calls n l0 _ _ r0 HJ.out.1).mono ?_
                          rintro e r1 ⟨rfl, b9⟩
                          rw [E0.out]
                          replace HJ := hide (show Ints (fun _ => False) r1 (.slice a0 l0.length c0) l0 ∧ Ints (fun _ => False) r1 (.slice a1 l1.length c1) l1 ∧ Ints (fun _ => False) r1 (.slice a2 l2.length c2) l2 from ⟨HJ.out.1.below b9, HJ.out.2.1.below b9, HJ.out.2.2.below b9⟩)
                          replace HBJ := hide (HBJ.out.trans (b9.mono HBJ.out.size))
                          clear b9
                          go_wp2_with fail
                          refine (in_calls n l2 _ _ r1 HJ.out.2.2).mono ?_
                          rintro e r2 ⟨rfl, b9⟩
                          rw [E2.out]
                          replace HJ := hide (show Ints (fun _ => False) r2 (.slice a0 l0.length c0) l0 ∧ Ints (fun _ => False) r2 (.slice a1 l1.length c1) l1 ∧ Ints (fun _ => False) r2 (.slice a2 l2.length c2) l2 from ⟨HJ.out.1.below b9, HJ.out.2.1.below b9, HJ.out.2.2.below b9⟩)
                          replace HBJ := hide (HBJ.out.trans (b9.mono HBJ.out.size))
                          clear b9
                          go_wp2
                          go_roundw
                          case rel => exact ⟨n + 1, by omega, by go_num, HBJ⟩
                          case measure => simp [intOf]; omega
                    | true =>
                      exact absurd (HC.out.2.1 rfl) (by simp)
                | true =>
                  cases x1 with
                  | false =>
                    cases x2 with
                    | false =>
                      cases x3 with
                      | false =>
                        have HJ := HI3
                        have HBJ := HB4
                        clear HI3 HB4
                        go_wp2_with fail
                        refine (in_calls n l0 _ _ q3 HJ.out.1).mono ?_
                        rintro e r0 ⟨rfl, b9⟩
                        rw [E0.out]
                        replace HJ := hide (show Ints (fun _ => False) r0 (.slice a0 l0.length c0) l0 ∧ Ints (fun _ => False) r0 (.slice a1 l1.length c1) l1 ∧ Ints (fun _ => False) r0 (.slice a2 l2.length c2) l2 from ⟨HJ.out.1.below b9, HJ.out.2.1.below b9, HJ.out.2.2.below b9⟩)
                        replace HBJ := hide (HBJ.out.trans (b9.mono HBJ.out.size))
                        clear b9
                        go_wp2_with fail
                        refine (in_calls n l2 _ _ r0 HJ.out.2.2).mono ?_
                        rintro e r1 ⟨rfl, b9⟩
                        rw [E2.out]
                        replace HJ := hide (show Ints (fun _ => False) r1 (.slice a0 l0.length c0) l0 ∧ Ints (fun _ => False) r1 (.slice a1 l1.length c1) l1 ∧ Ints (fun _ => False) r1 (.slice a2 l2.length c2) l2 from ⟨HJ.out.1.below b9, HJ.out.2.1.below b9, HJ.out.2.2.below b9⟩)
                        replace HBJ := hide (HBJ.out.trans (b9.mono HBJ.out.size))
                        clear b9
                        go_wp2
                        go_roundw
                        case rel => exact ⟨n + 1, by omega, by go_num, HBJ⟩
                        case measure => simp [intOf]; omega
                      | true =>
                        by_cases he3 : e3 = 0
                        · subst he3
                          have HJ := HI3
                          have HBJ := HB4
                          clear HI3 HB4
                          go_wp2_with fail
                          refine (in_calls n l2 _ _ q3 HJ.out.2.2).mono ?_
                          rintro e r0 ⟨rfl, b9⟩
                          rw [E2.out]
                          replace HJ := hide (show Ints (fun _ => False) r0 (.slice a0 l0.length c0) l0 ∧ Ints (fun _ => False) r0 (.slice a1 l1.length c1) l1 ∧ Ints (fun _ => False) r0 (.slice a2 l2.length c2) l2 from ⟨HJ.out.1.below b9, HJ.out.2.1.below b9, HJ.out.2.2.below b9⟩)
                          replace HBJ := hide (HBJ.out.trans (b9.mono HBJ.out.size))
                          clear b9
                          go_wp2_with fail
                          refine (in_calls n l0 _ _ r0 HJ.out.1).mono ?_
                          rintro e r1 ⟨rfl, b9⟩
                          rw [E0.out]
                          replace HJ := hide (show Ints (fun _ => False) r1 (.slice a0 l0.length c0) l0 ∧ Ints (fun _ => False) r1 (.slice a1 l1.length c1) l1 ∧ Ints (fun _ => False) r1 (.slice a2 l2.length c2) l2 from ⟨HJ.out.1.below b9, HJ.out.2.1.below b9, HJ.out.2.2.below b9⟩)
                          replace HBJ := hide (HBJ.out.trans (b9.mono HBJ.out.size))
                          clear b9
                          go_wp2_with fail
                          refine (in_calls n l2 _ _ r1 HJ.out.2.2).mono ?_
                          rintro e r2 ⟨rfl, b9⟩
                          rw [E2.out]
                          replace HJ := hide (show Ints (fun _ => False) r2 (.slice a0 l0.length c0) l0 ∧ Ints (fun _ => False) r2 (.slice a1 l1.length c1) l1 ∧ Ints (fun _ => False) r2 (.slice a2 l2.length c2) l2 from ⟨HJ.out.1.below b9, HJ.out.2.1.below b9, HJ.out.2.2.below b9⟩)
                          replace HBJ := hide (HBJ.out.trans (b9.mono HBJ.out.size))
                          clear b9
                          go_wp2
                          go_roundw
                          case rel => exact ⟨n + 1, by omega, by go_num, HBJ⟩
                          case measure => simp [intOf]; omega
                        · have he4 : (e3 == 0) = false := by simp [he3]
                          have HJ := HI3
                          have HBJ := HB4
                          clear HI3 HB4
                          go_wp2_with fail
                          refine (in_calls n l0 _ _ q3 HJ.out.1).mono ?_
                          rintro e r0 ⟨rfl, b9⟩
                          rw [E0.out]
                          replace HJ := hide (show Ints (fun _ => False) r0 (.slice a0 l0.length c0) l0 ∧ Ints (fun _ => False) r0 (.slice a1 l1.length c1) l1 ∧ Ints (fun _ => False) r0 (.slice a2 l2.length c2) l2 from ⟨HJ.out.1.below b9, HJ.out.2.1.below b9, HJ.out.2.2.below b9⟩)
                          replace HBJ := hide (HBJ.out.trans (b9.mono HBJ.out.size))
                          clear b9
                          go_wp2_with fail
                          refine (in_calls n l2 _ _ r0 HJ.out.2.2).mono ?_
                          rintro e r1 ⟨rfl, b9⟩
                          rw [E2.out]
                          replace HJ := hide (show Ints (fun _ => False) r1 (.slice a0 l0.length c0) l0 ∧ Ints (fun _ => False) r1 (.slice a1 l1.length c1) l1 ∧ Ints (fun _ => False) r1 (.slice a2 l2.length c2) l2 from ⟨HJ.out.1.below b9, HJ.out.2.1.below b9, HJ.out.2.2.below b9⟩)
                          replace HBJ := hide (HBJ.out.trans (b9.mono HBJ.out.size))
                          clear b9
                          go_wp2
                          go_roundw
                          case rel => exact ⟨n + 1, by omega, by go_num, HBJ⟩
                          case measure => simp [intOf]; omega
                    | true =>
                      cases x3 with
                      | false =>
                        have HJ := HI3
                        have HBJ := HB4
                        clear HI3 HB4
                        go_wp2_with fail
                        refine (in_calls n l1 _ _ q3 HJ.out.2.1).mono ?_
                        rintro e r0 ⟨rfl, b9⟩
                        rw [E1.out]
                        replace HJ := hide (show Ints (fun _ => False) r0 (.slice a0 l0.length c0) l0 ∧ Ints (fun _ => False) r0 (.slice a1 l1.length c1) l1 ∧ Ints (fun _ => False) r0 (.slice a2 l2.length c2) l2 from ⟨HJ.out.1.below b9, HJ.out.2.1.below b9, HJ.out.2.2.below b9⟩)
                        replace HBJ := hide (HBJ.out.trans (b9.mono HBJ.out.size))
                        clear b9
                        go_wp2_with fail
                        refine (in_calls n l0 _ _ r0 HJ.out.1).mono ?_
                        rintro e r1 ⟨rfl, b9⟩
                        rw [E0.out]
                        replace HJ := hide (show Ints (fun _ => False) r1 (.slice a0 l0.length c0) l0 ∧ Ints (fun _ => False) r1 (.slice a1 l1.length c1) l1 ∧ Ints (fun _ => False) r1 (.slice a2 l2.length c2) l2 from ⟨HJ.out.1.below b9, HJ.out.2.1.below b9, HJ.out.2.2.below b9⟩)
                        replace HBJ := hide (HBJ.out.trans (b9.mono HBJ.out.size))
                        clear b9
                        go_wp2_with fail
                        refine (in_calls n l2 _ _ r1 HJ.out.2.2).mono ?_
                        rintro e r2 ⟨rfl, b9⟩
                        rw [E2.out]
                        replace HJ := hide (show Ints (fun _ => False) r2 (.slice a0 l0.length c0) l0 ∧ Ints (fun _ => False) r2 (.slice a1 l1.length c1) l1 ∧ Ints (fun _ => False) r2 (.slice a2 l2.length c2) l2 from ⟨HJ.out.1.below b9, HJ.out.2.1.below b9, HJ.out.2.2.below b9⟩)
                        replace HBJ := hide (HBJ.out.trans (b9.mono HBJ.out.size))
                        clear b9
                        go_wp2
                        go_roundw
                        case rel => exact ⟨n + 1, by omega, by go_num, HBJ⟩
                        case measure => simp [intOf]; omega
                      | true =>
                        by_cases he3 : e3 = 0
                        · subst he3
                          have HJ := HI3
                          have HBJ := HB4
                          clear HI3 HB4
                          go_wp2_with fail
                          refine (in_calls n l1 _ _ q3 HJ.out.2.1).mono ?_
                          rintro e r0 ⟨rfl, b9⟩
                          rw [E1.out]
                          replace HJ := hide (show Ints (fun _ => False) r0 (.slice a0 l0.length c0) l0 ∧ Ints (fun _ => False) r0 (.slice a1 l1.length c1) l1 ∧ Ints (fun _ => False) r0 (.slice a2 l2.length c2) l2 from ⟨HJ.out.1.below b9, HJ.out.2.1.below b9, HJ.out.2.2.below b9⟩)
                          replace HBJ := hide (HBJ.out.trans (b9.mono HBJ.out.size))
                          clear b9
                          go_wp2_with fail
                          refine (in_calls n l2 _ _ r0 HJ.out.2.2).mono ?_
                          rintro e r1 ⟨rfl, b9⟩
                          rw [E2.out]
                          replace HJ := hide (show Ints (fun _ => False) r1 (.slice a0 l0.length c0) l0 ∧ Ints (fun _ => False) r1 (.slice a1 l1.length c1) l1 ∧ Ints (fun _ => False) r1 (.slice a2 l2.length c2) l2 from ⟨HJ.out.1.below b9, HJ.out.2.1.below b9, HJ.out.2.2.below b9⟩)
                          replace HBJ := hide (HBJ.out.trans (b9.mono HBJ.out.size))
                          clear b9
                          go_wp2_with fail
                          refine (in_calls n l0 _ _ r1 HJ.out.1).mono ?_
                          rintro e r2 ⟨rfl, b9⟩
                          rw [E0.out]
                          replace HJ := hide (show Ints (fun _ => False) r2 (.slice a0 l0.length c0) l0 ∧ Ints (fun _ => False) r2 (.slice a1 l1.length c1) l1 ∧ Ints (fun _ => False) r2 (.slice a2 l2.length c2) l2 from ⟨HJ.out.1.below b9, HJ.out.2.1.below b9, HJ.out.2.2.below b9⟩)
                          replace HBJ := hide (HBJ.out.trans (b9.mono HBJ.out.size))
                          clear b9
                          go_wp2_with fail
                          refine (in_calls n l2 _ _ r2 HJ.out.2.2).mono ?_
                          rintro e r3 ⟨rfl, b9⟩
                          rw [E2.out]
                          replace HJ := hide (show Ints (fun _ => False) r3 (.slice a0 l0.length c0) l0 ∧ Ints (fun _ => False) r3 (.slice a1 l1.length c1) l1 ∧ Ints (fun _ => False) r3 (.slice a2 l2.length c2) l2 from ⟨HJ.out.1.below b9, HJ.out.2.1.below b9, HJ.out.2.2.below b9⟩)
                          replace HBJ := hide (HBJ.out.trans (b9.mono HBJ.out.size))
                          clear b9
                          go_wp2
                          go_roundw
                          case rel => exact ⟨n + 1, by omega, by go_num, HBJ⟩
                          case measure => simp [intOf]; omega
                        · have he4 : (e3 == 0) = false := by simp [he3]
                          have HJ := HI3
                          have HBJ := HB4
                          clear HI3 HB4
                          go_wp2_with fail
                          refine (in_calls n l1 _ _ q3 HJ.out.2.1).mono ?_
                          rintro e r0 ⟨rfl, b9⟩
                          rw [E1.out]
                          replace HJ := hide (show Ints (fun _ => False) r0 (.slice a0 l0.length c0) l0 ∧ Ints (fun _ => False) r0 (.slice a1 l1.length c1) l1 ∧ Ints (fun _ => False) r0 (.slice a2 l2.length c2) l2 from ⟨HJ.out.1.below b9, HJ.out.2.1.below b9, HJ.out.2.2.below b9⟩)
                          replace HBJ := hide (HBJ.out.trans (b9.mono HBJ.out.size))
                          clear b9
                          go_wp2_with fail
                          refine (in_calls n l0 _ _ r0 HJ.out.1).mono ?_
                          rintro e r1 ⟨rfl, b9⟩
                          rw [E0.out]
                          replace HJ := hide (show Ints (fun _ => False) r1 (.slice a0 l0.length c0) l0 ∧ Ints (fun _ => False) r1 (.slice a1 l1.length c1) l1 ∧ Ints (fun _ => False) r1 (.slice a2 l2.length c2) l2 from ⟨HJ.out.1.below b9, HJ.out.2.1.below b9, HJ.out.2.2.below b9⟩)
                          replace HBJ := hide (HBJ.out.trans (b9.mono HBJ.out.size))
                          clear b9
                          go_wp2_with fail
                          refine (in_calls n l2 _ _ r1 HJ.out.2.2).mono ?_
                          rintro e r2 ⟨rfl, b9⟩
                          rw [E2.out]
                          replace HJ := hide (show Ints (fun _ => False) r2 (.slice a0 l0.length c0) l0 ∧ Ints (fun _ => False) r2 (.slice a1 l1.length c1) l1 ∧ Ints (fun _ => False) r2 (.slice a2 l2.length c2) l2 from ⟨HJ.out.1.below b9, HJ.out.2.1.below b9, HJ.out.2.2.below b9⟩)
                          replace HBJ := hide (HBJ.out.trans (b9.mono HBJ.out.size))
                          clear b9
                          go_wp2
                          go_roundw
                          case rel => exact ⟨n + 1, by omega, by go_num, HBJ⟩
                          case measure => simp [intOf]; omega
                  | true =>
                    cases x2 with
                    | false =>
                      cases x3 with
                      | false =>
                        have HJ := HI3
                        have HBJ := HB4
                        clear HI3 HB4
                        go_wp2_with fail
                        refine (in_calls n l0 _ _ q3 HJ.out.1).mono ?_
                        rintro e r0 ⟨rfl, b9⟩
                        rw [E0.out]
                        replace HJ := hide (show Ints (fun _ => False) r0 (.slice a0 l0.length c0) l0 ∧ Ints (fun _ => False) r0 (.slice a1 l1.length c1) l1 ∧ Ints (fun _ => False) r0 (.slice a2 l2.length c2) l2 from ⟨HJ.out.1.below b9, HJ.out.2.1.below b9, HJ.out.2.2.below b9⟩)
                        replace HBJ := hide (HBJ.out.trans (b9.mono HBJ.out.size))
                        clear b9
                        go_wp2_with fail
                        refine (in_calls n l0 _ _ r0 HJ.out.1).mono ?_
                        rintro e r1 ⟨rfl, b9⟩
                        rw [E0.out]
                        replace HJ := hide (show Ints (fun _ => False) r1 (.slice a0 l0.length c0) l0 ∧ Ints (fun _ => False) r1 (.slice a1 l1.length c1) l1 ∧ Ints (fun _ => False) r1 (.slice a2 l2.length c2) l2 from ⟨HJ.out.1.below b9, HJ.out.2.1.below b9, HJ.out.2.2.below b9⟩)
                        replace HBJ := hide (HBJ.out.trans (b9.mono HBJ.out.size))
                        clear b9
                        go_wp2_with fail
                        refine (in_calls n l2 _ _ r1 HJ.out.2.2).mono ?_
                        rintro e r2 ⟨rfl, b9⟩
                        rw [E2.out]
                        replace HJ := hide (show Ints (fun _ => False) r2 (.slice a0 l0.length c0) l0 ∧ Ints (fun _ => False) r2 (.slice a1 l1.length c1) l1 ∧ Ints (fun _ => False) r2 (.slice a2 l2.length c2) l2 from ⟨HJ.out.1.below b9, HJ.out.2.1.below b9, HJ.out.2.2.below b9⟩)
                        replace HBJ := hide (HBJ.out.trans (b9.mono HBJ.out.size))
                        clear b9
                        go_wp2
                        go_roundw
                        case rel => exact ⟨n + 1, by omega, by go_num, HBJ⟩
                        case measure => simp [intOf]; omega
                      | true =>
                        by_cases he3 : e3 = 0
                        · subst he3
                          have HJ := HI3
                          have HBJ := HB4
                          clear HI3 HB4
                          go_wp2_with fail
                          refine (in_calls n l0 _ _ q3 HJ.out.1).mono ?_
                          rintro e r0 ⟨rfl, b9⟩
                          rw [E0.out]
                          replace HJ := hide (show Ints (fun _ => False) r0 (.slice a0 l0.length c0) l0 ∧ Ints (fun _ => False) r0 (.slice a1 l1.length c1) l1 ∧ Ints (fun _ => False) r0 (.slice a2 l2.length c2) l2 from ⟨HJ.out.1.below b9, HJ.out.2.1.below b9, HJ.out.2.2.below b9⟩)
                          replace HBJ := hide (HBJ.out.trans (b9.mono HBJ.out.size))
                          clear b9
                          go_wp2_with fail
                          refine (in_calls n l2 _ _ r0 HJ.out.2.2).mono ?_
                          rintro e r1 ⟨rfl, b9⟩
                          rw [E2.out]
                          replace HJ := hide (show Ints (fun _ => False) r1 (.slice a0 l0.length c0) l0 ∧ Ints (fun _ => False) r1 (.slice a1 l1.length c1) l1 ∧ Ints (fun _ => False) r1 (.slice a2 l2.length c2) l2 from ⟨HJ.out.1.below b9, HJ.out.2.1.below b9, HJ.out.2.2.below b9⟩)
                          replace HBJ := hide (HBJ.out.trans (b9.mono HBJ.out.size))
                          clear b9
                          go_wp2_with fail
                          refine (in_calls n l0 _ _ r1 HJ.out.1).mono ?_
                          rintro e r2 ⟨rfl, b9⟩
                          rw [E0.out]
                          replace HJ := hide (show Ints (fun _ => False) r2 (.slice a0 l0.length c0) l0 ∧ Ints (fun _ => False) r2 (.slice a1 l1.length c1) l1 ∧ Ints (fun _ => False) r2 (.slice a2 l2.length c2) l2 from ⟨HJ.out.1.below b9, HJ.out.2.1.below b9, HJ.out.2.2.below b9⟩)
                          replace HBJ := hide (HBJ.out.trans (b9.mono HBJ.out.size))
                          clear b9
                          go_wp2_with fail
                          refine (in_calls n l2 _ _ r2 HJ.out.2.2).mono ?_
                          rintro e r3 ⟨rfl, b9⟩
                          rw [E2.out]
                          replace HJ := hide (show Ints (fun _ => False) r3 (.slice a0 l0.length c0) l0 ∧ Ints (fun _ => False) r3 (.slice a1 l1.length c1) l1 ∧ Ints (fun _ => False) r3 (.slice a2 l2.length c2) l2 from ⟨HJ.out.1.below b9, HJ.out.2.1.below b9, HJ.out.2.2.below b9⟩)
                          replace HBJ := hide (HBJ.out.trans (b9.mono HBJ.out.size))
                          clear b9
                          go_wp2
                          go_roundw
                          case rel => exact ⟨n + 1, by omega, by go_num, HBJ⟩
                          case measure => simp [intOf]; omega
                        · have he4 : (e3 == 0) = false := by simp [he3]
                          have HJ := HI3
                          have HBJ := HB4
                          clear HI3 HB4
                          go_wp2_with fail
                          refine (in_calls n l0 _ _ q3 HJ.out.1).mono ?_
                          rintro e r0 ⟨rfl, b9⟩
                          rw [E0.out]
                          replace HJ := hide (show Ints (fun _ => False) r0 (.slice a0 l0.length c0) l0 ∧ Ints (fun _ => False) r0 (.slice a1 l1.length c1) l1 ∧ Ints (fun _ => False) r0 (.slice a2 l2.length c2) l2 from ⟨HJ.out.1.below b9, HJ.out.2.1.below b9, HJ.out.2.2.below b9⟩)
                          replace HBJ := hide (HBJ.out.trans (b9.mono HBJ.out.size))
                          clear b9
                          go_wp2_with fail
                          refine (in_calls n l0 _ _ r0 HJ.out.1).mono ?_
                          rintro e r1 ⟨rfl, b9⟩
                          rw [E0.out]
                          replace HJ := hide (show Ints (fun _ => False) r1 (.slice a0 l0.length c0) l0 ∧ Ints (fun _ => False) r1 (.slice a1 l1.length c1) l1 ∧ Ints (fun _ => False) r1 (.slice a2 l2.length c2) l2 from ⟨HJ.out.1.below b9, HJ.out.2.1.below b9, HJ.out.2.2.below b9⟩)
                          replace HBJ := hide (HBJ.out.trans (b9.mono HBJ.out.size))
                          clear b9
                          go_wp2_with fail
                          refine (in_calls n l2 _ _ r1 HJ.out.2.2).mono ?_
                          rintro e r2 ⟨rfl, b9⟩
                          rw [E2.out]
                          replace HJ := hide (show Ints (fun _ => False) r2 (.slice a0 l0.length c0) l0 ∧ Ints (fun _ => False) r2 (.slice a1 l1.length c1) l1 ∧ Ints (fun _ => False) r2 (.slice a2 l2.length c2) l2 from ⟨HJ.out.1.below b9, HJ.out.2.1.below b9, HJ.out.2.2.below b9⟩)
                          replace HBJ := hide (HBJ.out.trans (b9.mono HBJ.out.size))
                          clear b9
                          go_wp2
                          go_roundw
                          case rel => exact ⟨n + 1, by omega, by go_num, HBJ⟩
                          case measure => simp [intOf]; omega
                    | true =>
                      cases x3 with
                      | false =>
                        have HJ := HI3
                        have HBJ := HB4
                        clear HI3 HB4
                        go_wp2_with fail
                        refine (in_calls n l0 _ _ q3 HJ.out.1).mono ?_
                        rintro e r0 ⟨rfl, b9⟩
                        rw [E0.out]
                        replace HJ := hide (show Ints (fun _ => False) r0 (.slice a0 l0.length c0) l0 ∧ Ints (fun _ => False) r0 (.slice a1 l1.length c1) l1 ∧ Ints (fun _ => False) r0 (.slice a2 l2.length c2) l2 from ⟨HJ.out.1.below b9, HJ.out.2.1.below b9, HJ.out.2.2.below b9⟩)
                        replace HBJ := hide (HBJ.out.trans (b9.mono HBJ.out.size))
                        clear b9
                        go_wp2_with fail
                        refine (in_calls n l1 _ _ r0 HJ.out.2.1).mono ?_
                        rintro e r1 ⟨rfl, b9⟩
                        rw [E1.out]
                        replace HJ := hide (show Ints (fun _ => False) r1 (.slice a0 l0.length c0) l0 ∧ Ints (fun _ => False) r1 (.slice a1 l1.length c1) l1 ∧ Ints (fun _ => False) r1 (.slice a2 l2.length c2) l2 from ⟨HJ.out.1.below b9, HJ.out.2.1.below b9, HJ.out.2.2.below b9⟩)
                        replace HBJ := hide (HBJ.out.trans (b9.mono HBJ.out.size))
                        clear b9
                        go_wp2_with fail
                        refine (in_calls n l0 _ _ r1 HJ.out.1).mono ?_
                        rintro e r2 ⟨rfl, b9⟩
                        rw [E0.out]
                        replace HJ := hide (show Ints (fun _ => False) r2 (.slice a0 l0.length c0) l0 ∧ Ints (fun _ => False) r2 (.slice a1 l1.length c1) l1 ∧ Ints (fun _ => False) r2 (.slice a2 l2.length c2) l2 from ⟨HJ.out.1.below b9, HJ.out.2.1.below b9, HJ.out.2.2.below b9⟩)
                        replace HBJ := hide (HBJ.out.trans (b9.mono HBJ.out.size))
                        clear b9
                        go_wp2_with fail
                        refine (in_calls n l2 _ _ r2 HJ.out.2.2).mono ?_
                        rintro e r3 ⟨rfl, b9⟩
                        rw [E2.out]
                        replace HJ := hide (show Ints (fun _ => False) r3 (.slice a0 l0.length c0) l0 ∧ Ints (fun _ => False) r3 (.slice a1 l1.length c1) l1 ∧ Ints (fun _ => False) r3 (.slice a2 l2.length c2) l2 from ⟨HJ.out.1.below b9, HJ.out.2.1.below b9, HJ.out.2.2.below b9⟩)
                        replace HBJ := hide (HBJ.out.trans (b9.mono HBJ.out.size))
                        clear b9
                        go_wp2
                        go_roundw
                        case rel => exact ⟨n + 1, by omega, by go_num, HBJ⟩
                        case measure => simp [intOf]; omega
                      | true =>
                        by_cases he3 : e3 = 0
                        · subst he3
                          have HJ := HI3
                          have HBJ := HB4
                          clear HI3 HB4
                          go_wp2_with fail
                          refine (in_calls n l0 _ _ q3 HJ.out.1).mono ?_
                          rintro e r0 ⟨rfl, b9⟩
                          rw [E0.out]
                          replace HJ := hide (show Ints (fun _ => False) r0 (.slice a0 l0.length c0) l0 ∧ Ints (fun _ => False) r0 (.slice a1 l1.length c1) l1 ∧ Ints (fun _ => False) r0 (.slice a2 l2.length c2) l2 from ⟨HJ.out.1.below b9, HJ.out.2.1.below b9, HJ.out.2.2.below b9⟩)
                          replace HBJ := hide (HBJ.out.trans (b9.mono HBJ.out.size))
                          clear b9
                          go_wp2_with fail
                          refine (in_calls n l1 _ _ r0 HJ.out.2.1).mono ?_
                          rintro e r1 ⟨rfl, b9⟩
                          rw [E1.out]
                          replace HJ := hide (show Ints (fun _ => False) r1 (.slice a0 l0.length c0) l0 ∧ Ints (fun _ => False) r1 (.slice a1 l1.length c1) l1 ∧ Ints (fun _ => False) r1 (.slice a2 l2.length c2) l2 from ⟨HJ.out.1.below b9, HJ.out.2.1.below b9, HJ.out.2.2.below b9⟩)
                          replace HBJ := hide (HBJ.out.trans (b9.mono HBJ.out.size))
                          clear b9
                          go_wp2_with fail
                          refine (in_calls n l2 _ _ r1 HJ.out.2.2).mono ?_
                          rintro e r2 ⟨rfl, b9⟩
                          rw [E2.out]
                          replace HJ := hide (show Ints (fun _ => False) r2 (.slice a0 l0.length c0) l0 ∧ Ints (fun _ => False) r2 (.slice a1 l1.length c1) l1 ∧ Ints (fun _ => False) r2 (.slice a2 l2.length c2) l2 from ⟨HJ.out.1.below b9, HJ.out.2.1.below b9, HJ.out.2.2.below b9⟩)
                          replace HBJ := hide (HBJ.out.trans (b9.mono HBJ.out.size))
                          clear b9
                          go_wp2_with fail
                          refine (in_calls n l0 _ _ r2 HJ.out.1).mono ?_
                          rintro e r3 ⟨rfl, b9⟩
                          rw [E0.out]
                          replace HJ := hide (show Ints (fun _ => False) r3 (.slice a0 l0.length c0) l0 ∧ Ints (fun _ => False) r3 (.slice a1 l1.length c1) l1 ∧ Ints (fun _ => False) r3 (.slice a2 l2.length c2) l2 from ⟨HJ.out.1.below b9, HJ.out.2.1.below b9, HJ.out.2.2.below b9⟩)
                          replace HBJ := hide (HBJ.out.trans (b9.mono HBJ.out.size))
                          clear b9
                          go_wp2_with fail
                          refine (in_calls n l2 _ _ r3 HJ.out.2.2).mono ?_
                          rintro e r4 ⟨rfl, b9⟩
                          rw [E2.out]
                          replace HJ := hide (show Ints (fun _ => False) r4 (.slice a0 l0.length c0) l0 ∧ Ints (fun _ => False) r4 (.slice a1 l1.length c1) l1 ∧ Ints (fun _ => False) r4 (.slice a2 l2.length c2) l2 from ⟨HJ.out.1.below b9, HJ.out.2.1.below b9, HJ.out.2.2.below b9⟩)
                          replace HBJ := hide (HBJ.out.trans (b9.mono HBJ.out.size))
                          clear b9
                          go_wp2
                          go_roundw
                          case rel => exact ⟨n + 1, by omega, by go_num, HBJ⟩
                          case measure => simp [intOf]; omega
                        · have he4 : (e3 == 0) = false := by simp [he3]
                          have HJ := HI3
                          have HBJ := HB4
                          clear HI3 HB4
                          go_wp2_with fail
                          refine (in_calls n l0 _ _ q3 HJ.out.1).mono ?_
                          rintro e r0 ⟨rfl, b9⟩
                          rw [E0.out]
                          replace HJ := hide (show Ints (fun _ => False) r0 (.slice a0 l0.length c0) l0 ∧ Ints (fun _ => False) r0 (.slice a1 l1.length c1) l1 ∧ Ints (fun _ => False) r0 (.slice a2 l2.length c2) l2 from ⟨HJ.out.1.below b9, HJ.out.2.1.below b9, HJ.out.2.2.below b9⟩)
                          replace HBJ := hide (HBJ.out.trans (b9.mono HBJ.out.size))
                          clear b9
                          go_wp2_with fail
                          refine (in_calls n l1 _ _ r0 HJ.out.2.1).mono ?_
                          rintro e r1 ⟨rfl, b9⟩
                          rw [E1.out]
                          replace HJ := hide (show Ints (fun _ => False) r1 (.slice a0 l0.length c0) l0 ∧ Ints (fun _ => False) r1 (.slice a1 l1.length c1) l1 ∧ Ints (fun _ => False) r1 (.slice a2 l2.length c2) l2 from ⟨HJ.out.1.below b9, HJ.out.2.1.below b9, HJ.out.2.2.below b9⟩)
                          replace HBJ := hide (HBJ.out.trans (b9.mono HBJ.out.size))
                          clear b9
                          go_wp2_with fail
                          refine (in_calls n l0 _ _ r1 HJ.out.1).mono ?_
                          rintro e r2 ⟨rfl, b9⟩
                          rw [E0.out]
                          replace HJ := hide (show Ints (fun _ => False) r2 (.slice a0 l0.length c0) l0 ∧ Ints (fun _ => False) r2 (.slice a1 l1.length c1) l1 ∧ Ints (fun _ => False) r2 (.slice a2 l2.length c2) l2 from ⟨HJ.out.1.below b9, HJ.out.2.1.below b9, HJ.out.2.2.below b9⟩)
                          replace HBJ := hide (HBJ.out.trans (b9.mono HBJ.out.size))
                          clear b9
                          go_wp2_with fail
                          refine (in_calls n l2 _ _ r2 HJ.out.2.2).mono ?_
                          rintro e r3 ⟨rfl, b9⟩
                          rw [E2.out]
                          replace HJ := hide (show Ints (fun _ => False) r3 (.slice a0 l0.length c0) l0 ∧ Ints (fun _ => False) r3 (.slice a1 l1.length c1) l1 ∧ Ints (fun _ => False) r3 (.slice a2 l2.length c2) l2 from ⟨HJ.out.1.below b9, HJ.out.2.1.below b9, HJ.out.2.2.below b9⟩)
                          replace HBJ := hide (HBJ.out.trans (b9.mono HBJ.out.size))
                          clear b9
                          go_wp2
                          go_roundw
                          case rel => exact ⟨n + 1, by omega, by go_num, HBJ⟩
                          case measure => simp [intOf]; omega
          · go_wp2_with fail
            refine (awake17_calls wr).mono ?_
            rintro e p5 ⟨rfl, b9⟩
            have HB5 := hide (HB3.out.trans ((more_below HB.out b9).mono HB3.out.size))
            go_wp2
            go_ret
            exact ⟨rfl, HB5.out⟩
end Go.Proofs.YtneecjikdghchaaDoor
