/- elenchusref06.Bank: Put, Term, Args, walked. -/
import Derived.Test.YtefmgooceeigbaaDoorRPut
set_option linter.unusedSimpArgs false
set_option linter.unusedVariables false
namespace Go.Proofs.YtefmgooceeigbaaDoor
open Go.RowKit

def putRB (L : List Tm) (t : Tm) : List Tm × Int × Int := if chk t = 0 then ((rputT L t).1, numV (rputT L t).2, errV (rputT L t).2) else (L, 0, 1)
set_option maxHeartbeats 1000000 in
set_option maxRecDepth 100000 in
theorem rPut_calls (yb base : Nat) (A : Nat → Prop) (t : Tm) (L : List Tm) (lv : Value) (h : Int) (s : Value) (w : World) (hsz : t.size ≤ 1000000) (hlo : LOk L 1000000) (hx : RBk w A yb L lv base) (hs : IsTm (RZ yb lv) w h s t) :
    Calls Tryd.prog 17 #[.pointer (some ⟨yb, 0, none⟩), .agg #[.int .i64 h, s]] w fun e w' => e = .returned (.tuple #[.int .i64 (putRB L t).2.1, .int .i64 (putRB L t).2.2]) ∧ ∃ lv', RBk w' A yb (putRB L t).1 lv' base ∧ Moved (RZ yb lv) (RZ yb lv') w w' := by
  obtain ⟨rfl, a, c, rfl, hlc, hc⟩ := hs.shape
  have h0 : Below w.heap.size w (w.alloc (.cells #[.int .i64 t.h, .slice a t.args.length c] 26)) := (Below.refl _ _).alloc (Nat.le_refl _) _
  have k0 := World.alloc_heap_new w (.cells #[.int .i64 t.h, .slice a t.args.length c] 26)
  have HX := hide (hx.below h0)
  have HS := hide (hs.below h0)
  have HB := hide h0
  have HK := hide k0
  have HL := hide hlo
  clear hx hs h0 k0 hlo
  go_enter Tryd.func17, Tryd.ntmps17
  go_wp2_with fail
  generalize w.alloc (.cells #[.int .i64 t.h, .slice a t.args.length c] 26) = W at *
  refine (right_calls t _ _ _ W (by omega) HS.out).mono ?_
  rintro e w1 ⟨rfl, b1⟩
  have HX1 := hide (HX.out.below b1)
  have HS1 := hide (HS.out.below b1)
  have HB1 := hide (more_below HB.out b1)
  have HK1 := (b1.block _ (Array.getElem?_eq_some_iff.1 HK.out).1).trans HK.out
  obtain ⟨-, z0, z1, -, -⟩ := box2 HK1
  clear HX HS HB HK HK1 b1
  by_cases hc0 : chk t = 0
  · have hd : rightB t = true := by simp [rightB, hc0]
    have HP := hide (show putRB L t = ((rputT L t).1, numV (rputT L t).2, errV (rputT L t).2) by rw [putRB, if_pos hc0])
    rw [hd]
    clear hc0 hd
    go_wp2_with fail
    refine (rbput_calls yb base t.size A t L lv _ _ w1 (Nat.le_refl _) hsz HL.out HX1.out HS1.out).mono ?_
    rintro e w2 ⟨rfl, lv', x2, m2⟩
    have HX2 := hide x2
    have HM2 := hide ((Moved.of_below (Z := RZ yb lv) HB1.out).trans m2)
    clear x2 m2 HX1 HS1 HB1
    go_wp2
    go_ret2
    rw [HP.out]
    exact ⟨rfl, lv', HX2.out, HM2.out⟩
  · have hd : rightB t = false := by simp [rightB, hc0]
    have HP := hide (show putRB L t = (L, 0, 1) by rw [putRB, if_neg hc0])
    rw [hd]
    clear hc0 hd
    go_wp2
    go_ret2
    rw [HP.out]
    exact ⟨rfl, lv, HX1.out, Moved.of_below HB1.out⟩

def RTermPost (A : Nat → Prop) (L : List Tm) (n : Int) (w : World) (e : Ending) (w' : World) : Prop :=
  ∃ h s c, e = .returned (.tuple #[.agg #[.int .i64 h, s], .int .i64 c]) ∧ Below w.heap.size w w' ∧
    ((∃ (i : Nat) (hi : i < L.length), n = i ∧ h = (L[i]).h ∧ Terms A w' s (L[i]).args ∧ c = 0) ∨ ((n < 0 ∨ (L.length : Int) ≤ n) ∧ h = 0 ∧ s = .slice none 0 0 ∧ c = 6))
set_option maxHeartbeats 2000000 in
set_option maxRecDepth 100000 in
theorem rterm_calls (yb base : Nat) (A : Nat → Prop) (L : List Tm) (lv : Value) (n : Int) (w : World) (hl : L.length ≤ 4096) (hx : RBk w A yb L lv base) :
    Calls Tryd.prog 20 #[.pointer (some ⟨yb, 0, none⟩), .int .i64 n] w (RTermPost (fun b => A b ∨ RZ yb lv b) L n w) := by
  obtain ⟨a, c, hlv, hrow⟩ := hx.row
  obtain ⟨hxl, q0, -⟩ := box1 hx.x
  rw [hlv] at q0
  have HX := hide hx
  have h0 : Below w.heap.size w (w.alloc (.cells #[.int .i64 0, .slice none 0 0] 26)) := (Below.refl _ _).alloc (Nat.le_refl _) _
  have HS := hide h0
  have k0 := World.alloc_heap_new w (.cells #[.int .i64 0, .slice none 0 0] 26)
  clear hx h0
  by_cases hn : n < 0
  · go_enter Tryd.func20, Tryd.ntmps20
    go_wp2
    exact bodyPost_ret (v := .tuple #[.agg #[.int .i64 0, .slice none 0 0], .int .i64 6]) (by simp [results, Tryd.results20, go_sem]) rfl ⟨_, _, _, rfl, HS.out, .inr ⟨.inl hn, rfl, rfl, rfl⟩⟩
  by_cases hl' : (L.length : Int) ≤ n
  · have hd : decide (n ≥ (L.length : Int)) = true := by simp; omega
    go_enter Tryd.func20, Tryd.ntmps20
    go_wp2
    exact bodyPost_ret (v := .tuple #[.agg #[.int .i64 0, .slice none 0 0], .int .i64 6]) (by simp [results, Tryd.results20, go_sem]) rfl ⟨_, _, _, rfl, HS.out, .inr ⟨.inr hl', rfl, rfl, rfl⟩⟩
  · obtain ⟨i, rfl⟩ : ∃ i : Nat, n = i := ⟨n.toNat, by omega⟩
    have hi : i < L.length := by omega
    obtain ⟨b, s, rfl, g0, g1, g2⟩ := hrow i hi
    have hbl : b < w.heap.size := World.block_lt_of_cell? _ _ g0
    have hd : decide ((i : Int) ≥ (L.length : Int)) = false := by simp; omega
    obtain ⟨sa, sc, rfl, -, -⟩ := g2.shape
    have G2 := hide g2
    have HB := hide (show Below w.heap.size w (w.alloc (.cells #[.int .i64 (L[i]).h, .slice sa (L[i]).args.length sc] 26)) from (Below.refl _ _).alloc (Nat.le_refl _) _)
    clear hrow g2 hn hl' HS
    go_enter Tryd.func20, Tryd.ntmps20
    go_wp2
    exact bodyPost_ret (v := .tuple #[.agg #[.int .i64 (L[i]).h, .slice sa (L[i]).args.length sc], .int .i64 0]) (by simp [results, Tryd.results20, go_sem]) rfl ⟨_, _, _, rfl, HB.out, .inl ⟨i, hi, rfl, rfl, G2.out.below HB.out, rfl⟩⟩

def RArgsPost (L : List Tm) (n : Int) (w : World) (e : Ending) (w' : World) : Prop :=
  ∃ v l c, e = .returned (.tuple #[v, .int .i64 c]) ∧ Below w.heap.size w w' ∧ Ints (fun b => b < w.heap.size) w' v l ∧
    ((∃ (i : Nat) (hi : i < L.length), n = i ∧ l = (L[i]).args.map (fun u => numV (rfind L u)) ∧ c = 0) ∨ ((n < 0 ∨ (L.length : Int) ≤ n) ∧ l = [] ∧ c = 6))
def argNums (L l : List Tm) : List Value := (l.map fun u => numV (rfind L u)).map (Value.int .i64)
theorem argNums_snoc (L l : List Tm) (k : Nat) (h : k < l.length) : argNums L (l.take k) ++ [Value.int .i64 (numV (rfind L l[k]))] = argNums L (l.take (k + 1)) := by
  rw [List.take_succ_eq_append_getElem h, argNums, argNums, List.map_append, List.map_append]; rfl
set_option maxHeartbeats 4000000 in
set_option maxRecDepth 100000 in
theorem rargs_calls (yb base : Nat) (A : Nat → Prop) (L : List Tm) (lv : Value) (n : Int) (w : World) (hlo : LOk L 1000000) (hx : RBk w A yb L lv base) :
    Calls Tryd.prog 22 #[.pointer (some ⟨yb, 0, none⟩), .int .i64 n] w (RArgsPost L n w) := by
  obtain ⟨a, c, hlv, hrow⟩ := hx.row
  obtain ⟨hxl, q0, -⟩ := box1 hx.x
  rw [hlv] at q0
  have HX := hide hx
  have HLO := hide hlo
  have hl := hlo.2
  clear hx hlo
  by_cases hn : n < 0
  · go_enter Tryd.func22, Tryd.ntmps22
    go_wp2
    go_ret2
    exact ⟨_, [], _, rfl, Below.refl _ _, Ints.nil _ _, .inr ⟨.inl hn, rfl, rfl⟩⟩
  by_cases hl' : (L.length : Int) ≤ n
  · have hd : decide (n ≥ (L.length : Int)) = true := by simp; omega
    go_enter Tryd.func22, Tryd.ntmps22
    go_wp2
    go_ret2
    exact ⟨_, [], _, rfl, Below.refl _ _, Ints.nil _ _, .inr ⟨.inr hl', rfl, rfl⟩⟩
  · obtain ⟨i, rfl⟩ : ∃ i : Nat, n = i := ⟨n.toNat, by omega⟩
    have hi : i < L.length := by omega
    obtain ⟨b, s, rfl, g0, g1, g2⟩ := hrow i hi
    have hbl : b < w.heap.size := World.block_lt_of_cell? _ _ g0
    have hd : decide ((i : Int) ≥ (L.length : Int)) = false := by simp; omega
    obtain ⟨sa, sc, rfl, -, -⟩ := g2.shape
    have hz := HLO.out.1 L[i] (List.getElem_mem hi)
    have HZ := hide hz
    have hal : (L[i]).args.length ≤ 1000000 := by have := (L[i]).size_eq; have := Tm.sizes_length (L[i]).args; omega
    have HAL := hide hal
    have G2 := hide g2
    have hb0 : Below w.heap.size w (w.alloc (.cells #[.int .i64 (L[i]).h, .slice sa (L[i]).args.length sc] 26)) := (Below.refl _ _).alloc (Nat.le_refl _) _
    have HB := hide hb0
    have HK := hide (World.alloc_heap_new w (.cells #[.int .i64 (L[i]).h, .slice sa (L[i]).args.length sc] 26))
    clear hrow g2 hn hl' hb0 hz
    go_enter Tryd.func22, Tryd.ntmps22
    go_wp2
    generalize w.alloc (.cells #[.int .i64 (L[i]).h, .slice sa (L[i]).args.length sc] 26) = W at *
    go_loopw [6, 8] (fun q p wr => ∃ k : Nat, p = .int .i64 k ∧ k ≤ (L[i]).args.length ∧ Hid (Below w.heap.size w wr) ∧ Hid (wr.heap[w.heap.size]? = some (.cells #[.int .i64 (L[i]).h, .slice sa (L[i]).args.length sc] 26 (0, 0))) ∧ Hid (wr.ownsRow (w.heap.size + 1) 3 1 q k (argNums L ((L[i]).args.take k)))) (fun _ p _ => (L[i]).args.length - (intOf p).toNat)
    case atStart => exact ⟨0, rfl, by omega, HB, HK, hide (World.ownsRow_nil _ _ _ _)⟩
    case round =>
      obtain ⟨k, rfl, hk, HW, HKr, HO⟩ := hrel
      obtain ⟨kl, z0, z1, -, -⟩ := box2 HKr.out
      by_cases hlt : k < (L[i]).args.length
      · obtain ⟨b2, o2, a2, c2, rfl, e0, e1, gt⟩ := G2.out.getW HW.out k hlt
        have HGT := hide gt
        have hks : ((L[i]).args[k]).size ≤ 1000000 := by have := HZ.out; have := (L[i]).size_eq; have := Tm.size_get (L[i]).args k hlt; omega
        clear gt
        go_wp2_with fail
        refine (rfind_calls A _ yb L lv base (L[i]).args[k] _ _ wr (fun u hu => by have := HLO.out.1 u hu; omega) (by omega) (by omega) (HX.out.below HW.out) HGT.out).mono ?_
        rintro e w4 ⟨rfl, b4⟩
        have HW4 := hide (more_below HW.out b4)
        have HK4 := hide ((b4.block _ (Array.getElem?_eq_some_iff.1 HKr.out).1).trans HKr.out)
        have HO4 := hide (ownsRow_keep HO.out (Keep.of_below (S := fun _ => True) b4) fun _ _ => trivial)
        have HS4 := hide (show w.heap.size + 1 ≤ w4.heap.size by have := b4.size; omega)
        have HNB := hide (show (k + 1) * 8 ≤ 140737488355328 by have := HAL.out; omega)
        have HTK := hide (argNums_snoc L (L[i]).args k hlt)
        clear b4 HGT HKr HO HW z0 z1 e0 e1
        generalize numV (rfind L (L[i]).args[k]) = nk at *
        go_wp2_with (at_builtin; refine app_pl rfl _ _ 48 rfl (w.heap.size + 1) 3 (.int .i64 0) 1 8 Tryd.underlying48 (by kernel_rfl) rfl (by decide) (by decide) _ k _ rfl HO4.out 1 1 _ rfl (by simp [Value.oneCell']) rfl HNB.out HS4.out ?_; intro v' w9 r1 r2 r3 r4; obtain ⟨va, vc, rfl⟩ := r4)
        have HO9 := hide (show w9.ownsRow (w.heap.size + 1) 3 1 (.slice va (k + 1) vc) (k + 1) _ from HTK.out ▸ r1)
        have HLTT := HO4.out.lt
        have HW9 := hide (HW4.out.trans (r2.below (fun b hb h => by have := (HLTT b h).1; omega) HW4.out.size))
        have HK9 := hide (r2.obj (fun h => by have := (HLTT _ h).1; omega) HK4.out)
        clear HLTT r1 r2 r3 HW4 HK4 HO4 HS4 HTK
        go_roundw
        case rel => exact ⟨k + 1, by go_num, by omega, HW9, HK9, HO9⟩
        case measure => simp [intOf]; omega
      · obtain rfl : k = (L[i]).args.length := by omega
        have ho := HO.out
        rw [List.take_length] at ho
        have HV := hide (show Ints (fun b => b < w.heap.size) wr _ ((L[i]).args.map fun u => numV (rfind L u)) from Ints.of_own (by rw [List.length_map]; exact ho) fun b hb h => by have := (ho.lt b hb).1; omega)
        clear ho HO HKr
        go_wp2
        go_ret2
        exact ⟨_, _, _, rfl, HW.out, HV.out, .inl ⟨i, hi, rfl, rfl, rfl⟩⟩
end Go.Proofs.YtefmgooceeigbaaDoor
