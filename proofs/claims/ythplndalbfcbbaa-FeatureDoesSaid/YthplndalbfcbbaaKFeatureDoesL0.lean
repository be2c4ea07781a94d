/- What the proof of the law rests on: contracts of the functions, plain laws, and words. -/
import Derived.Test.YthplndalbfcbbaaProg
import Derived.Below
import Derived.Deep.Draws
import Derived.Deep.AppendLies
import Derived.Maps.AppendAt
import Derived.OwnWalk
import Derived.Laws.BytesArg
import Derived.Laws.MakeOwn
import Derived.Laws.OwnMore
import Derived.Deep.OwnRows
import Derived.Tactics
import Derived.Lib.ConvBytes
import Derived.Laws.Slices
import Derived.WalkKit
import Derived.KernelRfl
import Derived.RowKit3
import Derived.Deep.LoopGhost
import Derived.Deep.QuietTactic
import Derived.BigQuiet
import Derived.WideLaws
import Derived.Deep.DeepCutAuto
import Derived.Deep.CutBlock
import Derived.Deep.RegionHeld3
import Derived.Laws.Rows
import Derived.Lib.AppendStr
import Derived.ArgAppend
import Derived.Laws.IdiomCopy
import Derived.OrdersHeld
import Derived.Laws.BitsLemmas
import Derived.RowKit
import Derived.Test.YthplndalbfcbbaaKFeatureDoesU0
namespace Go.Proofs.Ythplndalbfcbbaa.PA
open Go.RowKit Go.Proofs.YthplndalbfcbbaaW.PrintWords Go.Proofs.YthplndalbfcbbaaW.PrintLast Go.Proofs.YthplndalbfcbbaaW.PrintMore
attribute [local go_sem] max2_int min2_int max_two min_two max_three min_three max_four min_four   -- for this text's walks alone
set_option linter.unusedVariables false
set_option linter.unusedSimpArgs false
def errW : Option Int → Value
  | none => .nilIface
  | some c => .iface 0 (.int .i64 c)
theorem errW_none : errW none = .nilIface := rfl
theorem errW_some (c : Int) : errW (some c) = .iface 0 (.int .i64 c) := rfl
theorem info3 : (Try.prog.info? 3).map (fun i => (i.zero, i.size, i.bytes)) = some (some (.int .i64 0), 1, 8) := by kernel_rfl
theorem info25 : (Try.prog.info? 25).map (fun i => (i.zero, i.size, i.bytes)) = some (some (.agg #[(.int .i64 0), (.slice none 0 0)]), 2, 32) := by kernel_rfl
structure S25 where
  f0 : Int
  f1 : (List S25)
def z25 : S25 := ⟨(0 : Int), ([] : List S25)⟩
def F25 (d : Kd S25) : Kd S25 := Kd.iso (Kd.pair (Kd.int .i64) (Kd.slice 25 d)) (fun x : S25 => (x.f0, x.f1))
theorem mono25 : Kd.Mono F25 := Kd.mono_iso _ (Kd.mono_pair (Kd.mono_const _) (Kd.mono_slice 25 Kd.mono_id))
theorem sub25 : Kd.Sub F25 [25] := Kd.sub_iso _ (Kd.sub_pair (Kd.sub_const _ (by decide)) (Kd.sub_slice 25 (by decide) Kd.sub_id))
theorem sz25 : ∀ n, (Kd.upto F25 2 [25] n).sz = 2 := Kd.upto_sz (fun _ => rfl)
def k25 : Kd S25 := Kd.fix F25 2 [25] sz25 (Kd.upto_E sub25)
theorem k25_heap : Kd.Heap k25 := Kd.heap_fix (fun _ h_ => Kd.heap_iso _ (Kd.heap_pair (Kd.heap_int .i64) (Kd.heap_slice 25 h_)))
theorem k25_open {w : World} {x : S25} {cs : List Value} (h : k25.K w x cs) : ∃ A1 c1, cs = [.int .i64 x.f0, .slice A1 x.f1.length c1] ∧ x.f1.length ≤ c1 ∧ k25.C w A1 x.f1.length x.f1 := by
  obtain ⟨n, h⟩ := h
  cases n with
  | zero => exact h.elim
  | succ n =>
    obtain ⟨_, _, rfl, rfl, ⟨A1, c1, rfl, l1, g1⟩⟩ := h
    exact ⟨A1, c1, rfl, l1, Kd.fix_C g1⟩
theorem k25_mk (w : World) (x : S25) {A1 : Option Addr} {c1 : Nat} (l1 : x.f1.length ≤ c1) (g1 : k25.C w A1 x.f1.length x.f1) : k25.K w x [.int .i64 x.f0, .slice A1 x.f1.length c1] := by
  obtain ⟨n1, q1⟩ := Kd.fix_C_back mono25 g1
  have r1 := Kd.upto_C_le mono25 sz25 (show n1 ≤ n1 by omega) q1
  exact ⟨n1 + 1, ⟨[.int .i64 x.f0], [.slice A1 x.f1.length c1], rfl, rfl, ⟨A1, c1, rfl, l1, r1⟩⟩⟩
theorem k25_openF {W : World} {ok : Nat → Prop} {x : S25} {cs : List Value} (h : Kd.FK k25 W ok x cs) : ∃ A1 c1, cs = [.int .i64 x.f0, .slice A1 x.f1.length c1] ∧ x.f1.length ≤ c1 ∧ Kd.F k25 W ok A1 x.f1.length x.f1 := by
  obtain ⟨A1, c1, rfl, l1, _⟩ := k25_open (Kd.FK_now h)
  exact ⟨A1, c1, rfl, l1, (fun W' hW => by obtain ⟨A1_, c1_, he, l1_, g1_⟩ := k25_open (h W' hW); injection (Option.some.inj (show some (Value.slice A1 x.f1.length c1) = some (Value.slice A1_ x.f1.length c1_) from congrArg (fun l => l[1]?) he)) with ha_ _ _; rw [ha_]; exact g1_)⟩
theorem k25_mkF (W : World) (ok : Nat → Prop) (x : S25) {A1 : Option Addr} {c1 : Nat} (l1 : x.f1.length ≤ c1) (g1 : Kd.F k25 W ok A1 x.f1.length x.f1) : Kd.FK k25 W ok x [.int .i64 x.f0, .slice A1 x.f1.length c1] := fun W2 hW => k25_mk W2 x l1 (g1 W2 hW)
def rd_T25 (xs : List S25) (i : Int) : S25 := xs.getD i.toNat z25
theorem at_T25 {w : World} {A : Option Addr} {n : Nat} {xs : List S25} (h : Kd.C k25 w A n xs) (i : Int) (h0 : 0 ≤ i) (h1 : i < n) : ∃ ad A1 c1, A = some ad ∧ w.cell? (ad.add (i.toNat * 2)) = some (.int .i64 (rd_T25 xs i).f0) ∧ w.cell? ⟨(ad.add (i.toNat * 2)).block, (ad.add (i.toNat * 2)).off + 1, none⟩ = some (.slice A1 (rd_T25 xs i).f1.length c1) ∧ (rd_T25 xs i).f1.length ≤ c1 ∧ k25.C w A1 (rd_T25 xs i).f1.length (rd_T25 xs i).f1 := by
  obtain ⟨ad, c, e, _, hK, hc0⟩ := Kd.C_get h z25 i h0 h1
  have hc : ∀ j u, c[j]? = some u → w.cell? (ad.add (i.toNat * 2 + j)) = some u := hc0
  obtain ⟨A1, c1, rfl, l1, g1⟩ := k25_open hK
  exact ⟨ad, A1, c1, e, hc 0 _ rfl, by rw [← add_field _ _ 1 (by omega)]; exact hc 1 _ rfl, l1, g1⟩
structure S148 where
  f0 : ByteArray
  f1 : Int
  f2 : Int
  f3 : Bool
def z148 : S148 := ⟨(⟨#[]⟩ : ByteArray), (0 : Int), (0 : Int), false⟩
def k148 : Kd S148 := Kd.iso (Kd.pair Kd.string (Kd.pair (Kd.int .i64) (Kd.pair (Kd.int .i64) Kd.bool))) (fun x : S148 => (x.f0, x.f1, x.f2, x.f3))
theorem k148_open {w : World} {x : S148} {cs : List Value} (h : k148.K w x cs) : cs = [.string x.f0, .int .i64 x.f1, .int .i64 x.f2, .bool x.f3] := by
  obtain ⟨_, _, rfl, rfl, ⟨_, _, rfl, rfl, ⟨_, _, rfl, rfl, rfl⟩⟩⟩ := h
  exact rfl
theorem k148_mk (w : World) (x : S148)  : k148.K w x [.string x.f0, .int .i64 x.f1, .int .i64 x.f2, .bool x.f3] := ⟨[.string x.f0], [.int .i64 x.f1, .int .i64 x.f2, .bool x.f3], rfl, rfl, ⟨[.int .i64 x.f1], [.int .i64 x.f2, .bool x.f3], rfl, rfl, ⟨[.int .i64 x.f2], [.bool x.f3], rfl, rfl, rfl⟩⟩⟩
def rd_T148 (xs : List S148) (i : Int) : S148 := xs.getD i.toNat z148
theorem at_T148 {w : World} {A : Option Addr} {n : Nat} {xs : List S148} (h : Kd.C k148 w A n xs) (i : Int) (h0 : 0 ≤ i) (h1 : i < n) : ∃ ad , A = some ad ∧ w.cell? (ad.add (i.toNat * 4)) = some (.string (rd_T148 xs i).f0) ∧ w.cell? ⟨(ad.add (i.toNat * 4)).block, (ad.add (i.toNat * 4)).off + 1, none⟩ = some (.int .i64 (rd_T148 xs i).f1) ∧ w.cell? ⟨(ad.add (i.toNat * 4)).block, (ad.add (i.toNat * 4)).off + 2, none⟩ = some (.int .i64 (rd_T148 xs i).f2) ∧ w.cell? ⟨(ad.add (i.toNat * 4)).block, (ad.add (i.toNat * 4)).off + 3, none⟩ = some (.bool (rd_T148 xs i).f3) := by
  obtain ⟨ad, c, e, _, hK, hc0⟩ := Kd.C_get h z148 i h0 h1
  have hc : ∀ j u, c[j]? = some u → w.cell? (ad.add (i.toNat * 4 + j)) = some u := hc0
  obtain rfl := k148_open hK
  exact ⟨ad, e, hc 0 _ rfl, by rw [← add_field _ _ 1 (by omega)]; exact hc 1 _ rfl, by rw [← add_field _ _ 2 (by omega)]; exact hc 2 _ rfl, by rw [← add_field _ _ 3 (by omega)]; exact hc 3 _ rfl⟩
structure S142 where
  f0 : Bool
  f1 : S25
  f2 : S25
def z142 : S142 := ⟨false, z25, z25⟩
def k142 : Kd S142 := Kd.iso (Kd.pair Kd.bool (Kd.pair k25 k25)) (fun x : S142 => (x.f0, x.f1, x.f2))
theorem k142_heap : Kd.Heap k142 := Kd.heap_iso _ (Kd.heap_pair Kd.heap_bool (Kd.heap_pair k25_heap k25_heap))
theorem k142_open {w : World} {x : S142} {cs : List Value} (h : k142.K w x cs) : ∃ A2 c2 A4 c4, cs = [.bool x.f0, .int .i64 x.f1.f0, .slice A2 x.f1.f1.length c2, .int .i64 x.f2.f0, .slice A4 x.f2.f1.length c4] ∧ x.f1.f1.length ≤ c2 ∧ k25.C w A2 x.f1.f1.length x.f1.f1 ∧ x.f2.f1.length ≤ c4 ∧ k25.C w A4 x.f2.f1.length x.f2.f1 := by
  obtain ⟨_, _, rfl, rfl, ⟨_, _, rfl, s1, s3⟩⟩ := h
  obtain ⟨A2, c2, rfl, l2, g2⟩ := k25_open s1
  obtain ⟨A4, c4, rfl, l4, g4⟩ := k25_open s3
  exact ⟨A2, c2, A4, c4, rfl, l2, g2, l4, g4⟩
theorem k142_mk (w : World) (x : S142) {A2 : Option Addr} {c2 : Nat} (l2 : x.f1.f1.length ≤ c2) (g2 : k25.C w A2 x.f1.f1.length x.f1.f1) {A4 : Option Addr} {c4 : Nat} (l4 : x.f2.f1.length ≤ c4) (g4 : k25.C w A4 x.f2.f1.length x.f2.f1) : k142.K w x [.bool x.f0, .int .i64 x.f1.f0, .slice A2 x.f1.f1.length c2, .int .i64 x.f2.f0, .slice A4 x.f2.f1.length c4] := ⟨[.bool x.f0], [.int .i64 x.f1.f0, .slice A2 x.f1.f1.length c2, .int .i64 x.f2.f0, .slice A4 x.f2.f1.length c4], rfl, rfl, ⟨[.int .i64 x.f1.f0, .slice A2 x.f1.f1.length c2], [.int .i64 x.f2.f0, .slice A4 x.f2.f1.length c4], rfl, (k25_mk w x.f1 l2 g2), (k25_mk w x.f2 l4 g4)⟩⟩
theorem k142_openF {W : World} {ok : Nat → Prop} {x : S142} {cs : List Value} (h : Kd.FK k142 W ok x cs) : ∃ A2 c2 A4 c4, cs = [.bool x.f0, .int .i64 x.f1.f0, .slice A2 x.f1.f1.length c2, .int .i64 x.f2.f0, .slice A4 x.f2.f1.length c4] ∧ x.f1.f1.length ≤ c2 ∧ Kd.F k25 W ok A2 x.f1.f1.length x.f1.f1 ∧ x.f2.f1.length ≤ c4 ∧ Kd.F k25 W ok A4 x.f2.f1.length x.f2.f1 := by
  obtain ⟨A2, c2, A4, c4, rfl, l2, _, l4, _⟩ := k142_open (Kd.FK_now h)
  exact ⟨A2, c2, A4, c4, rfl, l2, (fun W' hW => by obtain ⟨A2_, c2_, A4_, c4_, he, l2_, g2_, l4_, g4_⟩ := k142_open (h W' hW); injection (Option.some.inj (show some (Value.slice A2 x.f1.f1.length c2) = some (Value.slice A2_ x.f1.f1.length c2_) from congrArg (fun l => l[2]?) he)) with ha_ _ _; rw [ha_]; exact g2_), l4, (fun W' hW => by obtain ⟨A2_, c2_, A4_, c4_, he, l2_, g2_, l4_, g4_⟩ := k142_open (h W' hW); injection (Option.some.inj (show some (Value.slice A4 x.f2.f1.length c4) = some (Value.slice A4_ x.f2.f1.length c4_) from congrArg (fun l => l[4]?) he)) with ha_ _ _; rw [ha_]; exact g4_)⟩
def rd_T142 (xs : List S142) (i : Int) : S142 := xs.getD i.toNat z142
theorem at_T142 {w : World} {A : Option Addr} {n : Nat} {xs : List S142} (h : Kd.C k142 w A n xs) (i : Int) (h0 : 0 ≤ i) (h1 : i < n) : ∃ ad A2 c2 A4 c4, A = some ad ∧ w.cell? (ad.add (i.toNat * 5)) = some (.bool (rd_T142 xs i).f0) ∧ w.cell? ⟨(ad.add (i.toNat * 5)).block, (ad.add (i.toNat * 5)).off + 1, none⟩ = some (.int .i64 (rd_T142 xs i).f1.f0) ∧ w.cell? ⟨(ad.add (i.toNat * 5)).block, (ad.add (i.toNat * 5)).off + 2, none⟩ = some (.slice A2 (rd_T142 xs i).f1.f1.length c2) ∧ w.cell? ⟨(ad.add (i.toNat * 5)).block, (ad.add (i.toNat * 5)).off + 3, none⟩ = some (.int .i64 (rd_T142 xs i).f2.f0) ∧ w.cell? ⟨(ad.add (i.toNat * 5)).block, (ad.add (i.toNat * 5)).off + 4, none⟩ = some (.slice A4 (rd_T142 xs i).f2.f1.length c4) ∧ (rd_T142 xs i).f1.f1.length ≤ c2 ∧ k25.C w A2 (rd_T142 xs i).f1.f1.length (rd_T142 xs i).f1.f1 ∧ (rd_T142 xs i).f2.f1.length ≤ c4 ∧ k25.C w A4 (rd_T142 xs i).f2.f1.length (rd_T142 xs i).f2.f1 := by
  obtain ⟨ad, c, e, _, hK, hc0⟩ := Kd.C_get h z142 i h0 h1
  have hc : ∀ j u, c[j]? = some u → w.cell? (ad.add (i.toNat * 5 + j)) = some u := hc0
  obtain ⟨A2, c2, A4, c4, rfl, l2, g2, l4, g4⟩ := k142_open hK
  exact ⟨ad, A2, c2, A4, c4, e, hc 0 _ rfl, by rw [← add_field _ _ 1 (by omega)]; exact hc 1 _ rfl, by rw [← add_field _ _ 2 (by omega)]; exact hc 2 _ rfl, by rw [← add_field _ _ 3 (by omega)]; exact hc 3 _ rfl, by rw [← add_field _ _ 4 (by omega)]; exact hc 4 _ rfl, l2, g2, l4, g4⟩
end Go.Proofs.Ythplndalbfcbbaa.PA
namespace Go.Proofs.Ythplndalbfcbbaa.PA
open Go.RowKit Go.Proofs.YthplndalbfcbbaaW.PrintWords Go.Proofs.YthplndalbfcbbaaW.PrintLast Go.Proofs.YthplndalbfcbbaaW.PrintMore
attribute [local go_sem] max2_int min2_int max_two min_two max_three min_three max_four min_four   -- for this text's walks alone
set_option linter.unusedVariables false
set_option linter.unusedSimpArgs false
mutual
def elenchusref16_Sorted.l0 : Nat → List Int → List Int → Int → Option (List Int)
  | 0, _, _, _ => none
  | k + 1, x0, x3, x4 => if x4 < (x0.length : Int) then (elenchusref16_Sorted.l1 k x0 x3 x4 0) else (some x3)
def elenchusref16_Sorted.l1 : Nat → List Int → List Int → Int → Int → Option (List Int)
  | 0, _, _, _, _ => none
  | k + 1, x0, x3, x4, x5 => if x5 < (x3.length : Int) then (if 0 ≤ x5 then (if 0 ≤ x4 then (if x4 < (x0.length : Int) then (elenchusref16_Sorted.j2 k x0 x3 x4 x5 (decide ((rd x3 x5) < (rd x0 x4)))) else (none)) else (none)) else (none)) else (elenchusref16_Sorted.j2 k x0 x3 x4 x5 false)
def elenchusref16_Sorted.j2 : Nat → List Int → List Int → Int → Int → Bool → Option (List Int)
  | 0, _, _, _, _, _ => none
  | k + 1, x0, x3, x4, x5, x27 => if x27 = true then (elenchusref16_Sorted.l1 k x0 x3 x4 (wrap64 (x5 + 1))) else (if 0 ≤ x5 then (if x5 ≤ (x3.length : Int) then ((some (x3.take (x5 : Int).toNat : List Int)).bind fun y722 => (if ([] : List Int).length + y722.length < 17592186044416 then ((some (([] : List Int) ++ y722 : List Int)).bind fun y726 => (if 0 ≤ x4 then (if x4 < (x0.length : Int) then (if y726.length < 17592186044416 then ((some (y726 ++ [rd x0 x4] : List Int)).bind fun y730 => ((some (x3.drop (x5 : Int).toNat : List Int)).bind fun y733 => (if y730.length + y733.length < 17592186044416 then (elenchusref16_Sorted.l0 k x0 (y730 ++ y733) (wrap64 (x4 + 1))) else (none)))) else (none)) else (none)) else (none))) else (none))) else (none)) else (none))
end
def elenchusref16_Sorted.f (k : Nat) (l0 : List Int) : Option (List Int) := elenchusref16_Sorted.l0 k l0 ([] : List Int) 0
set_option maxHeartbeats 8000000 in
set_option maxRecDepth 100000 in
theorem elenchusref16_Sorted.calls (k : Nat) (A0 : Option Addr) (c0 : Nat) (l0 : List Int) (r : List Int) (w : World) (hr0 : Kd.C (Kd.int .i64) w A0 l0.length l0) (hc0 : l0.length ≤ c0) (h : elenchusref16_Sorted.f k l0 = some r) :
    Calls Try.prog 163 #[.slice A0 l0.length c0] w fun e w' => ∃ v0_ : Value, e = .returned (v0_) ∧ Kd.R (Kd.int .i64) 3 w' w.heap.size (fun _ => True) v0_ r ∧ Below w.heap.size w w' := by
  have HR0 := Aside0.mk hr0
  have HC0 := Aside0.mk hc0
  clear hr0 hc0
  have HB := Aside0.mk (Below.refl w.heap.size w)
  have H : (elenchusref16_Sorted.l0 k l0 ([] : List Int) 0) = some r := h
  clear h
  have H' := Aside0.mk H
  clear H
  go_enter Try.func163, Try.ntmps163
  go_wp2
  repeat (go_quiet (fail); try go_wp2)
  go_loopg [3, 4] k (fun kq v3 v4 w' => ∃ (x3_1 : List Int) (x4_1 : Int), v4 = .int .i64 x4_1 ∧ Aside0 (elenchusref16_Sorted.l0 kq l0 x3_1 x4_1 = some r) ∧ Aside0 (kq ≤ k) ∧ Aside0 (Kd.R (Kd.int .i64) 3 w' w.heap.size (fun _ => True) v3 x3_1) ∧ Aside0 (Below w.heap.size w w'))
  case atStart => exact ⟨(([] : List Int)), (0), (by first | rfl | (simp; done) | (simp [*]; done)), H', ⟨Nat.le_refl _⟩, ⟨by first | exact Kd.R_nil _ _ _ _ _ | exact Kd.N_nil _ _ _ _ _ | exact Kd.V_nil _ _ _ _ _ | exact Kd.Q_nil _ _ _ _ _ | exact Kd.S_nil _ _ _ _ _⟩, ⟨by repeat (first | (with_reducible first | exact HB.out | apply below_alloc | apply pw_below_drewN | apply below_drew1) | exact HB.out)⟩⟩
  case round =>
    clear H'
    try clear c1
    obtain ⟨x3_1, x4_1, rfl, HA, HK1, HO_3, HB⟩ := hrel
    cases gk with
    | zero => exact absurd HA.out (by simp [elenchusref16_Sorted.l0])
    | succ k1 =>
      have H := HA.out
      clear HA
      simp only [elenchusref16_Sorted.l0] at H
      by_cases c2 : x4_1 < (l0.length : Int)
      · rw [if_pos c2] at H
        have c2b0 : decide (x4_1 < (l0.length : Int)) = true := decide_eq_true c2
        clear c2
        have H' := Aside0.mk H
        clear H
        go_wp2
        repeat (go_quiet (fail); try go_wp2)
        go_loopg [5] k1 (fun kq v5 w' => ∃ (x5_2 : Int), v5 = .int .i64 x5_2 ∧ Aside0 (elenchusref16_Sorted.l1 kq l0 x3_1 x4_1 x5_2 = some r) ∧ Aside0 (kq ≤ k1) ∧ Aside0 (Kd.R (Kd.int .i64) 3 w' w.heap.size (fun _ => True) u3 x3_1) ∧ Aside0 (Below w.heap.size w w'))
        case atStart => exact ⟨(0), (by first | rfl | (simp; done) | (simp [*]; done)), H', ⟨Nat.le_refl _⟩, ⟨by (with_reducible repeat (first | apply Kd.R_alloc | apply Kd.R_drewN | apply Kd.R_drew)); exact HO_3.out⟩, ⟨by repeat (first | (with_reducible first | exact HB.out | apply below_alloc | apply pw_below_drewN | apply below_drew1) | exact HB.out)⟩⟩
        case round =>
          clear H'
          try clear c1
          try clear c2
          try clear c2b0
          try clear p2
          obtain ⟨x5_2, rfl, HA, HK2, HO_3, HB⟩ := hrel
          cases gk with
          | zero => exact absurd HA.out (by simp [elenchusref16_Sorted.l1])
          | succ k2 =>
            have H := HA.out
            clear HA
            simp only [elenchusref16_Sorted.l1] at H
            have HC3 := Aside0.mk H
            clear H
            go_upto_region 6 with (fail)
            repeat (go_quiet (fail); go_upto_region 6 with (fail))
            go_cut [27] (fun v27 wc => ∃ (kq : Nat) (x27_2 : Bool), v27 = .bool x27_2 ∧ Aside0 (elenchusref16_Sorted.j2 kq l0 x3_1 x4_1 x5_2 x27_2 = some r) ∧ Aside0 (kq ≤ k2) ∧ Aside0 (Kd.R (Kd.int .i64) 3 wc w.heap.size (fun _ => True) u3 x3_1) ∧ Aside0 (Below w.heap.size w wc))
            case first =>
              have H := HC3.out
              clear HC3
              by_cases c4 : x5_2 < (x3_1.length : Int)
              · rw [if_pos c4] at H
                have c4b0 : decide (x5_2 < (x3_1.length : Int)) = true := decide_eq_true c4
                clear c4
                (first | rw [c4b0] | (simp only [i64_w, i32_w]; rw [c4b0]) | skip)
                by_cases c5 : 0 ≤ x5_2
                · rw [if_pos c5] at H
                  have c5b0 : decide (0 ≤ x5_2) = true := decide_eq_true c5
                  clear c5
                  by_cases c6 : 0 ≤ x4_1
                  · rw [if_pos c6] at H
                    have c6b0 : decide (0 ≤ x4_1) = true := decide_eq_true c6
                    clear c6
                    by_cases c7 : x4_1 < (l0.length : Int)
                    · rw [if_pos c7] at H
                      have c7b0 : decide (x4_1 < (l0.length : Int)) = true := decide_eq_true c7
                      clear c7
                      have H' := Aside0.mk H
                      clear H
                      obtain ⟨Ao8, co8, eo8⟩ := Kd.R_slice HO_3.out
                      subst eo8
                      have p720 : 0 ≤ (x5_2 : Int) := of_decide_eq_true (by first | (with_reducible assumption) | assumption)
                      have q720 : x5_2 < (x3_1.length : Int) := of_decide_eq_true (by first | (with_reducible assumption) | assumption)
                      obtain ⟨ad720, e720, hx720_0⟩ := Kd.at_int (Kd.R_reads' HO_3.out).2.2 x5_2 p720 q720
                      cases e720
                      replace p720 := eq_true p720
                      replace q720 := eq_true q720
                      have p721 : 0 ≤ (x4_1 : Int) := of_decide_eq_true (by first | (with_reducible assumption) | assumption)
                      have q721 : x4_1 < (l0.length : Int) := of_decide_eq_true (by first | (with_reducible assumption) | assumption)
                      obtain ⟨ad721, e721, hx721_0⟩ := Kd.at_int HR0.out x4_1 p721 q721
                      cases e721
                      replace hx721_0 := (HB.out.cell (World.block_lt_of_cell? w _ hx721_0)).trans hx721_0
                      replace p721 := eq_true p721
                      replace q721 := eq_true q721
                      go_wp2
                      repeat (go_quiet (fail); try go_wp2)
                      go_meet
                      case rel => exact ⟨_, (decide ((rd x3_1 x5_2) < (rd l0 x4_1))), (by first | rfl | (simp; done) | (simp [*]; done)), H', ⟨by have := HK1.out; have := HK2.out; first | omega | exact Nat.le_refl _⟩, ⟨by (with_reducible repeat (first | apply Kd.R_alloc | apply Kd.R_drewN | apply Kd.R_drew)); exact HO_3.out⟩, ⟨by repeat (first | (with_reducible first | exact HB.out | apply below_alloc | apply pw_below_drewN | apply below_drew1) | exact HB.out)⟩⟩
                    · rw [if_neg c7] at H
                      exact absurd H (by simp)
                  · rw [if_neg c6] at H
                    exact absurd H (by simp)
                · rw [if_neg c5] at H
                  exact absurd H (by simp)
              · rw [if_neg c4] at H
                have c4b0 : decide (x5_2 < (x3_1.length : Int)) = false := decide_eq_false c4
                clear c4
                (first | rw [c4b0] | (simp only [i64_w, i32_w]; rw [c4b0]) | skip)
                have H' := Aside0.mk H
                clear H
                obtain ⟨Ao9, co9, eo9⟩ := Kd.R_slice HO_3.out
                subst eo9
                go_wp2
                repeat (go_quiet (fail); try go_wp2)
                go_meet
                case rel => exact ⟨_, (false), (by first | rfl | (simp; done) | (simp [*]; done)), H', ⟨by have := HK1.out; have := HK2.out; first | omega | exact Nat.le_refl _⟩, ⟨by (with_reducible repeat (first | apply Kd.R_alloc | apply Kd.R_drewN | apply Kd.R_drew)); exact HO_3.out⟩, ⟨by repeat (first | (with_reducible first | exact HB.out | apply below_alloc | apply pw_below_drewN | apply below_drew1) | exact HB.out)⟩⟩
            case rest =>
              clear HC3
              try clear c1
              try clear c2
              try clear c2b0
              try clear p2
              try clear c4
              try clear c4b0
              try clear c5
              try clear c5b0
              try clear c6
              try clear c6b0
              try clear c7
              try clear c7b0
              try clear p7
              try clear q7
              try clear hx7
              try clear hx720_0
              try clear hx721_0
              try clear p2
              try clear p720
              try clear p721
              try clear q720
              try clear q721
              obtain ⟨kq, x27_2, rfl, HA, HJ2, HO_3, HB⟩ := hcut
              cases kq with
              | zero => exact absurd HA.out (by simp [elenchusref16_Sorted.j2])
              | succ kj2 =>
                have H := HA.out
                clear HA
                simp only [elenchusref16_Sorted.j2] at H
                by_cases c10 : x27_2 = true
                · subst c10
                  have H1 : (elenchusref16_Sorted.l1 kj2 l0 x3_1 x4_1 (wrap64 (x5_2 + 1))) = some r := by rw [if_pos rfl] at H; exact H
                  clear H
                  have H := H1
                  clear H1
                  have H' := Aside0.mk H
                  clear H
                  go_wp2
                  repeat (go_quiet (fail); try go_wp2)
                  go_roundg kj2
                  case measure => have := HK1.out; have := HK2.out; have := HJ2.out; omega
                  case rel => exact ⟨(wrap64 (x5_2 + 1)), (by first | rfl | (simp; done) | (simp [*]; done)), H', ⟨by have := HK1.out; have := HK2.out; have := HJ2.out; omega⟩, ⟨by (with_reducible repeat (first | apply Kd.R_alloc | apply Kd.R_drewN | apply Kd.R_drew)); exact HO_3.out⟩, ⟨by repeat (first | (with_reducible first | exact HB.out | apply below_alloc | apply pw_below_drewN | apply below_drew1) | exact HB.out)⟩⟩
                · replace c10 := Bool.eq_false_iff.mpr c10
                  subst c10
                  have H1 : (if 0 ≤ x5_2 then (if x5_2 ≤ (x3_1.length : Int) then ((some (x3_1.take (x5_2 : Int).toNat : List Int)).bind fun y722 => (if ([] : List Int).length + y722.length < 17592186044416 then ((some (([] : List Int) ++ y722 : List Int)).bind fun y726 => (if 0 ≤ x4_1 then (if x4_1 < (l0.length : Int) then (if y726.length < 17592186044416 then ((some (y726 ++ [rd l0 x4_1] : List Int)).bind fun y730 => ((some (x3_1.drop (x5_2 : Int).toNat : List Int)).bind fun y733 => (if y730.length + y733.length < 17592186044416 then (elenchusref16_Sorted.l0 kj2 l0 (y730 ++ y733) (wrap64 (x4_1 + 1))) else (none)))) else (none)) else (none)) else (none))) else (none))) else (none)) else (none)) = some r := by rw [if_neg (show ¬ (false = true) by decide)] at H; exact H
                  clear H
                  have H := H1
                  clear H1
                  by_cases c11 : 0 ≤ x5_2
                  · rw [if_pos c11] at H
                    have c11b0 := eq_true c11
                    have c11b1 : decide (0 ≤ x5_2) = true := decide_eq_true c11
                    clear c11
                    by_cases c12 : x5_2 ≤ (x3_1.length : Int)
                    · rw [if_pos c12] at H
                      have c12b0 := eq_true c12
                      have c12b1 : decide (x5_2 ≤ (x3_1.length : Int)) = true := decide_eq_true c12
                      clear c12
                      obtain ⟨y722, hy722⟩ : ∃ y_ : List Int, y_ = (x3_1.take (x5_2 : Int).toNat) := ⟨_, rfl⟩
                      replace H : (if ([] : List Int).length + y722.length < 17592186044416 then ((some (([] : List Int) ++ y722 : List Int)).bind fun y726 => (if 0 ≤ x4_1 then (if x4_1 < (l0.length : Int) then (if y726.length < 17592186044416 then ((some (y726 ++ [rd l0 x4_1] : List Int)).bind fun y730 => ((some (x3_1.drop (x5_2 : Int).toNat : List Int)).bind fun y733 => (if y730.length + y733.length < 17592186044416 then (elenchusref16_Sorted.l0 kj2 l0 (y730 ++ y733) (wrap64 (x4_1 + 1))) else (none)))) else (none)) else (none)) else (none))) else (none)) = some r := by first | (rw [hy722]; with_reducible exact H) | (have H2_ := (Option.bind_some _ _).symm.trans H; rw [hy722]; with_reducible exact H2_) | (have H2_ := (Option.bind_some _ _).symm.trans H; with_reducible exact H2_) | with_reducible exact H | (rw [hy722]; exact H) | exact H
                      have Ny722 := Aside0.mk hy722
                      clear hy722
                      by_cases c13 : ([] : List Int).length + y722.length < 17592186044416
                      · rw [if_pos c13] at H
                        have LMc13 := Aside0.mk c13
                        clear c13
                        obtain ⟨y726, hy726⟩ : ∃ y_ : List Int, y_ = (([] : List Int) ++ y722) := ⟨_, rfl⟩
                        replace H : (if 0 ≤ x4_1 then (if x4_1 < (l0.length : Int) then (if y726.length < 17592186044416 then ((some (y726 ++ [rd l0 x4_1] : List Int)).bind fun y730 => ((some (x3_1.drop (x5_2 : Int).toNat : List Int)).bind fun y733 => (if y730.length + y733.length < 17592186044416 then (elenchusref16_Sorted.l0 kj2 l0 (y730 ++ y733) (wrap64 (x4_1 + 1))) else (none)))) else (none)) else (none)) else (none)) = some r := by first | (rw [hy726]; with_reducible exact H) | (have H2_ := (Option.bind_some _ _).symm.trans H; rw [hy726]; with_reducible exact H2_) | (have H2_ := (Option.bind_some _ _).symm.trans H; with_reducible exact H2_) | with_reducible exact H | (rw [hy726]; exact H) | exact H
                        have Ny726 := Aside0.mk hy726
                        clear hy726
                        by_cases c14 : 0 ≤ x4_1
                        · rw [if_pos c14] at H
                          have c14b0 : decide (0 ≤ x4_1) = true := decide_eq_true c14
                          clear c14
                          by_cases c15 : x4_1 < (l0.length : Int)
                          · rw [if_pos c15] at H
                            have c15b0 : decide (x4_1 < (l0.length : Int)) = true := decide_eq_true c15
                            clear c15
                            by_cases c16 : y726.length < 17592186044416
                            · rw [if_pos c16] at H
                              have LMc16 := Aside0.mk c16
                              clear c16
                              obtain ⟨y730, hy730⟩ : ∃ y_ : List Int, y_ = (y726 ++ [rd l0 x4_1]) := ⟨_, rfl⟩
                              replace H : ((some (x3_1.drop (x5_2 : Int).toNat : List Int)).bind fun y733 => (if y730.length + y733.length < 17592186044416 then (elenchusref16_Sorted.l0 kj2 l0 (y730 ++ y733) (wrap64 (x4_1 + 1))) else (none))) = some r := by first | (rw [hy730]; with_reducible exact H) | (have H2_ := (Option.bind_some _ _).symm.trans H; rw [hy730]; with_reducible exact H2_) | (have H2_ := (Option.bind_some _ _).symm.trans H; with_reducible exact H2_) | with_reducible exact H | (rw [hy730]; exact H) | exact H
                              have Ny730 := Aside0.mk hy730
                              clear hy730
                              have c17b0 := eq_true (of_decide_eq_true (by first | (with_reducible assumption) | assumption) : 0 ≤ x5_2)
                              have c18b0 := eq_true (of_decide_eq_true (by first | (with_reducible assumption) | assumption) : x5_2 ≤ (x3_1.length : Int))
                              obtain ⟨y733, hy733⟩ : ∃ y_ : List Int, y_ = (x3_1.drop (x5_2 : Int).toNat) := ⟨_, rfl⟩
                              replace H : (if y730.length + y733.length < 17592186044416 then (elenchusref16_Sorted.l0 kj2 l0 (y730 ++ y733) (wrap64 (x4_1 + 1))) else (none)) = some r := by first | (rw [hy733]; with_reducible exact H) | (have H2_ := (Option.bind_some _ _).symm.trans H; rw [hy733]; with_reducible exact H2_) | (have H2_ := (Option.bind_some _ _).symm.trans H; with_reducible exact H2_) | with_reducible exact H | (rw [hy733]; exact H) | exact H
                              have Ny733 := Aside0.mk hy733
                              clear hy733
                              by_cases c19 : y730.length + y733.length < 17592186044416
                              · rw [if_pos c19] at H
                                have LMc19 := Aside0.mk c19
                                clear c19
                                obtain ⟨y737, hy737⟩ : ∃ y_ : List Int, y_ = (y730 ++ y733) := ⟨_, rfl⟩
                                replace H : (elenchusref16_Sorted.l0 kj2 l0 y737 (wrap64 (x4_1 + 1))) = some r := by first | (rw [hy737]; with_reducible exact H) | (have H2_ := (Option.bind_some _ _).symm.trans H; rw [hy737]; with_reducible exact H2_) | (have H2_ := (Option.bind_some _ _).symm.trans H; with_reducible exact H2_) | with_reducible exact H | (rw [hy737]; exact H) | exact H
                                have Ny737 := Aside0.mk hy737
                                clear hy737
                                have H' := Aside0.mk H
                                clear H
                                obtain ⟨Ao21, co21, eo21⟩ := Kd.R_slice HO_3.out
                                subst eo21
                                have q20 : (x5_2 : Int) ≤ ((x3_1.length : Int) : Int) := of_decide_eq_true (by first | (with_reducible assumption) | assumption)
                                obtain ⟨i020, hi020, _, hsz20, _⟩ := info_parts info3
                                have hroom20 : x3_1.length ≤ co21 := (Kd.R_reads' HO_3.out).2.1
                                have hC20 : Kd.C (Kd.int .i64) _ Ao21 x3_1.length x3_1 := (Kd.R_reads' HO_3.out).2.2
                                have hcut20 := cut_to (P := Try.prog) 37 3 .i64 Try.underlying37 hi020 Ao21 x3_1.length co21 x5_2 (of_decide_eq_true (by first | (with_reducible assumption) | assumption)) q20 hroom20
                                have hr20 := Kd.C_take (m := (x5_2 : Int).toNat) hC20 (by omega)
                                have hy20 : y722.length = (x5_2 : Int).toNat := (by rw [Ny722.out, List.length_take]; omega)
                                rw [← Ny722.out] at hr20
                                rw [← hy20] at hcut20
                                have HR725 := Aside0.mk hr20
                                have HC725 := Aside0.mk (show y722.length ≤ co21 from by omega)
                                clear hr20 hC20 hroom20 hi020 hsz20
                                have KY20 := Aside0.mk hy20
                                clear hy20
                                have KL20 := Aside0.mk (show (x5_2 : Int).toNat ≤ x3_1.length from by omega)
                                replace q20 := eq_true q20
                                go_wp2_with (first | ((with_reducible refine gate_builtin (b := .append) (xs := #[.tmp 30, .tmp 33]) rfl ?_); at_builtin; refine Kd.R_append_rows (Kd.int .i64) (w0 := w) w.heap.size rfl (.tmp 30) (.tmp 33) 37 3 (.int .i64 0) 8 rfl Try.underlying37 info3 rfl (by decide) (by omega) (.slice none 0 0) ([] : List Int) y722 _ _ _ (fun k_ => some k_ ≠ (.slice Ao21 x3_1.length co21 : Value).ownBlock) (fun _ => False) rfl rfl ?aO ?aR (fun _ _ h => h) (fun _ h => h.elim) ?aF ?aB ?aS ?aL ?_; (case aR => repeat (first | exact (by repeat (first | (with_reducible exact HR725.out) | (with_reducible refine Kd.C_alloc ?_ _) | (with_reducible refine Kd.C_drewN ?_ _) | (with_reducible refine Kd.C_drew ?_) | exact HR725.out)) | (with_reducible refine Kd.C_alloc ?_ _) | (with_reducible refine Kd.C_drewN ?_ _) | (with_reducible refine Kd.C_drew ?_))); (case aB => exact (by repeat (first | (with_reducible first | exact HB.out | apply below_alloc | apply pw_below_drewN | apply below_drew1) | exact HB.out))); (case aF => exact (fun k_ hk => Kd.fresh' (Kd.R_lt (by (with_reducible repeat (first | apply Kd.R_alloc | apply Kd.R_drewN | apply Kd.R_drew)); exact HO_3.out)) k_ hk)); (case aO => exact ((Kd.R_nil _ _ _ _ (fun k_ => some k_ ≠ (.slice Ao21 x3_1.length co21 : Value).ownBlock)))); (case aS => exact (below_size (by repeat (first | (with_reducible first | exact HB.out | apply below_alloc | apply pw_below_drewN | apply below_drew1) | exact HB.out)))); (case aL => have := LMc13.out; omega); intro v727 w22 ho hb hg hat; rw [← Ny726.out] at ho; have n0_ := Aside0.mk (Kd.R_after (Kd.R_apart_nil (by (with_reducible repeat (first | apply Kd.R_alloc | apply Kd.R_drewN | apply Kd.R_drew)); exact HO_3.out)) hg hat); have n1_ := Aside0.mk (hb); have n2_ := Aside0.mk ((show Kd.C (Kd.int .i64) w22 Ao21 y722.length y722 from by rw [Ny722.out]; exact Kd.C_take (m := (x5_2 : Int).toNat) ((Kd.R_reads' (Kd.R_after (Kd.R_apart_nil (by (with_reducible repeat (first | apply Kd.R_alloc | apply Kd.R_drewN | apply Kd.R_drew)); exact HO_3.out)) hg hat)).2.2) KL20.out)); have n3_ := Aside0.mk (ho); clear HO_3; clear HB; clear HR725; have HO_3 := n0_; have HB := n1_; have HR725 := n2_; have HO728 := n3_; clear n0_ n1_ n2_ n3_; clear ho hb hg hat; have p729 : 0 ≤ (x4_1 : Int) := of_decide_eq_true (by first | (with_reducible assumption) | assumption); have q729 : x4_1 < (l0.length : Int) := of_decide_eq_true (by first | (with_reducible assumption) | assumption); obtain ⟨ad729, e729, hx729_0⟩ := Kd.at_int HR0.out x4_1 p729 q729; cases e729; replace hx729_0 := (HB.out.cell (World.block_lt_of_cell? w _ hx729_0)).trans hx729_0; replace p729 := eq_true p729; replace q729 := eq_true q729) | ((with_reducible refine gate_builtin (b := .append) (xs := #[.tmp 35, .tmp 40]) rfl ?_); at_builtin; refine Kd.R_append (Kd.int .i64) (w0 := w) w.heap.size rfl (.tmp 35) (.tmp 40) 37 3 (.int .i64 0) 8 rfl Try.underlying37 info3 rfl (by decide) (by omega) v727 y726 (rd l0 x4_1) [.int .i64 (rd l0 x4_1)] (fun k_ => some k_ ≠ (.slice Ao21 x3_1.length co21 : Value).ownBlock) (fun _ => False) rfl rfl ?aP (fun _ hk => hk.elim) ?aF ?aO ?aB ?aS ?aL ?_; (case aP => exact rfl); (case aB => exact (by repeat (first | (with_reducible first | exact HB.out | apply below_alloc | apply pw_below_drewN | apply below_drew1) | exact HB.out))); (case aF => exact (fun k_ hk => Kd.fresh' (Kd.R_lt (by (with_reducible repeat (first | apply Kd.R_alloc | apply Kd.R_drewN | apply Kd.R_drew)); exact HO_3.out)) k_ hk)); (case aO => exact (by (with_reducible repeat (first | apply Kd.R_alloc | apply Kd.R_drewN | apply Kd.R_drew)); exact HO728.out)); (case aS => exact (below_size (by repeat (first | (with_reducible first | exact HB.out | apply below_alloc | apply pw_below_drewN | apply below_drew1) | exact HB.out)))); (case aL => have := LMc16.out; omega); intro v731 w23 ho hb hg hat; rw [← Ny730.out] at ho; have n0_ := Aside0.mk (Kd.R_after (ok := (fun _ => True)) (by (with_reducible repeat (first | apply Kd.R_alloc | apply Kd.R_drewN | apply Kd.R_drew)); exact HO_3.out) hg hat); have n1_ := Aside0.mk (hb); have n2_ := Aside0.mk ((show Kd.C (Kd.int .i64) w23 Ao21 y722.length y722 from by rw [Ny722.out]; exact Kd.C_take (m := (x5_2 : Int).toNat) ((Kd.R_reads' (Kd.R_after (ok := (fun _ => True)) (by (with_reducible repeat (first | apply Kd.R_alloc | apply Kd.R_drewN | apply Kd.R_drew)); exact HO_3.out) hg hat)).2.2) KL20.out)); have n3_ := Aside0.mk (ho); clear HO_3; clear HB; clear HR725; clear HO728; have HO_3 := n0_; have HB := n1_; have HR725 := n2_; have HO732 := n3_; clear n0_ n1_ n2_ n3_; clear ho hb hg hat; have q24 : (x5_2 : Int) ≤ ((x3_1.length : Int) : Int) := of_decide_eq_true (by first | (with_reducible assumption) | assumption); obtain ⟨i024, hi024, _, hsz24, _⟩ := info_parts info3; have hroom24 : x3_1.length ≤ co21 := (Kd.R_reads' HO_3.out).2.1; have hC24 : Kd.C (Kd.int .i64) _ Ao21 x3_1.length x3_1 := (Kd.R_reads' HO_3.out).2.2; have q024 : (0 : Int) ≤ (x5_2 : Int) := of_decide_eq_true (by first | (with_reducible assumption) | assumption); have hcut24 := cut_from (P := Try.prog) 37 3 .i64 Try.underlying37 hi024 1 hsz24 Ao21 x3_1.length co21 x5_2 q024 q24; have hr24 := Kd.C_drop (m := (x5_2 : Int).toNat) (c := co21) hC24 (by omega) hroom24; obtain ⟨A24, hA24⟩ : ∃ A1, A1 = (if co21 = (x5_2 : Int).toNat then Ao21 else (Ao21 : Option Addr).map (·.add ((x5_2 : Int).toNat * 1))) := ⟨_, rfl⟩; obtain ⟨c24, hc24⟩ : ∃ c1, c1 = co21 - (x5_2 : Int).toNat := ⟨_, rfl⟩; have hy24 : y733.length = x3_1.length - (x5_2 : Int).toNat := (by rw [Ny733.out, List.length_drop] <;> omega); rw [show (x3_1).drop (x5_2 : Int).toNat = y733 from Ny733.out.symm] at hr24; replace hr24 : Kd.C (Kd.int .i64) _ A24 y733.length y733 := (by rw [hA24]; exact hr24); rw [← hy24, ← hA24, ← hc24] at hcut24; have HR736 := Aside0.mk hr24; have HC736 := Aside0.mk (show y733.length ≤ c24 from by rw [hy24, hc24]; exact Nat.sub_le_sub_right hroom24 _); clear hr24 hC24 hroom24 hi024 hsz24 hc24; have KY24 := Aside0.mk hy24; have KA24 := Aside0.mk hA24; clear hy24 hA24; have KL24 := Aside0.mk (show (x5_2 : Int).toNat ≤ x3_1.length from by omega); replace q24 := eq_true q24) | ((with_reducible refine gate_builtin (b := .append) (xs := #[.tmp 42, .tmp 45]) rfl ?_); at_builtin; refine Kd.R_append_rows (Kd.int .i64) (w0 := w) w.heap.size rfl (.tmp 42) (.tmp 45) 37 3 (.int .i64 0) 8 rfl Try.underlying37 info3 rfl (by decide) (by omega) v731 y730 y733 _ _ _ (fun k_ => some k_ ≠ (.slice Ao21 x3_1.length co21 : Value).ownBlock) (fun _ => False) rfl rfl ?aO ?aR (fun _ _ h => h) (fun _ h => h.elim) ?aF ?aB ?aS ?aL ?_; (case aR => repeat (first | exact (by repeat (first | (with_reducible exact HR736.out) | (with_reducible refine Kd.C_alloc ?_ _) | (with_reducible refine Kd.C_drewN ?_ _) | (with_reducible refine Kd.C_drew ?_) | exact HR736.out)) | (with_reducible refine Kd.C_alloc ?_ _) | (with_reducible refine Kd.C_drewN ?_ _) | (with_reducible refine Kd.C_drew ?_))); (case aB => exact (by repeat (first | (with_reducible first | exact HB.out | apply below_alloc | apply pw_below_drewN | apply below_drew1) | exact HB.out))); (case aF => exact (fun k_ hk => Kd.fresh' (Kd.R_lt (by (with_reducible repeat (first | apply Kd.R_alloc | apply Kd.R_drewN | apply Kd.R_drew)); exact HO_3.out)) k_ hk)); (case aO => exact (by (with_reducible repeat (first | apply Kd.R_alloc | apply Kd.R_drewN | apply Kd.R_drew)); exact HO732.out)); (case aS => exact (below_size (by repeat (first | (with_reducible first | exact HB.out | apply below_alloc | apply pw_below_drewN | apply below_drew1) | exact HB.out)))); (case aL => have := LMc19.out; omega); intro v738 w25 ho hb hg hat; rw [← Ny737.out] at ho; have n0_ := Aside0.mk (Kd.R_after (ok := (fun _ => True)) (by (with_reducible repeat (first | apply Kd.R_alloc | apply Kd.R_drewN | apply Kd.R_drew)); exact HO_3.out) hg hat); have n1_ := Aside0.mk (hb); have n2_ := Aside0.mk ((show Kd.C (Kd.int .i64) w25 Ao21 y722.length y722 from by rw [Ny722.out]; exact Kd.C_take (m := (x5_2 : Int).toNat) ((Kd.R_reads' (Kd.R_after (ok := (fun _ => True)) (by (with_reducible repeat (first | apply Kd.R_alloc | apply Kd.R_drewN | apply Kd.R_drew)); exact HO_3.out) hg hat)).2.2) KL20.out)); have n3_ := Aside0.mk ((show Kd.C (Kd.int .i64) w25 A24 y733.length y733 from by rw [Ny733.out, KA24.out]; exact Kd.C_drop (m := (x5_2 : Int).toNat) (c := co21) ((Kd.R_reads' (Kd.R_after (ok := (fun _ => True)) (by (with_reducible repeat (first | apply Kd.R_alloc | apply Kd.R_drewN | apply Kd.R_drew)); exact HO_3.out) hg hat)).2.2) KL24.out ((Kd.R_reads' (Kd.R_after (ok := (fun _ => True)) (by (with_reducible repeat (first | apply Kd.R_alloc | apply Kd.R_drewN | apply Kd.R_drew)); exact HO_3.out) hg hat)).2.1))); have n4_ := Aside0.mk (ho); clear HO_3; clear HB; clear HR725; clear HR736; clear HO732; have HO_3 := n0_; have HB := n1_; have HR725 := n2_; have HR736 := n3_; have HO739 := n4_; clear n0_ n1_ n2_ n3_ n4_; clear ho hb hg hat))
                                repeat (go_quiet (first | ((with_reducible refine gate_builtin (b := .append) (xs := #[.tmp 30, .tmp 33]) rfl ?_); at_builtin; refine Kd.R_append_rows (Kd.int .i64) (w0 := w) w.heap.size rfl (.tmp 30) (.tmp 33) 37 3 (.int .i64 0) 8 rfl Try.underlying37 info3 rfl (by decide) (by omega) (.slice none 0 0) ([] : List Int) y722 _ _ _ (fun k_ => some k_ ≠ (.slice Ao21 x3_1.length co21 : Value).ownBlock) (fun _ => False) rfl rfl ?aO ?aR (fun _ _ h => h) (fun _ h => h.elim) ?aF ?aB ?aS ?aL ?_; (case aR => repeat (first | exact (by repeat (first | (with_reducible exact HR725.out) | (with_reducible refine Kd.C_alloc ?_ _) | (with_reducible refine Kd.C_drewN ?_ _) | (with_reducible refine Kd.C_drew ?_) | exact HR725.out)) | (with_reducible refine Kd.C_alloc ?_ _) | (with_reducible refine Kd.C_drewN ?_ _) | (with_reducible refine Kd.C_drew ?_))); (case aB => exact (by repeat (first | (with_reducible first | exact HB.out | apply below_alloc | apply pw_below_drewN | apply below_drew1) | exact HB.out))); (case aF => exact (fun k_ hk => Kd.fresh' (Kd.R_lt (by (with_reducible repeat (first | apply Kd.R_alloc | apply Kd.R_drewN | apply Kd.R_drew)); exact HO_3.out)) k_ hk)); (case aO => exact ((Kd.R_nil _ _ _ _ (fun k_ => some k_ ≠ (.slice Ao21 x3_1.length co21 : Value).ownBlock)))); (case aS => exact (below_size (by repeat (first | (with_reducible first | exact HB.out | apply below_alloc | apply pw_below_drewN | apply below_drew1) | exact HB.out)))); (case aL => have := LMc13.out; omega); intro v727 w22 ho hb hg hat; rw [← Ny726.out] at ho; have n0_ := Aside0.mk (Kd.R_after (Kd.R_apart_nil (by (with_reducible repeat (first | apply Kd.R_alloc | apply Kd.R_drewN | apply Kd.R_drew)); exact HO_3.out)) hg hat); have n1_ := Aside0.mk (hb); have n2_ := Aside0.mk ((show Kd.C (Kd.int .i64) w22 Ao21 y722.length y722 from by rw [Ny722.out]; exact Kd.C_take (m := (x5_2 : Int).toNat) ((Kd.R_reads' (Kd.R_after (Kd.R_apart_nil (by (with_reducible repeat (first | apply Kd.R_alloc | apply Kd.R_drewN | apply Kd.R_drew)); exact HO_3.out)) hg hat)).2.2) KL20.out)); have n3_ := Aside0.mk (ho); clear HO_3; clear HB; clear HR725; have HO_3 := n0_; have HB := n1_; have HR725 := n2_; have HO728 := n3_; clear n0_ n1_ n2_ n3_; clear ho hb hg hat; have p729 : 0 ≤ (x4_1 : Int) := of_decide_eq_true (by first | (with_reducible assumption) | assumption); have q729 : x4_1 < (l0.length : Int) := of_decide_eq_true (by first | (with_reducible assumption) | assumption); obtain ⟨ad729, e729, hx729_0⟩ := Kd.at_int HR0.out x4_1 p729 q729; cases e729; replace hx729_0 := (HB.out.cell (World.block_lt_of_cell? w _ hx729_0)).trans hx729_0; replace p729 := eq_true p729; replace q729 := eq_true q729) | ((with_reducible refine gate_builtin (b := .append) (xs := #[.tmp 35, .tmp 40]) rfl ?_); at_builtin; refine Kd.R_append (Kd.int .i64) (w0 := w) w.heap.size rfl (.tmp 35) (.tmp 40) 37 3 (.int .i64 0) 8 rfl Try.underlying37 info3 rfl (by decide) (by omega) v727 y726 (rd l0 x4_1) [.int .i64 (rd l0 x4_1)] (fun k_ => some k_ ≠ (.slice Ao21 x3_1.length co21 : Value).ownBlock) (fun _ => False) rfl rfl ?aP (fun _ hk => hk.elim) ?aF ?aO ?aB ?aS ?aL ?_; (case aP => exact rfl); (case aB => exact (by repeat (first | (with_reducible first | exact HB.out | apply below_alloc | apply pw_below_drewN | apply below_drew1) | exact HB.out))); (case aF => exact (fun k_ hk => Kd.fresh' (Kd.R_lt (by (with_reducible repeat (first | apply Kd.R_alloc | apply Kd.R_drewN | apply Kd.R_drew)); exact HO_3.out)) k_ hk)); (case aO => exact (by (with_reducible repeat (first | apply Kd.R_alloc | apply Kd.R_drewN | apply Kd.R_drew)); exact HO728.out)); (case aS => exact (below_size (by repeat (first | (with_reducible first | exact HB.out | apply below_alloc | apply pw_below_drewN | apply below_drew1) | exact HB.out)))); (case aL => have := LMc16.out; omega); intro v731 w23 ho hb hg hat; rw [← Ny730.out] at ho; have n0_ := Aside0.mk (Kd.R_after (ok := (fun _ => True)) (by (with_reducible repeat (first | apply Kd.R_alloc | apply Kd.R_drewN | apply Kd.R_drew)); exact HO_3.out) hg hat); have n1_ := Aside0.mk (hb); have n2_ := Aside0.mk ((show Kd.C (Kd.int .i64) w23 Ao21 y722.length y722 from by rw [Ny722.out]; exact Kd.C_take (m := (x5_2 : Int).toNat) ((Kd.R_reads' (Kd.R_after (ok := (fun _ => True)) (by (with_reducible repeat (first | apply Kd.R_alloc | apply Kd.R_drewN | apply Kd.R_drew)); exact HO_3.out) hg hat)).2.2) KL20.out)); have n3_ := Aside0.mk (ho); clear HO_3; clear HB; clear HR725; clear HO728; have HO_3 := n0_; have HB := n1_; have HR725 := n2_; have HO732 := n3_; clear n0_ n1_ n2_ n3_; clear ho hb hg hat; have q24 : (x5_2 : Int) ≤ ((x3_1.length : Int) : Int) := of_decide_eq_true (by first | (with_reducible assumption) | assumption); obtain ⟨i024, hi024, _, hsz24, _⟩ := info_parts info3; have hroom24 : x3_1.length ≤ co21 := (Kd.R_reads' HO_3.out).2.1; have hC24 : Kd.C (Kd.int .i64) _ Ao21 x3_1.length x3_1 := (Kd.R_reads' HO_3.out).2.2; have q024 : (0 : Int) ≤ (x5_2 : Int) := of_decide_eq_true (by first | (with_reducible assumption) | assumption); have hcut24 := cut_from (P := Try.prog) 37 3 .i64 Try.underlying37 hi024 1 hsz24 Ao21 x3_1.length co21 x5_2 q024 q24; have hr24 := Kd.C_drop (m := (x5_2 : Int).toNat) (c := co21) hC24 (by omega) hroom24; obtain ⟨A24, hA24⟩ : ∃ A1, A1 = (if co21 = (x5_2 : Int).toNat then Ao21 else (Ao21 : Option Addr).map (·.add ((x5_2 : Int).toNat * 1))) := ⟨_, rfl⟩; obtain ⟨c24, hc24⟩ : ∃ c1, c1 = co21 - (x5_2 : Int).toNat := ⟨_, rfl⟩; have hy24 : y733.length = x3_1.length - (x5_2 : Int).toNat := (by rw [Ny733.out, List.length_drop] <;> omega); rw [show (x3_1).drop (x5_2 : Int).toNat = y733 from Ny733.out.symm] at hr24; replace hr24 : Kd.C (Kd.int .i64) _ A24 y733.length y733 := (by rw [hA24]; exact hr24); rw [← hy24, ← hA24, ← hc24] at hcut24; have HR736 := Aside0.mk hr24; have HC736 := Aside0.mk (show y733.length ≤ c24 from by rw [hy24, hc24]; exact Nat.sub_le_sub_right hroom24 _); clear hr24 hC24 hroom24 hi024 hsz24 hc24; have KY24 := Aside0.mk hy24; have KA24 := Aside0.mk hA24; clear hy24 hA24; have KL24 := Aside0.mk (show (x5_2 : Int).toNat ≤ x3_1.length from by omega); replace q24 := eq_true q24) | ((with_reducible refine gate_builtin (b := .append) (xs := #[.tmp 42, .tmp 45]) rfl ?_); at_builtin; refine Kd.R_append_rows (Kd.int .i64) (w0 := w) w.heap.size rfl (.tmp 42) (.tmp 45) 37 3 (.int .i64 0) 8 rfl Try.underlying37 info3 rfl (by decide) (by omega) v731 y730 y733 _ _ _ (fun k_ => some k_ ≠ (.slice Ao21 x3_1.length co21 : Value).ownBlock) (fun _ => False) rfl rfl ?aO ?aR (fun _ _ h => h) (fun _ h => h.elim) ?aF ?aB ?aS ?aL ?_; (case aR => repeat (first | exact (by repeat (first | (with_reducible exact HR736.out) | (with_reducible refine Kd.C_alloc ?_ _) | (with_reducible refine Kd.C_drewN ?_ _) | (with_reducible refine Kd.C_drew ?_) | exact HR736.out)) | (with_reducible refine Kd.C_alloc ?_ _) | (with_reducible refine Kd.C_drewN ?_ _) | (with_reducible refine Kd.C_drew ?_))); (case aB => exact (by repeat (first | (with_reducible first | exact HB.out | apply below_alloc | apply pw_below_drewN | apply below_drew1) | exact HB.out))); (case aF => exact (fun k_ hk => Kd.fresh' (Kd.R_lt (by (with_reducible repeat (first | apply Kd.R_alloc | apply Kd.R_drewN | apply Kd.R_drew)); exact HO_3.out)) k_ hk)); (case aO => exact (by (with_reducible repeat (first | apply Kd.R_alloc | apply Kd.R_drewN | apply Kd.R_drew)); exact HO732.out)); (case aS => exact (below_size (by repeat (first | (with_reducible first | exact HB.out | apply below_alloc | apply pw_below_drewN | apply below_drew1) | exact HB.out)))); (case aL => have := LMc19.out; omega); intro v738 w25 ho hb hg hat; rw [← Ny737.out] at ho; have n0_ := Aside0.mk (Kd.R_after (ok := (fun _ => True)) (by (with_reducible repeat (first | apply Kd.R_alloc | apply Kd.R_drewN | apply Kd.R_drew)); exact HO_3.out) hg hat); have n1_ := Aside0.mk (hb); have n2_ := Aside0.mk ((show Kd.C (Kd.int .i64) w25 Ao21 y722.length y722 from by rw [Ny722.out]; exact Kd.C_take (m := (x5_2 : Int).toNat) ((Kd.R_reads' (Kd.R_after (ok := (fun _ => True)) (by (with_reducible repeat (first | apply Kd.R_alloc | apply Kd.R_drewN | apply Kd.R_drew)); exact HO_3.out) hg hat)).2.2) KL20.out)); have n3_ := Aside0.mk ((show Kd.C (Kd.int .i64) w25 A24 y733.length y733 from by rw [Ny733.out, KA24.out]; exact Kd.C_drop (m := (x5_2 : Int).toNat) (c := co21) ((Kd.R_reads' (Kd.R_after (ok := (fun _ => True)) (by (with_reducible repeat (first | apply Kd.R_alloc | apply Kd.R_drewN | apply Kd.R_drew)); exact HO_3.out) hg hat)).2.2) KL24.out ((Kd.R_reads' (Kd.R_after (ok := (fun _ => True)) (by (with_reducible repeat (first | apply Kd.R_alloc | apply Kd.R_drewN | apply Kd.R_drew)); exact HO_3.out) hg hat)).2.1))); have n4_ := Aside0.mk (ho); clear HO_3; clear HB; clear HR725; clear HR736; clear HO732; have HO_3 := n0_; have HB := n1_; have HR725 := n2_; have HR736 := n3_; have HO739 := n4_; clear n0_ n1_ n2_ n3_ n4_; clear ho hb hg hat)); try go_wp2_with (first | ((with_reducible refine gate_builtin (b := .append) (xs := #[.tmp 30, .tmp 33]) rfl ?_); at_builtin; refine Kd.R_append_rows (Kd.int .i64) (w0 := w) w.heap.size rfl (.tmp 30) (.tmp 33) 37 3 (.int .i64 0) 8 rfl Try.underlying37 info3 rfl (by decide) (by omega) (.slice none 0 0) ([] : List Int) y722 _ _ _ (fun k_ => some k_ ≠ (.slice Ao21 x3_1.length co21 : Value).ownBlock) (fun _ => False) rfl rfl ?aO ?aR (fun _ _ h => h) (fun _ h => h.elim) ?aF ?aB ?aS ?aL ?_; (case aR => repeat (first | exact (by repeat (first | (with_reducible exact HR725.out) | (with_reducible refine Kd.C_alloc ?_ _) | (with_reducible refine Kd.C_drewN ?_ _) | (with_reducible refine Kd.C_drew ?_) | exact HR725.out)) | (with_reducible refine Kd.C_alloc ?_ _) | (with_reducible refine Kd.C_drewN ?_ _) | (with_reducible refine Kd.C_drew ?_))); (case aB => exact (by repeat (first | (with_reducible first | exact HB.out | apply below_alloc | apply pw_below_drewN | apply below_drew1) | exact HB.out))); (case aF => exact (fun k_ hk => Kd.fresh' (Kd.R_lt (by (with_reducible repeat (first | apply Kd.R_alloc | apply Kd.R_drewN | apply Kd.R_drew)); exact HO_3.out)) k_ hk)); (case aO => exact ((Kd.R_nil _ _ _ _ (fun k_ => some k_ ≠ (.slice Ao21 x3_1.length co21 : Value).ownBlock)))); (case aS => exact (below_size (by repeat (first | (with_reducible first | exact HB.out | apply below_alloc | apply pw_below_drewN | apply below_drew1) | exact HB.out)))); (case aL => have := LMc13.out; omega); intro v727 w22 ho hb hg hat; rw [← Ny726.out] at ho; have n0_ := Aside0.mk (Kd.R_after (Kd.R_apart_nil (by (with_reducible repeat (first | apply Kd.R_alloc | apply Kd.R_drewN | apply Kd.R_drew)); exact HO_3.out)) hg hat); have n1_ := Aside0.mk (hb); have n2_ := Aside0.mk ((show Kd.C (Kd.int .i64) w22 Ao21 y722.length y722 from by rw [Ny722.out]; exact Kd.C_take (m := (x5_2 : Int).toNat) ((Kd.R_reads' (Kd.R_after (Kd.R_apart_nil (by (with_reducible repeat (first | apply Kd.R_alloc | apply Kd.R_drewN | apply Kd.R_drew)); exact HO_3.out)) hg hat)).2.2) KL20.out)); have n3_ := Aside0.mk (ho); clear HO_3; clear HB; clear HR725; have HO_3 := n0_; have HB := n1_; have HR725 := n2_; have HO728 := n3_; clear n0_ n1_ n2_ n3_; clear ho hb hg hat; have p729 : 0 ≤ (x4_1 : Int) := of_decide_eq_true (by first | (with_reducible assumption) | assumption); have q729 : x4_1 < (l0.length : Int) := of_decide_eq_true (by first | (with_reducible assumption) | assumption); obtain ⟨ad729, e729, hx729_0⟩ := Kd.at_int HR0.out x4_1 p729 q729; cases e729; replace hx729_0 := (HB.out.cell (World.block_lt_of_cell? w _ hx729_0)).trans hx729_0; replace p729 := eq_true p729; replace q729 := eq_true q729) | ((with_reducible refine gate_builtin (b := .append) (xs := #[.tmp 35, .tmp 40]) rfl ?_); at_builtin; refine Kd.R_append (Kd.int .i64) (w0 := w) w.heap.size rfl (.tmp 35) (.tmp 40) 37 3 (.int .i64 0) 8 rfl Try.underlying37 info3 rfl (by decide) (by omega) v727 y726 (rd l0 x4_1) [.int .i64 (rd l0 x4_1)] (fun k_ => some k_ ≠ (.slice Ao21 x3_1.length co21 : Value).ownBlock) (fun _ => False) rfl rfl ?aP (fun _ hk => hk.elim) ?aF ?aO ?aB ?aS ?aL ?_; (case aP => exact rfl); (case aB => exact (by repeat (first | (with_reducible first | exact HB.out | apply below_alloc | apply pw_below_drewN | apply below_drew1) | exact HB.out))); (case aF => exact (fun k_ hk => Kd.fresh' (Kd.R_lt (by (with_reducible repeat (first | apply Kd.R_alloc | apply Kd.R_drewN | apply Kd.R_drew)); exact HO_3.out)) k_ hk)); (case aO => exact (by (with_reducible repeat (first | apply Kd.R_alloc | apply Kd.R_drewN | apply Kd.R_drew)); exact HO728.out)); (case aS => exact (below_size (by repeat (first | (with_reducible first | exact HB.out | apply below_alloc | apply pw_below_drewN | apply below_drew1) | exact HB.out)))); (case aL => have := LMc16.out; omega); intro v731 w23 ho hb hg hat; rw [← Ny730.out] at ho; have n0_ := Aside0.mk (Kd.R_after (ok := (fun _ => True)) (by (with_reducible repeat (first | apply Kd.R_alloc | apply Kd.R_drewN | apply Kd.R_drew)); exact HO_3.out) hg hat); have n1_ := Aside0.mk (hb); have n2_ := Aside0.mk ((show Kd.C (Kd.int .i64) w23 Ao21 y722.length y722 from by rw [Ny722.out]; exact Kd.C_take (m := (x5_2 : Int).toNat) ((Kd.R_reads' (Kd.R_after (ok := (fun _ => True)) (by (with_reducible repeat (first | apply Kd.R_alloc | apply Kd.R_drewN | apply Kd.R_drew)); exact HO_3.out) hg hat)).2.2) KL20.out)); have n3_ := Aside0.mk (ho); clear HO_3; clear HB; clear HR725; clear HO728; have HO_3 := n0_; have HB := n1_; have HR725 := n2_; have HO732 := n3_; clear n0_ n1_ n2_ n3_; clear ho hb hg hat; have q24 : (x5_2 : Int) ≤ ((x3_1.length : Int) : Int) := of_decide_eq_true (by first | (with_reducible assumption) | assumption); obtain ⟨i024, hi024, _, hsz24, _⟩ := info_parts info3; have hroom24 : x3_1.length ≤ co21 := (Kd.R_reads' HO_3.out).2.1; have hC24 : Kd.C (Kd.int .i64) _ Ao21 x3_1.length x3_1 := (Kd.R_reads' HO_3.out).2.2; have q024 : (0 : Int) ≤ (x5_2 : Int) := of_decide_eq_true (by first | (with_reducible assumption) | assumption); have hcut24 := cut_from (P := Try.prog) 37 3 .i64 Try.underlying37 hi024 1 hsz24 Ao21 x3_1.length co21 x5_2 q024 q24; have hr24 := Kd.C_drop (m := (x5_2 : Int).toNat) (c := co21) hC24 (by omega) hroom24; obtain ⟨A24, hA24⟩ : ∃ A1, A1 = (if co21 = (x5_2 : Int).toNat then Ao21 else (Ao21 : Option Addr).map (·.add ((x5_2 : Int).toNat * 1))) := ⟨_, rfl⟩; obtain ⟨c24, hc24⟩ : ∃ c1, c1 = co21 - (x5_2 : Int).toNat := ⟨_, rfl⟩; have hy24 : y733.length = x3_1.length - (x5_2 : Int).toNat := (by rw [Ny733.out, List.length_drop] <;> omega); rw [show (x3_1).drop (x5_2 : Int).toNat = y733 from Ny733.out.symm] at hr24; replace hr24 : Kd.C (Kd.int .i64) _ A24 y733.length y733 := (by rw [hA24]; exact hr24); rw [← hy24, ← hA24, ← hc24] at hcut24; have HR736 := Aside0.mk hr24; have HC736 := Aside0.mk (show y733.length ≤ c24 from by rw [hy24, hc24]; exact Nat.sub_le_sub_right hroom24 _); clear hr24 hC24 hroom24 hi024 hsz24 hc24; have KY24 := Aside0.mk hy24; have KA24 := Aside0.mk hA24; clear hy24 hA24; have KL24 := Aside0.mk (show (x5_2 : Int).toNat ≤ x3_1.length from by omega); replace q24 := eq_true q24) | ((with_reducible refine gate_builtin (b := .append) (xs := #[.tmp 42, .tmp 45]) rfl ?_); at_builtin; refine Kd.R_append_rows (Kd.int .i64) (w0 := w) w.heap.size rfl (.tmp 42) (.tmp 45) 37 3 (.int .i64 0) 8 rfl Try.underlying37 info3 rfl (by decide) (by omega) v731 y730 y733 _ _ _ (fun k_ => some k_ ≠ (.slice Ao21 x3_1.length co21 : Value).ownBlock) (fun _ => False) rfl rfl ?aO ?aR (fun _ _ h => h) (fun _ h => h.elim) ?aF ?aB ?aS ?aL ?_; (case aR => repeat (first | exact (by repeat (first | (with_reducible exact HR736.out) | (with_reducible refine Kd.C_alloc ?_ _) | (with_reducible refine Kd.C_drewN ?_ _) | (with_reducible refine Kd.C_drew ?_) | exact HR736.out)) | (with_reducible refine Kd.C_alloc ?_ _) | (with_reducible refine Kd.C_drewN ?_ _) | (with_reducible refine Kd.C_drew ?_))); (case aB => exact (by repeat (first | (with_reducible first | exact HB.out | apply below_alloc | apply pw_below_drewN | apply below_drew1) | exact HB.out))); (case aF => exact (fun k_ hk => Kd.fresh' (Kd.R_lt (by (with_reducible repeat (first | apply Kd.R_alloc | apply Kd.R_drewN | apply Kd.R_drew)); exact HO_3.out)) k_ hk)); (case aO => exact (by (with_reducible repeat (first | apply Kd.R_alloc | apply Kd.R_drewN | apply Kd.R_drew)); exact HO732.out)); (case aS => exact (below_size (by repeat (first | (with_reducible first | exact HB.out | apply below_alloc | apply pw_below_drewN | apply below_drew1) | exact HB.out)))); (case aL => have := LMc19.out; omega); intro v738 w25 ho hb hg hat; rw [← Ny737.out] at ho; have n0_ := Aside0.mk (Kd.R_after (ok := (fun _ => True)) (by (with_reducible repeat (first | apply Kd.R_alloc | apply Kd.R_drewN | apply Kd.R_drew)); exact HO_3.out) hg hat); have n1_ := Aside0.mk (hb); have n2_ := Aside0.mk ((show Kd.C (Kd.int .i64) w25 Ao21 y722.length y722 from by rw [Ny722.out]; exact Kd.C_take (m := (x5_2 : Int).toNat) ((Kd.R_reads' (Kd.R_after (ok := (fun _ => True)) (by (with_reducible repeat (first | apply Kd.R_alloc | apply Kd.R_drewN | apply Kd.R_drew)); exact HO_3.out) hg hat)).2.2) KL20.out)); have n3_ := Aside0.mk ((show Kd.C (Kd.int .i64) w25 A24 y733.length y733 from by rw [Ny733.out, KA24.out]; exact Kd.C_drop (m := (x5_2 : Int).toNat) (c := co21) ((Kd.R_reads' (Kd.R_after (ok := (fun _ => True)) (by (with_reducible repeat (first | apply Kd.R_alloc | apply Kd.R_drewN | apply Kd.R_drew)); exact HO_3.out) hg hat)).2.2) KL24.out ((Kd.R_reads' (Kd.R_after (ok := (fun _ => True)) (by (with_reducible repeat (first | apply Kd.R_alloc | apply Kd.R_drewN | apply Kd.R_drew)); exact HO_3.out) hg hat)).2.1))); have n4_ := Aside0.mk (ho); clear HO_3; clear HB; clear HR725; clear HR736; clear HO732; have HO_3 := n0_; have HB := n1_; have HR725 := n2_; have HR736 := n3_; have HO739 := n4_; clear n0_ n1_ n2_ n3_ n4_; clear ho hb hg hat)))
                                go_roundg kj2
                                case measure => have := HK1.out; have := HK2.out; have := HJ2.out; omega
                                case rel => exact ⟨(y737), (wrap64 (x4_1 + 1)), (by first | rfl | (simp; done) | (simp [*]; done)), H', ⟨by have := HK1.out; have := HK2.out; have := HJ2.out; omega⟩, ⟨by (with_reducible repeat (first | apply Kd.R_alloc | apply Kd.R_drewN | apply Kd.R_drew)); exact Kd.R_mono HO739.out (fun _ hk => trivial)⟩, ⟨by repeat (first | (with_reducible first | exact HB.out | apply below_alloc | apply pw_below_drewN | apply below_drew1) | exact HB.out)⟩⟩
                              · rw [if_neg c19] at H
                                exact absurd H (by simp)
                            · rw [if_neg c16] at H
                              exact absurd H (by simp)
                          · rw [if_neg c15] at H
                            exact absurd H (by simp)
                        · rw [if_neg c14] at H
                          exact absurd H (by simp)
                      · rw [if_neg c13] at H
                        exact absurd H (by simp)
                    · rw [if_neg c12] at H
                      exact absurd H (by simp)
                  · rw [if_neg c11] at H
                    exact absurd H (by simp)
      · rw [if_neg c2] at H
        have c2b0 : decide (x4_1 < (l0.length : Int)) = false := decide_eq_false c2
        clear c2
        obtain rfl := Option.some.inj H
        go_wp2
        repeat (go_quiet (fail); try go_wp2)
        go_ret
        exact ⟨_, by first | rfl | (simp [errW_none, errW_some] <;> rfl) | (simp [*, errW_none, errW_some] <;> rfl), by (with_reducible repeat (first | apply Kd.R_alloc | apply Kd.R_drewN | apply Kd.R_drew)); exact HO_3.out, by repeat (first | (with_reducible first | exact HB.out | apply below_alloc | apply pw_below_drewN | apply below_drew1) | exact HB.out)⟩
end Go.Proofs.Ythplndalbfcbbaa.PA
namespace Go.Proofs.Ythplndalbfcbbaa.PA
open Go.RowKit Go.Proofs.YthplndalbfcbbaaW.PrintWords Go.Proofs.YthplndalbfcbbaaW.PrintLast Go.Proofs.YthplndalbfcbbaaW.PrintMore
attribute [local go_sem] max2_int min2_int max_two min_two max_three min_three max_four min_four   -- for this text's walks alone
set_option linter.unusedVariables false
set_option linter.unusedSimpArgs false
theorem eqA148 (d : Nat) (w : World) (x0 y0 : ByteArray) (x1 y1 : Int) (x2 y2 : Int) (x3 y3 : Bool) :
    (Op.equalIn (d + 2) 148 (.agg #[.string x0, .int .i64 x1, .int .i64 x2, .bool x3]) (.agg #[.string y0, .int .i64 y1, .int .i64 y2, .bool y3])).run Try.prog w = .ok (x0.toList == y0.toList && (x1 == y1 && (x2 == y2 && (x3 == y3)))) w := by
  refine eqA_of Try.underlying148 (by kernel_rfl) ?_
  refine eqf_cons (by rfl) (by go_simp; rfl) (by go_simp; rfl) (by go_simp) ?_
  refine eqf_cons (by rfl) (by go_simp; rfl) (by go_simp; rfl) (by go_simp) ?_
  refine eqf_cons (by rfl) (by go_simp; rfl) (by go_simp; rfl) (by go_simp) ?_
  exact eqf_last (by rfl) (by go_simp; rfl) (by go_simp; rfl) (by go_simp)
end Go.Proofs.Ythplndalbfcbbaa.PA
namespace Go.Proofs.Ythplndalbfcbbaa.PA
open Go.RowKit Go.Proofs.YthplndalbfcbbaaW.PrintWords Go.Proofs.YthplndalbfcbbaaW.PrintLast Go.Proofs.YthplndalbfcbbaaW.PrintMore
attribute [local go_sem] max2_int min2_int max_two min_two max_three min_three max_four min_four   -- for this text's walks alone
set_option linter.unusedVariables false
set_option linter.unusedSimpArgs false
attribute [local go_sem high] eqA148
mutual
def elenchusref07_Right.j0 : Nat → List (S148) → Bool → Option (Bool)
  | 0, _, _ => none
  | k + 1, x0, x13 => if x13 = true then (some false) else (elenchusref07_Right.l0 k x0 0)
def elenchusref07_Right.l0 : Nat → List (S148) → Int → Option (Bool)
  | 0, _, _ => none
  | k + 1, x0, x3 => if x3 < (x0.length : Int) then (if 0 ≤ x3 then (if (((rd_T148 x0 x3).f0).size : Int) < 1 then (elenchusref07_Right.j2 k x0 x3 true ((rd_T148 x0 x3).f0) ((rd_T148 x0 x3).f1) ((rd_T148 x0 x3).f2) ((rd_T148 x0 x3).f3)) else (if (((rd_T148 x0 x3).f0).size : Int) > 64 then (elenchusref07_Right.j2 k x0 x3 true ((rd_T148 x0 x3).f0) ((rd_T148 x0 x3).f1) ((rd_T148 x0 x3).f2) ((rd_T148 x0 x3).f3)) else (if ((rd_T148 x0 x3).f1) < 0 then (elenchusref07_Right.j2 k x0 x3 true ((rd_T148 x0 x3).f0) ((rd_T148 x0 x3).f1) ((rd_T148 x0 x3).f2) ((rd_T148 x0 x3).f3)) else (if ((rd_T148 x0 x3).f1) > 8 then (elenchusref07_Right.j2 k x0 x3 true ((rd_T148 x0 x3).f0) ((rd_T148 x0 x3).f1) ((rd_T148 x0 x3).f2) ((rd_T148 x0 x3).f3)) else (if ((rd_T148 x0 x3).f2) < 1 then (elenchusref07_Right.j2 k x0 x3 true ((rd_T148 x0 x3).f0) ((rd_T148 x0 x3).f1) ((rd_T148 x0 x3).f2) ((rd_T148 x0 x3).f3)) else (elenchusref07_Right.j2 k x0 x3 (decide (((rd_T148 x0 x3).f2) > 1000)) ((rd_T148 x0 x3).f0) ((rd_T148 x0 x3).f1) ((rd_T148 x0 x3).f2) ((rd_T148 x0 x3).f3))))))) else (none)) else (if 0 < (x0.length : Int) then (some ((((rd_T148 x0 0).f0).toList) == ([36, 116, 114, 117, 101] : List UInt8) && (((rd_T148 x0 0).f1) == 0 && (((rd_T148 x0 0).f2) == 1 && (((rd_T148 x0 0).f3)))))) else (none))
def elenchusref07_Right.j2 : Nat → List (S148) → Int → Bool → ByteArray → Int → Int → Bool → Option (Bool)
  | 0, _, _, _, _, _, _, _ => none
  | k + 1, x0, x3, x53, x637000, x637001, x637002, x637003 => if x53 = true then (some false) else (elenchusref07_Right.l1 k x0 x3 0 x637000 x637001 x637002 x637003)
def elenchusref07_Right.l1 : Nat → List (S148) → Int → Int → ByteArray → Int → Int → Bool → Option (Bool)
  | 0, _, _, _, _, _, _, _ => none
  | k + 1, x0, x3, x5, x637000, x637001, x637002, x637003 => if x5 < x3 then (if 0 ≤ x5 then (if x5 < (x0.length : Int) then (if ((rd_T148 x0 x5).f0).toList = x637000.toList then (some false) else (elenchusref07_Right.l1 k x0 x3 (wrap64 (x5 + 1)) x637000 x637001 x637002 x637003)) else (none)) else (none)) else (elenchusref07_Right.l0 k x0 (wrap64 (x3 + 1)))
end
def elenchusref07_Right.f (k : Nat) (l0 : List (S148)) : Option (Bool) := if (l0.length : Int) < 1 then (elenchusref07_Right.j0 k l0 true) else (elenchusref07_Right.j0 k l0 (decide ((l0.length : Int) > 256)))
set_option maxHeartbeats 8000000 in
set_option maxRecDepth 100000 in
theorem elenchusref07_Right.calls (k : Nat) (A0 : Option Addr) (c0 : Nat) (l0 : List (S148)) (r : Bool) (w : World) (hr0 : Kd.C k148 w A0 l0.length l0) (hc0 : l0.length ≤ c0) (h : elenchusref07_Right.f k l0 = some r) :
    Calls Try.prog 159 #[.slice A0 l0.length c0] w fun e w' => e = .returned (.bool r) ∧ Below w.heap.size w w' := by
  have hu148 := Try.underlying148
  have HR0 := Aside0.mk hr0
  have HC0 := Aside0.mk hc0
  clear hr0 hc0
  have HB := Aside0.mk (Below.refl w.heap.size w)
  have H : (if (l0.length : Int) < 1 then (elenchusref07_Right.j0 k l0 true) else (elenchusref07_Right.j0 k l0 (decide ((l0.length : Int) > 256)))) = some r := h
  clear h
  have HC2 := Aside0.mk H
  clear H
  go_enter Try.func159, Try.ntmps159
  go_upto_region 1 with (fail)
  repeat (go_quiet (fail); go_upto_region 1 with (fail))
  go_cut [13] (fun v13 wc => ∃ (kq : Nat) (x13_1 : Bool), v13 = .bool x13_1 ∧ Aside0 (elenchusref07_Right.j0 kq l0 x13_1 = some r) ∧ Aside0 (kq ≤ k) ∧ Aside0 (Below w.heap.size w wc))
  case first =>
    have H := HC2.out
    clear HC2
    by_cases c3 : (l0.length : Int) < 1
    · rw [if_pos c3] at H
      have c3b0 : decide ((l0.length : Int) < 1) = true := decide_eq_true c3
      have c3b1 : decide (l0.length < 1) = true := decide_eq_true (by omega)
      clear c3
      (first | rw [c3b0] | (simp only [i64_w, i32_w]; rw [c3b0]) | skip)
      have H' := Aside0.mk H
      clear H
      go_wp2
      repeat (go_quiet (fail); try go_wp2)
      go_meet
      case rel => exact ⟨_, (true), (by first | rfl | (simp; done) | (simp [*]; done)), H', ⟨by first | omega | exact Nat.le_refl _⟩, ⟨by repeat (first | (with_reducible first | exact HB.out | apply below_alloc | apply pw_below_drewN | apply below_drew1) | exact HB.out)⟩⟩
    · rw [if_neg c3] at H
      have c3b0 : decide ((l0.length : Int) < 1) = false := decide_eq_false c3
      have c3b1 : decide (l0.length < 1) = false := decide_eq_false (by omega)
      clear c3
      (first | rw [c3b0] | (simp only [i64_w, i32_w]; rw [c3b0]) | skip)
      have H' := Aside0.mk H
      clear H
      go_wp2
      repeat (go_quiet (fail); try go_wp2)
      go_meet
      case rel => exact ⟨_, (decide ((l0.length : Int) > 256)), (by first | rfl | (simp; done) | (simp [*]; done)), H', ⟨by first | omega | exact Nat.le_refl _⟩, ⟨by repeat (first | (with_reducible first | exact HB.out | apply below_alloc | apply pw_below_drewN | apply below_drew1) | exact HB.out)⟩⟩
  case rest =>
    clear HC2
    try clear c1
    try clear p2
    try clear c3
    try clear c3b0
    try clear c3b1
    obtain ⟨kq, x13_1, rfl, HA, HJ1, HB⟩ := hcut
    cases kq with
    | zero => exact absurd HA.out (by simp [elenchusref07_Right.j0])
    | succ kj1 =>
      have H := HA.out
      clear HA
      simp only [elenchusref07_Right.j0] at H
      by_cases c4 : x13_1 = true
      · subst c4
        have H1 : (some false) = some r := by rw [if_pos rfl] at H; exact H
        clear H
        have H := H1
        clear H1
        obtain rfl := Option.some.inj H
        go_wp2
        repeat (go_quiet (fail); try go_wp2)
        go_ret
        exact ⟨by first | rfl | (simp [errW_none, errW_some] <;> rfl) | (simp [*, errW_none, errW_some] <;> rfl), by repeat (first | (with_reducible first | exact HB.out | apply below_alloc | apply pw_below_drewN | apply below_drew1) | exact HB.out)⟩
      · replace c4 := Bool.eq_false_iff.mpr c4
        subst c4
        have H1 : (elenchusref07_Right.l0 kj1 l0 0) = some r := by rw [if_neg (show ¬ (false = true) by decide)] at H; exact H
        clear H
        have H := H1
        clear H1
        have H' := Aside0.mk H
        clear H
        go_wp2
        repeat (go_quiet (fail); try go_wp2)
        go_loopg [3] kj1 (fun kq v3 w' => ∃ (x3_2 : Int), v3 = .int .i64 x3_2 ∧ Aside0 (elenchusref07_Right.l0 kq l0 x3_2 = some r) ∧ Aside0 (kq ≤ kj1) ∧ Aside0 (Below w.heap.size w w'))
        case atStart => exact ⟨(0), (by first | rfl | (simp; done) | (simp [*]; done)), H', ⟨Nat.le_refl _⟩, ⟨by repeat (first | (with_reducible first | exact HB.out | apply below_alloc | apply pw_below_drewN | apply below_drew1) | exact HB.out)⟩⟩
        case round =>
          clear H'
          try clear c1
          try clear p2
          try clear c3
          try clear c3b0
          try clear c3b1
          try clear c4
          try clear p2
          obtain ⟨x3_2, rfl, HA, HK2, HB⟩ := hrel
          cases gk with
          | zero => exact absurd HA.out (by simp [elenchusref07_Right.l0])
          | succ k2 =>
            have H := HA.out
            clear HA
            simp only [elenchusref07_Right.l0] at H
            by_cases c5 : x3_2 < (l0.length : Int)
            · rw [if_pos c5] at H
              have c5b0 : decide (x3_2 < (l0.length : Int)) = true := decide_eq_true c5
              clear c5
              by_cases c6 : 0 ≤ x3_2
              · rw [if_pos c6] at H
                have c6b0 : decide (0 ≤ x3_2) = true := decide_eq_true c6
                clear c6
                have HC7 := Aside0.mk H
                clear H
                have p635 : 0 ≤ (x3_2 : Int) := of_decide_eq_true (by first | (with_reducible assumption) | assumption)
                have q635 : x3_2 < (l0.length : Int) := of_decide_eq_true (by first | (with_reducible assumption) | assumption)
                obtain ⟨ad635, e635, hx635_0, hx635_1, hx635_2, hx635_3⟩ := at_T148 HR0.out x3_2 p635 q635
                cases e635
                replace hx635_0 := (HB.out.cell (World.block_lt_of_cell? w _ hx635_0)).trans hx635_0
                replace hx635_1 := (HB.out.cell (World.block_lt_of_cell? w _ hx635_1)).trans hx635_1
                replace hx635_2 := (HB.out.cell (World.block_lt_of_cell? w _ hx635_2)).trans hx635_2
                replace hx635_3 := (HB.out.cell (World.block_lt_of_cell? w _ hx635_3)).trans hx635_3
                replace p635 := eq_true p635
                replace q635 := eq_true q635
                go_upto_region 7 with (first | ((with_reducible refine gate_dst (N := 4) rfl ?_); (try (refine gate_guard (by rfl) ?_; dsimp only)); refine box_event ?hg (N := 4) ?hd (cs := #[.string (⟨#[]⟩ : ByteArray), .int .i64 0, .int .i64 0, .bool false]) (t := 148) ?hr ?_; (case hd => rfl); (case hg => rfl); (case hr => first | (go_simp; done) | (go_simp; rfl)); intro gb636 hg w8 hbox hb; have n0_ := Aside0.mk (below_step (by repeat (first | (with_reducible first | exact HB.out | apply below_alloc | apply pw_below_drewN | apply below_drew1) | exact HB.out)) hb); have n1_ := Aside0.mk (hbox); have n2_ := Aside0.mk ((by rw [hg]; exact (below_size (by repeat (first | (with_reducible first | exact HB.out | apply below_alloc | apply pw_below_drewN | apply below_drew1) | exact HB.out))) : w.heap.size ≤ gb636)); have n3_ := Aside0.mk ((by rw [hg]; exact (below_size (by repeat (first | (with_reducible first | exact HB.out | apply below_alloc | apply pw_below_drewN | apply below_drew1) | exact HB.out))) : w.heap.size ≤ gb636)); clear HB; have HB := n0_; have BK636 := n1_; have GW636 := n2_; have GE636 := n3_; clear n0_ n1_ n2_ n3_; clear hb hbox hg; have hcz9_0 : w8.cell? ⟨gb636, 0, none⟩ = some (.string (⟨#[]⟩ : ByteArray)) := (blk_cell BK636.out 0).trans rfl; have hcz9_1 : w8.cell? ⟨gb636, 1, none⟩ = some (.int .i64 0) := (blk_cell BK636.out 1).trans rfl; have hcz9_2 : w8.cell? ⟨gb636, 2, none⟩ = some (.int .i64 0) := (blk_cell BK636.out 2).trans rfl; have hcz9_3 : w8.cell? ⟨gb636, 3, none⟩ = some (.bool false) := (blk_cell BK636.out 3).trans rfl; have hfz9_0 := blk_frozen BK636.out 0; have hfz9_1 := blk_frozen BK636.out 1; have hfz9_2 := blk_frozen BK636.out 2; have hfz9_3 := blk_frozen BK636.out 3))
                repeat (go_quiet (first | ((with_reducible refine gate_dst (N := 4) rfl ?_); (try (refine gate_guard (by rfl) ?_; dsimp only)); refine box_event ?hg (N := 4) ?hd (cs := #[.string (⟨#[]⟩ : ByteArray), .int .i64 0, .int .i64 0, .bool false]) (t := 148) ?hr ?_; (case hd => rfl); (case hg => rfl); (case hr => first | (go_simp; done) | (go_simp; rfl)); intro gb636 hg w8 hbox hb; have n0_ := Aside0.mk (below_step (by repeat (first | (with_reducible first | exact HB.out | apply below_alloc | apply pw_below_drewN | apply below_drew1) | exact HB.out)) hb); have n1_ := Aside0.mk (hbox); have n2_ := Aside0.mk ((by rw [hg]; exact (below_size (by repeat (first | (with_reducible first | exact HB.out | apply below_alloc | apply pw_below_drewN | apply below_drew1) | exact HB.out))) : w.heap.size ≤ gb636)); have n3_ := Aside0.mk ((by rw [hg]; exact (below_size (by repeat (first | (with_reducible first | exact HB.out | apply below_alloc | apply pw_below_drewN | apply below_drew1) | exact HB.out))) : w.heap.size ≤ gb636)); clear HB; have HB := n0_; have BK636 := n1_; have GW636 := n2_; have GE636 := n3_; clear n0_ n1_ n2_ n3_; clear hb hbox hg; have hcz9_0 : w8.cell? ⟨gb636, 0, none⟩ = some (.string (⟨#[]⟩ : ByteArray)) := (blk_cell BK636.out 0).trans rfl; have hcz9_1 : w8.cell? ⟨gb636, 1, none⟩ = some (.int .i64 0) := (blk_cell BK636.out 1).trans rfl; have hcz9_2 : w8.cell? ⟨gb636, 2, none⟩ = some (.int .i64 0) := (blk_cell BK636.out 2).trans rfl; have hcz9_3 : w8.cell? ⟨gb636, 3, none⟩ = some (.bool false) := (blk_cell BK636.out 3).trans rfl; have hfz9_0 := blk_frozen BK636.out 0; have hfz9_1 := blk_frozen BK636.out 1; have hfz9_2 := blk_frozen BK636.out 2; have hfz9_3 := blk_frozen BK636.out 3)); go_upto_region 7 with (first | ((with_reducible refine gate_dst (N := 4) rfl ?_); (try (refine gate_guard (by rfl) ?_; dsimp only)); refine box_event ?hg (N := 4) ?hd (cs := #[.string (⟨#[]⟩ : ByteArray), .int .i64 0, .int .i64 0, .bool false]) (t := 148) ?hr ?_; (case hd => rfl); (case hg => rfl); (case hr => first | (go_simp; done) | (go_simp; rfl)); intro gb636 hg w8 hbox hb; have n0_ := Aside0.mk (below_step (by repeat (first | (with_reducible first | exact HB.out | apply below_alloc | apply pw_below_drewN | apply below_drew1) | exact HB.out)) hb); have n1_ := Aside0.mk (hbox); have n2_ := Aside0.mk ((by rw [hg]; exact (below_size (by repeat (first | (with_reducible first | exact HB.out | apply below_alloc | apply pw_below_drewN | apply below_drew1) | exact HB.out))) : w.heap.size ≤ gb636)); have n3_ := Aside0.mk ((by rw [hg]; exact (below_size (by repeat (first | (with_reducible first | exact HB.out | apply below_alloc | apply pw_below_drewN | apply below_drew1) | exact HB.out))) : w.heap.size ≤ gb636)); clear HB; have HB := n0_; have BK636 := n1_; have GW636 := n2_; have GE636 := n3_; clear n0_ n1_ n2_ n3_; clear hb hbox hg; have hcz9_0 : w8.cell? ⟨gb636, 0, none⟩ = some (.string (⟨#[]⟩ : ByteArray)) := (blk_cell BK636.out 0).trans rfl; have hcz9_1 : w8.cell? ⟨gb636, 1, none⟩ = some (.int .i64 0) := (blk_cell BK636.out 1).trans rfl; have hcz9_2 : w8.cell? ⟨gb636, 2, none⟩ = some (.int .i64 0) := (blk_cell BK636.out 2).trans rfl; have hcz9_3 : w8.cell? ⟨gb636, 3, none⟩ = some (.bool false) := (blk_cell BK636.out 3).trans rfl; have hfz9_0 := blk_frozen BK636.out 0; have hfz9_1 := blk_frozen BK636.out 1; have hfz9_2 := blk_frozen BK636.out 2; have hfz9_3 := blk_frozen BK636.out 3)))
                (try simp only [Act.put, List.setIfInBounds_toArray, List.set_cons_zero, List.set_cons_succ])
                go_cut [53] (fun v53 wc => ∃ (kq : Nat) (x53_6 : Bool), v53 = .bool x53_6 ∧ Aside0 (elenchusref07_Right.j2 kq l0 x3_2 x53_6 ((rd_T148 l0 x3_2).f0) ((rd_T148 l0 x3_2).f1) ((rd_T148 l0 x3_2).f2) ((rd_T148 l0 x3_2).f3) = some r) ∧ Aside0 (kq ≤ k2) ∧ Aside0 (wc.heap[gb636]? = some (.cells #[.string ((rd_T148 l0 x3_2).f0), .int .i64 ((rd_T148 l0 x3_2).f1), .int .i64 ((rd_T148 l0 x3_2).f2), .bool ((rd_T148 l0 x3_2).f3)] 148 (0, 0))) ∧ Aside0 (Below w.heap.size w wc))
                case first =>
                  have H := HC7.out
                  clear HC7
                  by_cases c10 : (((rd_T148 l0 x3_2).f0).size : Int) < 1
                  · rw [if_pos c10] at H
                    have c10b0 : decide ((((rd_T148 l0 x3_2).f0).size : Int) < 1) = true := decide_eq_true c10
                    have c10b1 : decide (((rd_T148 l0 x3_2).f0).size < 1) = true := decide_eq_true (by omega)
                    clear c10
                    (first | rw [c10b0] | (simp only [i64_w, i32_w]; rw [c10b0]) | skip)
                    have H' := Aside0.mk H
                    clear H
                    have hcz11_0 : w8.cell? ⟨gb636, 0, none⟩ = some (.string (⟨#[]⟩ : ByteArray)) := (blk_cell BK636.out 0).trans rfl
                    have hcz11_1 : w8.cell? ⟨gb636, 1, none⟩ = some (.int .i64 0) := (blk_cell BK636.out 1).trans rfl
                    have hcz11_2 : w8.cell? ⟨gb636, 2, none⟩ = some (.int .i64 0) := (blk_cell BK636.out 2).trans rfl
                    have hcz11_3 : w8.cell? ⟨gb636, 3, none⟩ = some (.bool false) := (blk_cell BK636.out 3).trans rfl
                    have hfz11_0 := blk_frozen BK636.out 0
                    have hfz11_1 := blk_frozen BK636.out 1
                    have hfz11_2 := blk_frozen BK636.out 2
                    have hfz11_3 := blk_frozen BK636.out 3
                    go_wp2
                    repeat (go_quiet (fail); try go_wp2)
                    go_meet
                    case rel => exact ⟨_, (true), (by first | rfl | (simp; done) | (simp [*]; done)), H', ⟨by have := HJ1.out; have := HK2.out; first | omega | exact Nat.le_refl _⟩, ⟨by (with_reducible repeat (first | refine blk_drewN ?_ _ | refine blk_drew ?_ | refine blk_alloc ?_ _)); refine blk_put (cs := #[.string ((rd_T148 l0 x3_2).f0), .int .i64 ((rd_T148 l0 x3_2).f1), .int .i64 ((rd_T148 l0 x3_2).f2), .bool false]) ?_ 3 _ rfl; (with_reducible repeat (first | refine blk_drewN ?_ _ | refine blk_drew ?_ | refine blk_alloc ?_ _)); refine blk_put (cs := #[.string ((rd_T148 l0 x3_2).f0), .int .i64 ((rd_T148 l0 x3_2).f1), .int .i64 0, .bool false]) ?_ 2 _ rfl; (with_reducible repeat (first | refine blk_drewN ?_ _ | refine blk_drew ?_ | refine blk_alloc ?_ _)); refine blk_put (cs := #[.string ((rd_T148 l0 x3_2).f0), .int .i64 0, .int .i64 0, .bool false]) ?_ 1 _ rfl; (with_reducible repeat (first | refine blk_drewN ?_ _ | refine blk_drew ?_ | refine blk_alloc ?_ _)); refine blk_put (cs := #[.string (⟨#[]⟩ : ByteArray), .int .i64 0, .int .i64 0, .bool false]) ?_ 0 _ rfl; (with_reducible repeat (first | refine blk_drewN ?_ _ | refine blk_drew ?_ | refine blk_alloc ?_ _)); exact BK636.out⟩, ⟨by repeat (first | (with_reducible first | exact HB.out | apply below_alloc | apply pw_below_drewN | apply below_drew1 | refine below_set ?_ GE636.out) | exact HB.out)⟩⟩
                  · rw [if_neg c10] at H
                    have c10b0 : decide ((((rd_T148 l0 x3_2).f0).size : Int) < 1) = false := decide_eq_false c10
                    have c10b1 : decide (((rd_T148 l0 x3_2).f0).size < 1) = false := decide_eq_false (by omega)
                    clear c10
                    (first | rw [c10b0] | (simp only [i64_w, i32_w]; rw [c10b0]) | skip)
                    by_cases c12 : (((rd_T148 l0 x3_2).f0).size : Int) > 64
                    · rw [if_pos c12] at H
                      have c12b0 : decide (64 < (((rd_T148 l0 x3_2).f0).size : Int)) = true := decide_eq_true c12
                      have c12b1 : decide (64 < ((rd_T148 l0 x3_2).f0).size) = true := decide_eq_true (by omega)
                      clear c12
                      have H' := Aside0.mk H
                      clear H
                      have hcz13_0 : w8.cell? ⟨gb636, 0, none⟩ = some (.string (⟨#[]⟩ : ByteArray)) := (blk_cell BK636.out 0).trans rfl
                      have hcz13_1 : w8.cell? ⟨gb636, 1, none⟩ = some (.int .i64 0) := (blk_cell BK636.out 1).trans rfl
                      have hcz13_2 : w8.cell? ⟨gb636, 2, none⟩ = some (.int .i64 0) := (blk_cell BK636.out 2).trans rfl
                      have hcz13_3 : w8.cell? ⟨gb636, 3, none⟩ = some (.bool false) := (blk_cell BK636.out 3).trans rfl
                      have hfz13_0 := blk_frozen BK636.out 0
                      have hfz13_1 := blk_frozen BK636.out 1
                      have hfz13_2 := blk_frozen BK636.out 2
                      have hfz13_3 := blk_frozen BK636.out 3
                      go_wp2
                      repeat (go_quiet (fail); try go_wp2)
                      go_meet
                      case rel => exact ⟨_, (true), (by first | rfl | (simp; done) | (simp [*]; done)), H', ⟨by have := HJ1.out; have := HK2.out; first | omega | exact Nat.le_refl _⟩, ⟨by (with_reducible repeat (first | refine blk_drewN ?_ _ | refine blk_drew ?_ | refine blk_alloc ?_ _)); refine blk_put (cs := #[.string ((rd_T148 l0 x3_2).f0), .int .i64 ((rd_T148 l0 x3_2).f1), .int .i64 ((rd_T148 l0 x3_2).f2), .bool false]) ?_ 3 _ rfl; (with_reducible repeat (first | refine blk_drewN ?_ _ | refine blk_drew ?_ | refine blk_alloc ?_ _)); refine blk_put (cs := #[.string ((rd_T148 l0 x3_2).f0), .int .i64 ((rd_T148 l0 x3_2).f1), .int .i64 0, .bool false]) ?_ 2 _ rfl; (with_reducible repeat (first | refine blk_drewN ?_ _ | refine blk_drew ?_ | refine blk_alloc ?_ _)); refine blk_put (cs := #[.string ((rd_T148 l0 x3_2).f0), .int .i64 0, .int .i64 0, .bool false]) ?_ 1 _ rfl; (with_reducible repeat (first | refine blk_drewN ?_ _ | refine blk_drew ?_ | refine blk_alloc ?_ _)); refine blk_put (cs := #[.string (⟨#[]⟩ : ByteArray), .int .i64 0, .int .i64 0, .bool false]) ?_ 0 _ rfl; (with_reducible repeat (first | refine blk_drewN ?_ _ | refine blk_drew ?_ | refine blk_alloc ?_ _)); exact BK636.out⟩, ⟨by repeat (first | (with_reducible first | exact HB.out | apply below_alloc | apply pw_below_drewN | apply below_drew1 | refine below_set ?_ GE636.out) | exact HB.out)⟩⟩
                    · rw [if_neg c12] at H
                      have c12b0 : decide (64 < (((rd_T148 l0 x3_2).f0).size : Int)) = false := decide_eq_false c12
                      have c12b1 : decide (64 < ((rd_T148 l0 x3_2).f0).size) = false := decide_eq_false (by omega)
                      clear c12
                      by_cases c14 : ((rd_T148 l0 x3_2).f1) < 0
                      · rw [if_pos c14] at H
                        have c14b0 : decide (((rd_T148 l0 x3_2).f1) < 0) = true := decide_eq_true c14
                        clear c14
                        have H' := Aside0.mk H
                        clear H
                        have hcz15_0 : w8.cell? ⟨gb636, 0, none⟩ = some (.string (⟨#[]⟩ : ByteArray)) := (blk_cell BK636.out 0).trans rfl
                        have hcz15_1 : w8.cell? ⟨gb636, 1, none⟩ = some (.int .i64 0) := (blk_cell BK636.out 1).trans rfl
                        have hcz15_2 : w8.cell? ⟨gb636, 2, none⟩ = some (.int .i64 0) := (blk_cell BK636.out 2).trans rfl
                        have hcz15_3 : w8.cell? ⟨gb636, 3, none⟩ = some (.bool false) := (blk_cell BK636.out 3).trans rfl
                        have hfz15_0 := blk_frozen BK636.out 0
                        have hfz15_1 := blk_frozen BK636.out 1
                        have hfz15_2 := blk_frozen BK636.out 2
                        have hfz15_3 := blk_frozen BK636.out 3
                        go_wp2
                        repeat (go_quiet (fail); try go_wp2)
                        go_meet
                        case rel => exact ⟨_, (true), (by first | rfl | (simp; done) | (simp [*]; done)), H', ⟨by have := HJ1.out; have := HK2.out; first | omega | exact Nat.le_refl _⟩, ⟨by (with_reducible repeat (first | refine blk_drewN ?_ _ | refine blk_drew ?_ | refine blk_alloc ?_ _)); refine blk_put (cs := #[.string ((rd_T148 l0 x3_2).f0), .int .i64 ((rd_T148 l0 x3_2).f1), .int .i64 ((rd_T148 l0 x3_2).f2), .bool false]) ?_ 3 _ rfl; (with_reducible repeat (first | refine blk_drewN ?_ _ | refine blk_drew ?_ | refine blk_alloc ?_ _)); refine blk_put (cs := #[.string ((rd_T148 l0 x3_2).f0), .int .i64 ((rd_T148 l0 x3_2).f1), .int .i64 0, .bool false]) ?_ 2 _ rfl; (with_reducible repeat (first | refine blk_drewN ?_ _ | refine blk_drew ?_ | refine blk_alloc ?_ _)); refine blk_put (cs := #[.string ((rd_T148 l0 x3_2).f0), .int .i64 0, .int .i64 0, .bool false]) ?_ 1 _ rfl; (with_reducible repeat (first | refine blk_drewN ?_ _ | refine blk_drew ?_ | refine blk_alloc ?_ _)); refine blk_put (cs := #[.string (⟨#[]⟩ : ByteArray), .int .i64 0, .int .i64 0, .bool false]) ?_ 0 _ rfl; (with_reducible repeat (first | refine blk_drewN ?_ _ | refine blk_drew ?_ | refine blk_alloc ?_ _)); exact BK636.out⟩, ⟨by repeat (first | (with_reducible first | exact HB.out | apply below_alloc | apply pw_below_drewN | apply below_drew1 | refine below_set ?_ GE636.out) | exact HB.out)⟩⟩
                      · rw [if_neg c14] at H
                        have c14b0 : decide (((rd_T148 l0 x3_2).f1) < 0) = false := decide_eq_false c14
                        clear c14
                        by_cases c16 : ((rd_T148 l0 x3_2).f1) > 8
                        · rw [if_pos c16] at H
                          have c16b0 : decide (8 < ((rd_T148 l0 x3_2).f1)) = true := decide_eq_true c16
                          clear c16
                          have H' := Aside0.mk H
                          clear H
                          have hcz17_0 : w8.cell? ⟨gb636, 0, none⟩ = some (.string (⟨#[]⟩ : ByteArray)) := (blk_cell BK636.out 0).trans rfl
                          have hcz17_1 : w8.cell? ⟨gb636, 1, none⟩ = some (.int .i64 0) := (blk_cell BK636.out 1).trans rfl
                          have hcz17_2 : w8.cell? ⟨gb636, 2, none⟩ = some (.int .i64 0) := (blk_cell BK636.out 2).trans rfl
                          have hcz17_3 : w8.cell? ⟨gb636, 3, none⟩ = some (.bool false) := (blk_cell BK636.out 3).trans rfl
                          have hfz17_0 := blk_frozen BK636.out 0
                          have hfz17_1 := blk_frozen BK636.out 1
                          have hfz17_2 := blk_frozen BK636.out 2
                          have hfz17_3 := blk_frozen BK636.out 3
                          go_wp2
                          repeat (go_quiet (fail); try go_wp2)
                          go_meet
                          case rel => exact ⟨_, (true), (by first | rfl | (simp; done) | (simp [*]; done)), H', ⟨by have := HJ1.out; have := HK2.out; first | omega | exact Nat.le_refl _⟩, ⟨by (with_reducible repeat (first | refine blk_drewN ?_ _ | refine blk_drew ?_ | refine blk_alloc ?_ _)); refine blk_put (cs := #[.string ((rd_T148 l0 x3_2).f0), .int .i64 ((rd_T148 l0 x3_2).f1), .int .i64 ((rd_T148 l0 x3_2).f2), .bool false]) ?_ 3 _ rfl; (with_reducible repeat (first | refine blk_drewN ?_ _ | refine blk_drew ?_ | refine blk_alloc ?_ _)); refine blk_put (cs := #[.string ((rd_T148 l0 x3_2).f0), .int .i64 ((rd_T148 l0 x3_2).f1), .int .i64 0, .bool false]) ?_ 2 _ rfl; (with_reducible repeat (first | refine blk_drewN ?_ _ | refine blk_drew ?_ | refine blk_alloc ?_ _)); refine blk_put (cs := #[.string ((rd_T148 l0 x3_2).f0), .int .i64 0, .int .i64 0, .bool false]) ?_ 1 _ rfl; (with_reducible repeat (first | refine blk_drewN ?_ _ | refine blk_drew ?_ | refine blk_alloc ?_ _)); refine blk_put (cs := #[.string (⟨#[]⟩ : ByteArray), .int .i64 0, .int .i64 0, .bool false]) ?_ 0 _ rfl; (with_reducible repeat (first | refine blk_drewN ?_ _ | refine blk_drew ?_ | refine blk_alloc ?_ _)); exact BK636.out⟩, ⟨by repeat (first | (with_reducible first | exact HB.out | apply below_alloc | apply pw_below_drewN | apply below_drew1 | refine below_set ?_ GE636.out) | exact HB.out)⟩⟩
                        · rw [if_neg c16] at H
                          have c16b0 : decide (8 < ((rd_T148 l0 x3_2).f1)) = false := decide_eq_false c16
                          clear c16
                          by_cases c18 : ((rd_T148 l0 x3_2).f2) < 1
                          · rw [if_pos c18] at H
                            have c18b0 : decide (((rd_T148 l0 x3_2).f2) < 1) = true := decide_eq_true c18
                            clear c18
                            have H' := Aside0.mk H
                            clear H
                            have hcz19_0 : w8.cell? ⟨gb636, 0, none⟩ = some (.string (⟨#[]⟩ : ByteArray)) := (blk_cell BK636.out 0).trans rfl
                            have hcz19_1 : w8.cell? ⟨gb636, 1, none⟩ = some (.int .i64 0) := (blk_cell BK636.out 1).trans rfl
                            have hcz19_2 : w8.cell? ⟨gb636, 2, none⟩ = some (.int .i64 0) := (blk_cell BK636.out 2).trans rfl
                            have hcz19_3 : w8.cell? ⟨gb636, 3, none⟩ = some (.bool false) := (blk_cell BK636.out 3).trans rfl
                            have hfz19_0 := blk_frozen BK636.out 0
                            have hfz19_1 := blk_frozen BK636.out 1
                            have hfz19_2 := blk_frozen BK636.out 2
                            have hfz19_3 := blk_frozen BK636.out 3
                            go_wp2
                            repeat (go_quiet (fail); try go_wp2)
                            go_meet
                            case rel => exact ⟨_, (true), (by first | rfl | (simp; done) | (simp [*]; done)), H', ⟨by have := HJ1.out; have := HK2.out; first | omega | exact Nat.le_refl _⟩, ⟨by (with_reducible repeat (first | refine blk_drewN ?_ _ | refine blk_drew ?_ | refine blk_alloc ?_ _)); refine blk_put (cs := #[.string ((rd_T148 l0 x3_2).f0), .int .i64 ((rd_T148 l0 x3_2).f1), .int .i64 ((rd_T148 l0 x3_2).f2), .bool false]) ?_ 3 _ rfl; (with_reducible repeat (first | refine blk_drewN ?_ _ | refine blk_drew ?_ | refine blk_alloc ?_ _)); refine blk_put (cs := #[.string ((rd_T148 l0 x3_2).f0), .int .i64 ((rd_T148 l0 x3_2).f1), .int .i64 0, .bool false]) ?_ 2 _ rfl; (with_reducible repeat (first | refine blk_drewN ?_ _ | refine blk_drew ?_ | refine blk_alloc ?_ _)); refine blk_put (cs := #[.string ((rd_T148 l0 x3_2).f0), .int .i64 0, .int .i64 0, .bool false]) ?_ 1 _ rfl; (with_reducible repeat (first | refine blk_drewN ?_ _ | refine blk_drew ?_ | refine blk_alloc ?_ _)); refine blk_put (cs := #[.string (⟨#[]⟩ : ByteArray), .int .i64 0, .int .i64 0, .bool false]) ?_ 0 _ rfl; (with_reducible repeat (first | refine blk_drewN ?_ _ | refine blk_drew ?_ | refine blk_alloc ?_ _)); exact BK636.out⟩, ⟨by repeat (first | (with_reducible first | exact HB.out | apply below_alloc | apply pw_below_drewN | apply below_drew1 | refine below_set ?_ GE636.out) | exact HB.out)⟩⟩
                          · rw [if_neg c18] at H
                            have c18b0 : decide (((rd_T148 l0 x3_2).f2) < 1) = false := decide_eq_false c18
                            clear c18
                            have H' := Aside0.mk H
                            clear H
                            have hcz20_0 : w8.cell? ⟨gb636, 0, none⟩ = some (.string (⟨#[]⟩ : ByteArray)) := (blk_cell BK636.out 0).trans rfl
                            have hcz20_1 : w8.cell? ⟨gb636, 1, none⟩ = some (.int .i64 0) := (blk_cell BK636.out 1).trans rfl
                            have hcz20_2 : w8.cell? ⟨gb636, 2, none⟩ = some (.int .i64 0) := (blk_cell BK636.out 2).trans rfl
                            have hcz20_3 : w8.cell? ⟨gb636, 3, none⟩ = some (.bool false) := (blk_cell BK636.out 3).trans rfl
                            have hfz20_0 := blk_frozen BK636.out 0
                            have hfz20_1 := blk_frozen BK636.out 1
                            have hfz20_2 := blk_frozen BK636.out 2
                            have hfz20_3 := blk_frozen BK636.out 3
                            go_wp2
                            repeat (go_quiet (fail); try go_wp2)
                            go_meet
                            case rel => exact ⟨_, (decide (((rd_T148 l0 x3_2).f2) > 1000)), (by first | rfl | (simp; done) | (simp [*]; done)), H', ⟨by have := HJ1.out; have := HK2.out; first | omega | exact Nat.le_refl _⟩, ⟨by (with_reducible repeat (first | refine blk_drewN ?_ _ | refine blk_drew ?_ | refine blk_alloc ?_ _)); refine blk_put (cs := #[.string ((rd_T148 l0 x3_2).f0), .int .i64 ((rd_T148 l0 x3_2).f1), .int .i64 ((rd_T148 l0 x3_2).f2), .bool false]) ?_ 3 _ rfl; (with_reducible repeat (first | refine blk_drewN ?_ _ | refine blk_drew ?_ | refine blk_alloc ?_ _)); refine blk_put (cs := #[.string ((rd_T148 l0 x3_2).f0), .int .i64 ((rd_T148 l0 x3_2).f1), .int .i64 0, .bool false]) ?_ 2 _ rfl; (with_reducible repeat (first | refine blk_drewN ?_ _ | refine blk_drew ?_ | refine blk_alloc ?_ _)); refine blk_put (cs := #[.string ((rd_T148 l0 x3_2).f0), .int .i64 0, .int .i64 0, .bool false]) ?_ 1 _ rfl; (with_reducible repeat (first | refine blk_drewN ?_ _ | refine blk_drew ?_ | refine blk_alloc ?_ _)); refine blk_put (cs := #[.string (⟨#[]⟩ : ByteArray), .int .i64 0, .int .i64 0, .bool false]) ?_ 0 _ rfl; (with_reducible repeat (first | refine blk_drewN ?_ _ | refine blk_drew ?_ | refine blk_alloc ?_ _)); exact BK636.out⟩, ⟨by repeat (first | (with_reducible first | exact HB.out | apply below_alloc | apply pw_below_drewN | apply below_drew1 | refine below_set ?_ GE636.out) | exact HB.out)⟩⟩
                case rest =>
                  clear HC7
                  try clear c1
                  try clear p2
                  try clear c3
                  try clear c3b0
                  try clear c3b1
                  try clear c4
                  try clear c5
                  try clear c5b0
                  try clear c6
                  try clear c6b0
                  try clear p6
                  try clear q6
                  try clear hx6
                  try clear c10
                  try clear c10b0
                  try clear c10b1
                  try clear c12
                  try clear c12b0
                  try clear c12b1
                  try clear c14
                  try clear c14b0
                  try clear c15
                  try clear c16
                  try clear c16b0
                  try clear c18
                  try clear c18b0
                  try clear hcz11_0
                  try clear hcz11_1
                  try clear hcz11_2
                  try clear hcz11_3
                  try clear hcz13_0
                  try clear hcz13_1
                  try clear hcz13_2
                  try clear hcz13_3
                  try clear hcz15_0
                  try clear hcz15_1
                  try clear hcz15_2
                  try clear hcz15_3
                  try clear hcz17_0
                  try clear hcz17_1
                  try clear hcz17_2
                  try clear hcz17_3
                  try clear hcz19_0
                  try clear hcz19_1
                  try clear hcz19_2
                  try clear hcz19_3
                  try clear hcz20_0
                  try clear hcz20_1
                  try clear hcz20_2
                  try clear hcz20_3
                  try clear hcz9_0
                  try clear hcz9_1
                  try clear hcz9_2
                  try clear hcz9_3
                  try clear hfz11_0
                  try clear hfz11_1
                  try clear hfz11_2
                  try clear hfz11_3
                  try clear hfz13_0
                  try clear hfz13_1
                  try clear hfz13_2
                  try clear hfz13_3
                  try clear hfz15_0
                  try clear hfz15_1
                  try clear hfz15_2
                  try clear hfz15_3
                  try clear hfz17_0
                  try clear hfz17_1
                  try clear hfz17_2
                  try clear hfz17_3
                  try clear hfz19_0
                  try clear hfz19_1
                  try clear hfz19_2
                  try clear hfz19_3
                  try clear hfz20_0
                  try clear hfz20_1
                  try clear hfz20_2
                  try clear hfz20_3
                  try clear hfz9_0
                  try clear hfz9_1
                  try clear hfz9_2
                  try clear hfz9_3
                  try clear hx635_0
                  try clear hx635_1
                  try clear hx635_2
                  try clear hx635_3
                  try clear p2
                  try clear p635
                  try clear q635
                  obtain ⟨kq, x53_6, rfl, HA, HJ6, BK636, HB⟩ := hcut
                  cases kq with
                  | zero => exact absurd HA.out (by simp [elenchusref07_Right.j2])
                  | succ kj6 =>
                    have H := HA.out
                    clear HA
                    simp only [elenchusref07_Right.j2] at H
                    by_cases c21 : x53_6 = true
                    · subst c21
                      have H1 : (some false) = some r := by rw [if_pos rfl] at H; exact H
                      clear H
                      have H := H1
                      clear H1
                      obtain rfl := Option.some.inj H
                      go_wp2
                      repeat (go_quiet (fail); try go_wp2)
                      go_ret
                      exact ⟨by first | rfl | (simp [errW_none, errW_some] <;> rfl) | (simp [*, errW_none, errW_some] <;> rfl), by repeat (first | (with_reducible first | exact HB.out | apply below_alloc | apply pw_below_drewN | apply below_drew1 | refine below_set ?_ GE636.out) | exact HB.out)⟩
                    · replace c21 := Bool.eq_false_iff.mpr c21
                      subst c21
                      have H1 : (elenchusref07_Right.l1 kj6 l0 x3_2 0 ((rd_T148 l0 x3_2).f0) ((rd_T148 l0 x3_2).f1) ((rd_T148 l0 x3_2).f2) ((rd_T148 l0 x3_2).f3)) = some r := by rw [if_neg (show ¬ (false = true) by decide)] at H; exact H
                      clear H
                      have H := H1
                      clear H1
                      have H' := Aside0.mk H
                      clear H
                      go_wp2
                      repeat (go_quiet (fail); try go_wp2)
                      go_loopg [5] kj6 (fun kq v5 w' => ∃ (x5_4 : Int), v5 = .int .i64 x5_4 ∧ Aside0 (elenchusref07_Right.l1 kq l0 x3_2 x5_4 ((rd_T148 l0 x3_2).f0) ((rd_T148 l0 x3_2).f1) ((rd_T148 l0 x3_2).f2) ((rd_T148 l0 x3_2).f3) = some r) ∧ Aside0 (kq ≤ kj6) ∧ Aside0 (w'.heap[gb636]? = some (.cells #[.string ((rd_T148 l0 x3_2).f0), .int .i64 ((rd_T148 l0 x3_2).f1), .int .i64 ((rd_T148 l0 x3_2).f2), .bool ((rd_T148 l0 x3_2).f3)] 148 (0, 0))) ∧ Aside0 (Below w.heap.size w w'))
                      case atStart => exact ⟨(0), (by first | rfl | (simp; done) | (simp [*]; done)), H', ⟨Nat.le_refl _⟩, ⟨by (with_reducible repeat (first | refine blk_drewN ?_ _ | refine blk_drew ?_ | refine blk_alloc ?_ _)); exact BK636.out⟩, ⟨by repeat (first | (with_reducible first | exact HB.out | apply below_alloc | apply pw_below_drewN | apply below_drew1 | refine below_set ?_ GE636.out) | exact HB.out)⟩⟩
                      case round =>
                        clear H'
                        try clear c1
                        try clear c2
                        try clear p2
                        try clear c3
                        try clear c3b0
                        try clear c3b1
                        try clear c4
                        try clear c5
                        try clear c5b0
                        try clear c6
                        try clear c6b0
                        try clear p6
                        try clear q6
                        try clear hx6
                        try clear c10
                        try clear c10b0
                        try clear c10b1
                        try clear c12
                        try clear c12b0
                        try clear c12b1
                        try clear c14
                        try clear c14b0
                        try clear c15
                        try clear c16
                        try clear c16b0
                        try clear c18
                        try clear c18b0
                        try clear c21
                        try clear hcz11_0
                        try clear hcz11_1
                        try clear hcz11_2
                        try clear hcz11_3
                        try clear hcz13_0
                        try clear hcz13_1
                        try clear hcz13_2
                        try clear hcz13_3
                        try clear hcz15_0
                        try clear hcz15_1
                        try clear hcz15_2
                        try clear hcz15_3
                        try clear hcz17_0
                        try clear hcz17_1
                        try clear hcz17_2
                        try clear hcz17_3
                        try clear hcz19_0
                        try clear hcz19_1
                        try clear hcz19_2
                        try clear hcz19_3
                        try clear hcz20_0
                        try clear hcz20_1
                        try clear hcz20_2
                        try clear hcz20_3
                        try clear hcz9_0
                        try clear hcz9_1
                        try clear hcz9_2
                        try clear hcz9_3
                        try clear hfz11_0
                        try clear hfz11_1
                        try clear hfz11_2
                        try clear hfz11_3
                        try clear hfz13_0
                        try clear hfz13_1
                        try clear hfz13_2
                        try clear hfz13_3
                        try clear hfz15_0
                        try clear hfz15_1
                        try clear hfz15_2
                        try clear hfz15_3
                        try clear hfz17_0
                        try clear hfz17_1
                        try clear hfz17_2
                        try clear hfz17_3
                        try clear hfz19_0
                        try clear hfz19_1
                        try clear hfz19_2
                        try clear hfz19_3
                        try clear hfz20_0
                        try clear hfz20_1
                        try clear hfz20_2
                        try clear hfz20_3
                        try clear hfz9_0
                        try clear hfz9_1
                        try clear hfz9_2
                        try clear hfz9_3
                        try clear hx635_0
                        try clear hx635_1
                        try clear hx635_2
                        try clear hx635_3
                        try clear p2
                        try clear p6
                        try clear p635
                        try clear q6
                        try clear q635
                        obtain ⟨x5_4, rfl, HA, HK4, BK636, HB⟩ := hrel
                        cases gk with
                        | zero => exact absurd HA.out (by simp [elenchusref07_Right.l1])
                        | succ k4 =>
                          have H := HA.out
                          clear HA
                          simp only [elenchusref07_Right.l1] at H
                          by_cases c22 : x5_4 < x3_2
                          · rw [if_pos c22] at H
                            have c22b0 : decide (x5_4 < x3_2) = true := decide_eq_true c22
                            clear c22
                            by_cases c23 : 0 ≤ x5_4
                            · rw [if_pos c23] at H
                              have c23b0 : decide (0 ≤ x5_4) = true := decide_eq_true c23
                              clear c23
                              by_cases c24 : x5_4 < (l0.length : Int)
                              · rw [if_pos c24] at H
                                have c24b0 : decide (x5_4 < (l0.length : Int)) = true := decide_eq_true c24
                                clear c24
                                by_cases c25 : ((rd_T148 l0 x5_4).f0).toList = ((rd_T148 l0 x3_2).f0).toList
                                · rw [if_pos c25] at H
                                  have c25b0 : (((rd_T148 l0 x5_4).f0).toList == ((rd_T148 l0 x3_2).f0).toList) = true := beq_iff_eq.mpr c25
                                  have c25b1 : (((rd_T148 l0 x5_4).f0).toList != ((rd_T148 l0 x3_2).f0).toList) = false := bne_eq_false_iff_eq.mpr c25
                                  clear c25
                                  obtain rfl := Option.some.inj H
                                  have p637 : 0 ≤ (x5_4 : Int) := of_decide_eq_true (by first | (with_reducible assumption) | assumption)
                                  have q637 : x5_4 < (l0.length : Int) := of_decide_eq_true (by first | (with_reducible assumption) | assumption)
                                  obtain ⟨ad637, e637, hx637_0, hx637_1, hx637_2, hx637_3⟩ := at_T148 HR0.out x5_4 p637 q637
                                  obtain rfl : ad635 = ad637 := (by injection e637)
                                  replace hx637_0 := (HB.out.cell (World.block_lt_of_cell? w _ hx637_0)).trans hx637_0
                                  replace hx637_1 := (HB.out.cell (World.block_lt_of_cell? w _ hx637_1)).trans hx637_1
                                  replace hx637_2 := (HB.out.cell (World.block_lt_of_cell? w _ hx637_2)).trans hx637_2
                                  replace hx637_3 := (HB.out.cell (World.block_lt_of_cell? w _ hx637_3)).trans hx637_3
                                  replace p637 := eq_true p637
                                  replace q637 := eq_true q637
                                  have hcz26_0 : wr.cell? ⟨gb636, 0, none⟩ = some (.string ((rd_T148 l0 x3_2).f0)) := (blk_cell BK636.out 0).trans rfl
                                  have hcz26_1 : wr.cell? ⟨gb636, 1, none⟩ = some (.int .i64 ((rd_T148 l0 x3_2).f1)) := (blk_cell BK636.out 1).trans rfl
                                  have hcz26_2 : wr.cell? ⟨gb636, 2, none⟩ = some (.int .i64 ((rd_T148 l0 x3_2).f2)) := (blk_cell BK636.out 2).trans rfl
                                  have hcz26_3 : wr.cell? ⟨gb636, 3, none⟩ = some (.bool ((rd_T148 l0 x3_2).f3)) := (blk_cell BK636.out 3).trans rfl
                                  have hfz26_0 := blk_frozen BK636.out 0
                                  have hfz26_1 := blk_frozen BK636.out 1
                                  have hfz26_2 := blk_frozen BK636.out 2
                                  have hfz26_3 := blk_frozen BK636.out 3
                                  go_wp2
                                  repeat (go_quiet (fail); try go_wp2)
                                  go_ret
                                  exact ⟨by first | rfl | (simp [errW_none, errW_some] <;> rfl) | (simp [*, errW_none, errW_some] <;> rfl), by repeat (first | (with_reducible first | exact HB.out | apply below_alloc | apply pw_below_drewN | apply below_drew1 | refine below_set ?_ GE636.out) | exact HB.out)⟩
                                · rw [if_neg c25] at H
                                  have c25b0 : (((rd_T148 l0 x5_4).f0).toList == ((rd_T148 l0 x3_2).f0).toList) = false := beq_eq_false_iff_ne.mpr c25
                                  have c25b1 : (((rd_T148 l0 x5_4).f0).toList != ((rd_T148 l0 x3_2).f0).toList) = true := bne_iff_ne.mpr c25
                                  have H' := Aside0.mk H
                                  clear H
                                  have p637 : 0 ≤ (x5_4 : Int) := of_decide_eq_true (by first | (with_reducible assumption) | assumption)
                                  have q637 : x5_4 < (l0.length : Int) := of_decide_eq_true (by first | (with_reducible assumption) | assumption)
                                  obtain ⟨ad637, e637, hx637_0, hx637_1, hx637_2, hx637_3⟩ := at_T148 HR0.out x5_4 p637 q637
                                  obtain rfl : ad635 = ad637 := (by injection e637)
                                  replace hx637_0 := (HB.out.cell (World.block_lt_of_cell? w _ hx637_0)).trans hx637_0
                                  replace hx637_1 := (HB.out.cell (World.block_lt_of_cell? w _ hx637_1)).trans hx637_1
                                  replace hx637_2 := (HB.out.cell (World.block_lt_of_cell? w _ hx637_2)).trans hx637_2
                                  replace hx637_3 := (HB.out.cell (World.block_lt_of_cell? w _ hx637_3)).trans hx637_3
                                  replace p637 := eq_true p637
                                  replace q637 := eq_true q637
                                  have hcz27_0 : wr.cell? ⟨gb636, 0, none⟩ = some (.string ((rd_T148 l0 x3_2).f0)) := (blk_cell BK636.out 0).trans rfl
                                  have hcz27_1 : wr.cell? ⟨gb636, 1, none⟩ = some (.int .i64 ((rd_T148 l0 x3_2).f1)) := (blk_cell BK636.out 1).trans rfl
                                  have hcz27_2 : wr.cell? ⟨gb636, 2, none⟩ = some (.int .i64 ((rd_T148 l0 x3_2).f2)) := (blk_cell BK636.out 2).trans rfl
                                  have hcz27_3 : wr.cell? ⟨gb636, 3, none⟩ = some (.bool ((rd_T148 l0 x3_2).f3)) := (blk_cell BK636.out 3).trans rfl
                                  have hfz27_0 := blk_frozen BK636.out 0
                                  have hfz27_1 := blk_frozen BK636.out 1
                                  have hfz27_2 := blk_frozen BK636.out 2
                                  have hfz27_3 := blk_frozen BK636.out 3
                                  go_wp2
                                  repeat (go_quiet (fail); try go_wp2)
                                  go_roundg k4
                                  case measure => have := HJ1.out; have := HK2.out; have := HJ6.out; have := HK4.out; omega
                                  case rel => exact ⟨(wrap64 (x5_4 + 1)), (by first | rfl | (simp; done) | (simp [*]; done)), H', ⟨by have := HJ1.out; have := HK2.out; have := HJ6.out; have := HK4.out; omega⟩, ⟨by (with_reducible repeat (first | refine blk_drewN ?_ _ | refine blk_drew ?_ | refine blk_alloc ?_ _)); exact BK636.out⟩, ⟨by repeat (first | (with_reducible first | exact HB.out | apply below_alloc | apply pw_below_drewN | apply below_drew1 | refine below_set ?_ GE636.out) | exact HB.out)⟩⟩
                              · rw [if_neg c24] at H
                                exact absurd H (by simp)
                            · rw [if_neg c23] at H
                              exact absurd H (by simp)
                          · rw [if_neg c22] at H
                            have c22b0 : decide (x5_4 < x3_2) = false := decide_eq_false c22
                            clear c22
                            have H' := Aside0.mk H
                            clear H
                            go_wp2
                            repeat (go_quiet (fail); try go_wp2)
                            go_roundg k4
                            case measure => have := HJ1.out; have := HK2.out; have := HJ6.out; have := HK4.out; omega
                            case rel => exact ⟨(wrap64 (x3_2 + 1)), (by first | rfl | (simp; done) | (simp [*]; done)), H', ⟨by have := HJ1.out; have := HK2.out; have := HJ6.out; have := HK4.out; omega⟩, ⟨by repeat (first | (with_reducible first | exact HB.out | apply below_alloc | apply pw_below_drewN | apply below_drew1 | refine below_set ?_ GE636.out) | exact HB.out)⟩⟩
              · rw [if_neg c6] at H
                exact absurd H (by simp)
            · rw [if_neg c5] at H
              have c5b0 : decide (x3_2 < (l0.length : Int)) = false := decide_eq_false c5
              clear c5
              by_cases c28 : 0 < (l0.length : Int)
              · rw [if_pos c28] at H
                have c28b0 : decide (0 < (l0.length : Int)) = true := decide_eq_true c28
                have c28b1 : decide (0 < l0.length) = true := decide_eq_true (by omega)
                clear c28
                obtain rfl := Option.some.inj H
                have p634 : 0 ≤ (0 : Int) := (by omega)
                have q634 : 0 < (l0.length : Int) := of_decide_eq_true (by first | (with_reducible assumption) | assumption)
                obtain ⟨ad634, e634, hx634_0, hx634_1, hx634_2, hx634_3⟩ := at_T148 HR0.out 0 p634 q634
                cases e634
                have qi634 : (0 < l0.length) = True := eq_true (by omega)
                (try rw [show ((0 : Int)).toNat = 0 from rfl] at hx634_0)
                (try rw [show 0 * 4 = 0 from rfl] at hx634_0)
                (try rw [Addr.add_zero'] at hx634_0)
                (try rw [show ((0 : Int)).toNat = 0 from rfl] at hx634_1)
                (try rw [show 0 * 4 = 0 from rfl] at hx634_1)
                (try rw [Addr.add_zero'] at hx634_1)
                (try rw [show ((0 : Int)).toNat = 0 from rfl] at hx634_2)
                (try rw [show 0 * 4 = 0 from rfl] at hx634_2)
                (try rw [Addr.add_zero'] at hx634_2)
                (try rw [show ((0 : Int)).toNat = 0 from rfl] at hx634_3)
                (try rw [show 0 * 4 = 0 from rfl] at hx634_3)
                (try rw [Addr.add_zero'] at hx634_3)
                replace hx634_0 := (HB.out.cell (World.block_lt_of_cell? w _ hx634_0)).trans hx634_0
                replace hx634_1 := (HB.out.cell (World.block_lt_of_cell? w _ hx634_1)).trans hx634_1
                replace hx634_2 := (HB.out.cell (World.block_lt_of_cell? w _ hx634_2)).trans hx634_2
                replace hx634_3 := (HB.out.cell (World.block_lt_of_cell? w _ hx634_3)).trans hx634_3
                replace p634 := eq_true p634
                replace q634 := eq_true q634
                go_wp2
                repeat (go_quiet (fail); try go_wp2)
                go_ret
                exact ⟨by first | rfl | (simp [errW_none, errW_some] <;> rfl) | (simp [*, errW_none, errW_some] <;> rfl), by repeat (first | (with_reducible first | exact HB.out | apply below_alloc | apply pw_below_drewN | apply below_drew1) | exact HB.out)⟩
              · rw [if_neg c28] at H
                exact absurd H (by simp)
end Go.Proofs.Ythplndalbfcbbaa.PA
namespace Go.Proofs.Ythplndalbfcbbaa.PA
open Go.RowKit Go.Proofs.YthplndalbfcbbaaW.PrintWords Go.Proofs.YthplndalbfcbbaaW.PrintLast Go.Proofs.YthplndalbfcbbaaW.PrintMore
attribute [local go_sem] max2_int min2_int max_two min_two max_three min_three max_four min_four   -- for this text's walks alone
set_option linter.unusedVariables false
set_option linter.unusedSimpArgs false
def elenchusref07_Truth.f (l0 : List (S148)) (a1_0 : Int) (l1_1 : List (S25)) : Option (Bool) := if a1_0 ≥ 0 then (if a1_0 < (l0.length : Int) then (if 0 ≤ a1_0 then (some ((rd_T148 l0 a1_0).f3)) else (none)) else (some false)) else (some false)
set_option maxHeartbeats 8000000 in
set_option maxRecDepth 100000 in
theorem elenchusref07_Truth.calls (A0 : Option Addr) (c0 : Nat) (l0 : List (S148)) (a1_0 : Int) (A1_1 : Option Addr) (c1_1 : Nat) (l1_1 : List (S25)) (r : Bool) (w : World) (hr0 : Kd.C k148 w A0 l0.length l0) (hc0 : l0.length ≤ c0) (hr1_1 : Kd.C k25 w A1_1 l1_1.length l1_1) (hc1_1 : l1_1.length ≤ c1_1) (h : elenchusref07_Truth.f l0 a1_0 l1_1 = some r) :
    Calls Try.prog 190 #[.slice A0 l0.length c0, .agg #[.int .i64 a1_0, .slice A1_1 l1_1.length c1_1]] w fun e w' => e = .returned (.bool r) ∧ Below w.heap.size w w' := by
  have hu25 := Try.underlying25
  have HR0 := Aside0.mk hr0
  have HC0 := Aside0.mk hc0
  clear hr0 hc0
  have HR1_1 := Aside0.mk hr1_1
  have HC1_1 := Aside0.mk hc1_1
  clear hr1_1 hc1_1
  have HB := Aside0.mk (Below.refl w.heap.size w)
  have H : (if a1_0 ≥ 0 then (if a1_0 < (l0.length : Int) then (if 0 ≤ a1_0 then (some ((rd_T148 l0 a1_0).f3)) else (none)) else (some false)) else (some false)) = some r := h
  clear h
  by_cases c3 : a1_0 ≥ 0
  · rw [if_pos c3] at H
    have c3b0 : decide (0 ≤ a1_0) = true := decide_eq_true c3
    clear c3
    by_cases c4 : a1_0 < (l0.length : Int)
    · rw [if_pos c4] at H
      have c4b0 : decide (a1_0 < (l0.length : Int)) = true := decide_eq_true c4
      clear c4
      by_cases c5 : 0 ≤ a1_0
      · rw [if_pos c5] at H
        have c5b0 : decide (0 ≤ a1_0) = true := decide_eq_true c5
        clear c5
        obtain rfl := Option.some.inj H
        go_enter Try.func190, Try.ntmps190
        go_wp2_with (first | ((with_reducible refine gate_dst (N := 3) rfl ?_); (try (refine gate_guard (by rfl) ?_; dsimp only)); refine box_event ?hg (N := 3) ?hd (cs := #[.int .i64 a1_0, .slice A1_1 l1_1.length c1_1]) (t := 25) ?hr ?_; (case hd => rfl); (case hg => rfl); (case hr => first | (go_simp; done) | (go_simp; rfl)); intro gb642 hg w6 hbox hb; have n0_ := Aside0.mk (below_step (by repeat (first | (with_reducible first | exact HB.out | apply below_alloc | apply pw_below_drewN | apply below_drew1) | exact HB.out)) hb); have n1_ := Aside0.mk (hbox); have n2_ := Aside0.mk ((by rw [hg]; exact (below_size (by repeat (first | (with_reducible first | exact HB.out | apply below_alloc | apply pw_below_drewN | apply below_drew1) | exact HB.out))) : w.heap.size ≤ gb642)); have n3_ := Aside0.mk ((by rw [hg]; exact (below_size (by repeat (first | (with_reducible first | exact HB.out | apply below_alloc | apply pw_below_drewN | apply below_drew1) | exact HB.out))) : w.heap.size ≤ gb642)); clear HB; have HB := n0_; have BK642 := n1_; have GW642 := n2_; have GE642 := n3_; clear n0_ n1_ n2_ n3_; clear hb hbox hg; have hcz7_0 : w6.cell? ⟨gb642, 0, none⟩ = some (.int .i64 a1_0) := (blk_cell BK642.out 0).trans rfl; have hcz7_1 : w6.cell? ⟨gb642, 1, none⟩ = some (.slice A1_1 l1_1.length c1_1) := (blk_cell BK642.out 1).trans rfl; have hfz7_0 := blk_frozen BK642.out 0; have hfz7_1 := blk_frozen BK642.out 1; have p643 : 0 ≤ (a1_0 : Int) := of_decide_eq_true (by first | (with_reducible assumption) | assumption); have q643 : a1_0 < (l0.length : Int) := of_decide_eq_true (by first | (with_reducible assumption) | assumption); obtain ⟨ad643, e643, hx643_0, hx643_1, hx643_2, hx643_3⟩ := at_T148 HR0.out a1_0 p643 q643; cases e643; replace hx643_0 := (HB.out.cell (World.block_lt_of_cell? w _ hx643_0)).trans hx643_0; replace hx643_1 := (HB.out.cell (World.block_lt_of_cell? w _ hx643_1)).trans hx643_1; replace hx643_2 := (HB.out.cell (World.block_lt_of_cell? w _ hx643_2)).trans hx643_2; replace hx643_3 := (HB.out.cell (World.block_lt_of_cell? w _ hx643_3)).trans hx643_3; replace p643 := eq_true p643; replace q643 := eq_true q643))
        go_ret
        exact ⟨by first | rfl | (simp [errW_none, errW_some] <;> rfl) | (simp [*, errW_none, errW_some] <;> rfl), by repeat (first | (with_reducible first | exact HB.out | apply below_alloc | apply pw_below_drewN | apply below_drew1 | refine below_set ?_ GE642.out) | exact HB.out)⟩
      · rw [if_neg c5] at H
        exact absurd H (by simp)
    · rw [if_neg c4] at H
      have c4b0 : decide (a1_0 < (l0.length : Int)) = false := decide_eq_false c4
      clear c4
      obtain rfl := Option.some.inj H
      go_enter Try.func190, Try.ntmps190
      go_wp2_with (first | ((with_reducible refine gate_dst (N := 3) rfl ?_); (try (refine gate_guard (by rfl) ?_; dsimp only)); refine box_event ?hg (N := 3) ?hd (cs := #[.int .i64 a1_0, .slice A1_1 l1_1.length c1_1]) (t := 25) ?hr ?_; (case hd => rfl); (case hg => rfl); (case hr => first | (go_simp; done) | (go_simp; rfl)); intro gb642 hg w8 hbox hb; have n0_ := Aside0.mk (below_step (by repeat (first | (with_reducible first | exact HB.out | apply below_alloc | apply pw_below_drewN | apply below_drew1) | exact HB.out)) hb); have n1_ := Aside0.mk (hbox); have n2_ := Aside0.mk ((by rw [hg]; exact (below_size (by repeat (first | (with_reducible first | exact HB.out | apply below_alloc | apply pw_below_drewN | apply below_drew1) | exact HB.out))) : w.heap.size ≤ gb642)); have n3_ := Aside0.mk ((by rw [hg]; exact (below_size (by repeat (first | (with_reducible first | exact HB.out | apply below_alloc | apply pw_below_drewN | apply below_drew1) | exact HB.out))) : w.heap.size ≤ gb642)); clear HB; have HB := n0_; have BK642 := n1_; have GW642 := n2_; have GE642 := n3_; clear n0_ n1_ n2_ n3_; clear hb hbox hg; have hcz9_0 : w8.cell? ⟨gb642, 0, none⟩ = some (.int .i64 a1_0) := (blk_cell BK642.out 0).trans rfl; have hcz9_1 : w8.cell? ⟨gb642, 1, none⟩ = some (.slice A1_1 l1_1.length c1_1) := (blk_cell BK642.out 1).trans rfl; have hfz9_0 := blk_frozen BK642.out 0; have hfz9_1 := blk_frozen BK642.out 1))
      go_ret
      exact ⟨by first | rfl | (simp [errW_none, errW_some] <;> rfl) | (simp [*, errW_none, errW_some] <;> rfl), by repeat (first | (with_reducible first | exact HB.out | apply below_alloc | apply pw_below_drewN | apply below_drew1 | refine below_set ?_ GE642.out) | exact HB.out)⟩
  · rw [if_neg c3] at H
    have c3b0 : decide (0 ≤ a1_0) = false := decide_eq_false c3
    clear c3
    obtain rfl := Option.some.inj H
    go_enter Try.func190, Try.ntmps190
    go_wp2_with (first | ((with_reducible refine gate_dst (N := 3) rfl ?_); (try (refine gate_guard (by rfl) ?_; dsimp only)); refine box_event ?hg (N := 3) ?hd (cs := #[.int .i64 a1_0, .slice A1_1 l1_1.length c1_1]) (t := 25) ?hr ?_; (case hd => rfl); (case hg => rfl); (case hr => first | (go_simp; done) | (go_simp; rfl)); intro gb642 hg w10 hbox hb; have n0_ := Aside0.mk (below_step (by repeat (first | (with_reducible first | exact HB.out | apply below_alloc | apply pw_below_drewN | apply below_drew1) | exact HB.out)) hb); have n1_ := Aside0.mk (hbox); have n2_ := Aside0.mk ((by rw [hg]; exact (below_size (by repeat (first | (with_reducible first | exact HB.out | apply below_alloc | apply pw_below_drewN | apply below_drew1) | exact HB.out))) : w.heap.size ≤ gb642)); have n3_ := Aside0.mk ((by rw [hg]; exact (below_size (by repeat (first | (with_reducible first | exact HB.out | apply below_alloc | apply pw_below_drewN | apply below_drew1) | exact HB.out))) : w.heap.size ≤ gb642)); clear HB; have HB := n0_; have BK642 := n1_; have GW642 := n2_; have GE642 := n3_; clear n0_ n1_ n2_ n3_; clear hb hbox hg; have hcz11_0 : w10.cell? ⟨gb642, 0, none⟩ = some (.int .i64 a1_0) := (blk_cell BK642.out 0).trans rfl; have hcz11_1 : w10.cell? ⟨gb642, 1, none⟩ = some (.slice A1_1 l1_1.length c1_1) := (blk_cell BK642.out 1).trans rfl; have hfz11_0 := blk_frozen BK642.out 0; have hfz11_1 := blk_frozen BK642.out 1))
    go_ret
    exact ⟨by first | rfl | (simp [errW_none, errW_some] <;> rfl) | (simp [*, errW_none, errW_some] <;> rfl), by repeat (first | (with_reducible first | exact HB.out | apply below_alloc | apply pw_below_drewN | apply below_drew1 | refine below_set ?_ GE642.out) | exact HB.out)⟩
end Go.Proofs.Ythplndalbfcbbaa.PA
namespace Go.Proofs.Ythplndalbfcbbaa.PA
open Go.RowKit Go.Proofs.YthplndalbfcbbaaW.PrintWords Go.Proofs.YthplndalbfcbbaaW.PrintLast Go.Proofs.YthplndalbfcbbaaW.PrintMore
attribute [local go_sem] max2_int min2_int max_two min_two max_three min_three max_four min_four   -- for this text's walks alone
set_option linter.unusedVariables false
set_option linter.unusedSimpArgs false
mutual
def elenchusref01_Size.l0 : Nat → Int → Int → Int → List (S25) → Option (Int)
  | 0, _, _, _, _ => none
  | k + 1, x3, x4, x326000, x326001 => if x4 < (x326001.length : Int) then (if 0 ≤ x4 then ((elenchusref01_Size.f k ((rd_T25 x326001 x4).f0) ((rd_T25 x326001 x4).f1)).bind fun t327 => (elenchusref01_Size.l0 k (wrap64 (x3 + t327)) (wrap64 (x4 + 1)) x326000 x326001)) else (none)) else (some x3)
def elenchusref01_Size.f : Nat → Int → List (S25) → Option (Int)
  | 0, _, _ => none
  | k + 1, a0_0, l0_1 => elenchusref01_Size.l0 k 1 0 a0_0 l0_1
end
set_option maxHeartbeats 8000000 in
set_option maxRecDepth 100000 in
theorem elenchusref01_Size.calls (k : Nat) : ∀ (a0_0 : Int) (A0_1 : Option Addr) (c0_1 : Nat) (l0_1 : List (S25)) (r : Int) (w : World) (hr0_1 : Kd.C k25 w A0_1 l0_1.length l0_1) (hc0_1 : l0_1.length ≤ c0_1) (h : elenchusref01_Size.f k a0_0 l0_1 = some r),
    Calls Try.prog 77 #[.agg #[.int .i64 a0_0, .slice A0_1 l0_1.length c0_1]] w fun e w' => e = .returned (.int .i64 r) ∧ Below w.heap.size w w' := by
  induction k using Nat.strongRecOn with
  | _ k ih =>
  intro a0_0 A0_1 c0_1 l0_1 r w hr0_1 hc0_1 h
  cases k with
  | zero => exact absurd h (by simp [elenchusref01_Size.f])
  | succ k =>
  simp only [elenchusref01_Size.f] at h
  have hu25 := Try.underlying25
  have HR0_1 := Aside0.mk hr0_1
  have HC0_1 := Aside0.mk hc0_1
  clear hr0_1 hc0_1
  have HB := Aside0.mk (Below.refl w.heap.size w)
  have H : (elenchusref01_Size.l0 k 1 0 a0_0 l0_1) = some r := h
  clear h
  have H' := Aside0.mk H
  clear H
  go_enter Try.func77, Try.ntmps77
  go_wp2_with (first | ((with_reducible refine gate_dst (N := 1) rfl ?_); refine box_event ?hg (N := 1) ?hd (cs := #[.int .i64 a0_0, .slice A0_1 l0_1.length c0_1]) (t := 25) ?hr ?_; (case hd => rfl); (case hg => rfl); (case hr => first | (go_simp; done) | (go_simp; rfl)); intro gb325 hg w2 hbox hb; have n0_ := Aside0.mk (below_step (by repeat (first | (with_reducible first | exact HB.out | apply below_alloc | apply pw_below_drewN | apply below_drew1) | exact HB.out)) hb); have n1_ := Aside0.mk (hbox); have n2_ := Aside0.mk ((by rw [hg]; exact (below_size (by repeat (first | (with_reducible first | exact HB.out | apply below_alloc | apply pw_below_drewN | apply below_drew1) | exact HB.out))) : w.heap.size ≤ gb325)); have n3_ := Aside0.mk ((by rw [hg]; exact (below_size (by repeat (first | (with_reducible first | exact HB.out | apply below_alloc | apply pw_below_drewN | apply below_drew1) | exact HB.out))) : w.heap.size ≤ gb325)); clear HB; have HB := n0_; have BK325 := n1_; have GW325 := n2_; have GE325 := n3_; clear n0_ n1_ n2_ n3_; clear hb hbox hg))
  go_loopg [3, 4] k (fun kq v3 v4 w' => ∃ (x3_1 : Int) (x4_1 : Int), v3 = .int .i64 x3_1 ∧ v4 = .int .i64 x4_1 ∧ Aside0 (elenchusref01_Size.l0 kq x3_1 x4_1 a0_0 l0_1 = some r) ∧ Aside0 (kq ≤ k) ∧ Aside0 (w'.heap[gb325]? = some (.cells #[.int .i64 a0_0, (.slice A0_1 l0_1.length c0_1)] 25 (0, 0))) ∧ Aside0 (Below w.heap.size w w'))
  case atStart => exact ⟨(1), (0), (by first | rfl | (simp; done) | (simp [*]; done)), (by first | rfl | (simp; done) | (simp [*]; done)), H', ⟨Nat.le_refl _⟩, ⟨by (with_reducible repeat (first | refine blk_drewN ?_ _ | refine blk_drew ?_ | refine blk_alloc ?_ _)); exact BK325.out⟩, ⟨by repeat (first | (with_reducible first | exact HB.out | apply below_alloc | apply pw_below_drewN | apply below_drew1 | refine below_set ?_ GE325.out) | exact HB.out)⟩⟩
  case round =>
    clear H'
    try clear p2
    obtain ⟨x3_1, x4_1, rfl, rfl, HA, HK1, BK325, HB⟩ := hrel
    cases gk with
    | zero => exact absurd HA.out (by simp [elenchusref01_Size.l0])
    | succ k1 =>
      have H := HA.out
      clear HA
      simp only [elenchusref01_Size.l0] at H
      by_cases c3 : x4_1 < (l0_1.length : Int)
      · rw [if_pos c3] at H
        have c3b0 : decide (x4_1 < (l0_1.length : Int)) = true := decide_eq_true c3
        clear c3
        by_cases c4 : 0 ≤ x4_1
        · rw [if_pos c4] at H
          have c4b0 : decide (0 ≤ x4_1) = true := decide_eq_true c4
          clear c4
          replace H := Option.bind_eq_some_iff.mp H
          obtain ⟨t327, A50, H⟩ := H
          replace H : (elenchusref01_Size.l0 k1 (wrap64 (x3_1 + t327)) (wrap64 (x4_1 + 1)) a0_0 l0_1) = some r := H
          have A5 := Aside0.mk A50
          clear A50
          have H' := Aside0.mk H
          clear H
          have hcz6_0 : wr.cell? ⟨gb325, 0, none⟩ = some (.int .i64 a0_0) := (blk_cell BK325.out 0).trans rfl
          have hcz6_1 : wr.cell? ⟨gb325, 1, none⟩ = some (.slice A0_1 l0_1.length c0_1) := (blk_cell BK325.out 1).trans rfl
          have hfz6_0 := blk_frozen BK325.out 0
          have hfz6_1 := blk_frozen BK325.out 1
          have p326 : 0 ≤ (x4_1 : Int) := of_decide_eq_true (by first | (with_reducible assumption) | assumption)
          have q326 : x4_1 < (l0_1.length : Int) := of_decide_eq_true (by first | (with_reducible assumption) | assumption)
          obtain ⟨ad326, A326_1, c326_1, e326, hx326_0, hx326_1, hl326_1, hi326_1⟩ := at_T25 HR0_1.out x4_1 p326 q326
          cases e326
          replace hx326_0 := (HB.out.cell (World.block_lt_of_cell? w _ hx326_0)).trans hx326_0
          replace hx326_1 := (HB.out.cell (World.block_lt_of_cell? w _ hx326_1)).trans hx326_1
          have HR326_1 := Aside0.mk hi326_1
          have HC326_1 := Aside0.mk hl326_1
          clear hi326_1 hl326_1
          replace p326 := eq_true p326
          replace q326 := eq_true q326
          go_wp2_with (first | ((with_reducible refine gate_callee (f := 77) rfl ?_); refine goesL_ (some 18) rfl rfl Try.func77 (by kernel_rfl) rfl #[.agg #[.int .i64 ((rd_T25 l0_1 x4_1).f0), .slice A326_1 ((rd_T25 l0_1 x4_1).f1).length c326_1]] rfl (by (try simp only [List.map_toArray, List.map_cons, List.map_nil]); first | done | rfl | (simp only [List.length_drop, List.length_take]; rfl)) ?_; (with_reducible refine (ih k1 (by have := HK1.out; omega) ((rd_T25 l0_1 x4_1).f0) _ _ ((rd_T25 l0_1 x4_1).f1) t327 _ ?side1 ?side2 A5.out).mono ?_); (case side1 => repeat (first | exact (Kd.C_below HR326_1.out HB.out) | (with_reducible refine Kd.C_alloc ?_ _) | (with_reducible refine Kd.C_drewN ?_ _) | (with_reducible refine Kd.C_drew ?_))); (case side2 => exact HC326_1.out); rintro e w7 ⟨rfl, hb⟩; refine ⟨_, rfl, ?_⟩; have n0_ := Aside0.mk (blk_below (g := gb325) (o := .cells #[.int .i64 a0_0, .slice (some ad326) l0_1.length c0_1] 25 (0, 0)) (by (with_reducible repeat (first | refine blk_drewN ?_ _ | refine blk_drew ?_ | refine blk_alloc ?_ _)); exact BK325.out) hb); have n1_ := Aside0.mk (below_step (by repeat (first | (with_reducible first | exact HB.out | apply below_alloc | apply pw_below_drewN | apply below_drew1 | refine below_set ?_ GE325.out) | exact HB.out)) hb); clear BK325; clear HB; have BK325 := n0_; have HB := n1_; clear n0_ n1_; (try clear hb); (try clear hb2); (try clear hk); (try clear hi)))
          go_roundg k1
          case measure => have := HK1.out; omega
          case rel => exact ⟨(wrap64 (x3_1 + t327)), (wrap64 (x4_1 + 1)), (by first | rfl | (simp; done) | (simp [*]; done)), (by first | rfl | (simp; done) | (simp [*]; done)), H', ⟨by have := HK1.out; omega⟩, ⟨by (with_reducible repeat (first | refine blk_drewN ?_ _ | refine blk_drew ?_ | refine blk_alloc ?_ _)); exact BK325.out⟩, ⟨by repeat (first | (with_reducible first | exact HB.out | apply below_alloc | apply pw_below_drewN | apply below_drew1 | refine below_set ?_ GE325.out) | exact HB.out)⟩⟩
        · rw [if_neg c4] at H
          exact absurd H (by simp)
      · rw [if_neg c3] at H
        have c3b0 : decide (x4_1 < (l0_1.length : Int)) = false := decide_eq_false c3
        clear c3
        obtain rfl := Option.some.inj H
        have hcz8_0 : wr.cell? ⟨gb325, 0, none⟩ = some (.int .i64 a0_0) := (blk_cell BK325.out 0).trans rfl
        have hcz8_1 : wr.cell? ⟨gb325, 1, none⟩ = some (.slice A0_1 l0_1.length c0_1) := (blk_cell BK325.out 1).trans rfl
        have hfz8_0 := blk_frozen BK325.out 0
        have hfz8_1 := blk_frozen BK325.out 1
        go_wp2
        go_ret
        exact ⟨by first | rfl | (simp [errW_none, errW_some] <;> rfl) | (simp [*, errW_none, errW_some] <;> rfl), by repeat (first | (with_reducible first | exact HB.out | apply below_alloc | apply pw_below_drewN | apply below_drew1 | refine below_set ?_ GE325.out) | exact HB.out)⟩
end Go.Proofs.Ythplndalbfcbbaa.PA
namespace Go.Proofs.Ythplndalbfcbbaa.PA
open Go.RowKit Go.Proofs.YthplndalbfcbbaaW.PrintWords Go.Proofs.YthplndalbfcbbaaW.PrintLast Go.Proofs.YthplndalbfcbbaaW.PrintMore
attribute [local go_sem] max2_int min2_int max_two min_two max_three min_three max_four min_four   -- for this text's walks alone
set_option linter.unusedVariables false
set_option linter.unusedSimpArgs false
mutual
def elenchusref01_Depth.l0 : Nat → Int → Int → Int → List (S25) → Option (Int)
  | 0, _, _, _, _ => none
  | k + 1, x3, x4, x329000, x329001 => if x4 < (x329001.length : Int) then (if 0 ≤ x4 then ((elenchusref01_Depth.f k ((rd_T25 x329001 x4).f0) ((rd_T25 x329001 x4).f1)).bind fun t330 => (elenchusref01_Depth.l0 k (mx x3 t330) (wrap64 (x4 + 1)) x329000 x329001)) else (none)) else (some (wrap64 (x3 + 1)))
def elenchusref01_Depth.f : Nat → Int → List (S25) → Option (Int)
  | 0, _, _ => none
  | k + 1, a0_0, l0_1 => elenchusref01_Depth.l0 k 0 0 a0_0 l0_1
end
set_option maxHeartbeats 8000000 in
set_option maxRecDepth 100000 in
theorem elenchusref01_Depth.calls (k : Nat) : ∀ (a0_0 : Int) (A0_1 : Option Addr) (c0_1 : Nat) (l0_1 : List (S25)) (r : Int) (w : World) (hr0_1 : Kd.C k25 w A0_1 l0_1.length l0_1) (hc0_1 : l0_1.length ≤ c0_1) (h : elenchusref01_Depth.f k a0_0 l0_1 = some r),
    Calls Try.prog 149 #[.agg #[.int .i64 a0_0, .slice A0_1 l0_1.length c0_1]] w fun e w' => e = .returned (.int .i64 r) ∧ Below w.heap.size w w' := by
  induction k using Nat.strongRecOn with
  | _ k ih =>
  intro a0_0 A0_1 c0_1 l0_1 r w hr0_1 hc0_1 h
  cases k with
  | zero => exact absurd h (by simp [elenchusref01_Depth.f])
  | succ k =>
  simp only [elenchusref01_Depth.f] at h
  have hu25 := Try.underlying25
  have HR0_1 := Aside0.mk hr0_1
  have HC0_1 := Aside0.mk hc0_1
  clear hr0_1 hc0_1
  have HB := Aside0.mk (Below.refl w.heap.size w)
  have H : (elenchusref01_Depth.l0 k 0 0 a0_0 l0_1) = some r := h
  clear h
  have H' := Aside0.mk H
  clear H
  go_enter Try.func149, Try.ntmps149
  go_wp2_with (first | ((with_reducible refine gate_dst (N := 1) rfl ?_); refine box_event ?hg (N := 1) ?hd (cs := #[.int .i64 a0_0, .slice A0_1 l0_1.length c0_1]) (t := 25) ?hr ?_; (case hd => rfl); (case hg => rfl); (case hr => first | (go_simp; done) | (go_simp; rfl)); intro gb328 hg w2 hbox hb; have n0_ := Aside0.mk (below_step (by repeat (first | (with_reducible first | exact HB.out | apply below_alloc | apply pw_below_drewN | apply below_drew1) | exact HB.out)) hb); have n1_ := Aside0.mk (hbox); have n2_ := Aside0.mk ((by rw [hg]; exact (below_size (by repeat (first | (with_reducible first | exact HB.out | apply below_alloc | apply pw_below_drewN | apply below_drew1) | exact HB.out))) : w.heap.size ≤ gb328)); have n3_ := Aside0.mk ((by rw [hg]; exact (below_size (by repeat (first | (with_reducible first | exact HB.out | apply below_alloc | apply pw_below_drewN | apply below_drew1) | exact HB.out))) : w.heap.size ≤ gb328)); clear HB; have HB := n0_; have BK328 := n1_; have GW328 := n2_; have GE328 := n3_; clear n0_ n1_ n2_ n3_; clear hb hbox hg))
  go_loopg [3, 4] k (fun kq v3 v4 w' => ∃ (x3_1 : Int) (x4_1 : Int), v3 = .int .i64 x3_1 ∧ v4 = .int .i64 x4_1 ∧ Aside0 (elenchusref01_Depth.l0 kq x3_1 x4_1 a0_0 l0_1 = some r) ∧ Aside0 (kq ≤ k) ∧ Aside0 (w'.heap[gb328]? = some (.cells #[.int .i64 a0_0, (.slice A0_1 l0_1.length c0_1)] 25 (0, 0))) ∧ Aside0 (Below w.heap.size w w'))
  case atStart => exact ⟨(0), (0), (by first | rfl | (simp; done) | (simp [*]; done)), (by first | rfl | (simp; done) | (simp [*]; done)), H', ⟨Nat.le_refl _⟩, ⟨by (with_reducible repeat (first | refine blk_drewN ?_ _ | refine blk_drew ?_ | refine blk_alloc ?_ _)); exact BK328.out⟩, ⟨by repeat (first | (with_reducible first | exact HB.out | apply below_alloc | apply pw_below_drewN | apply below_drew1 | refine below_set ?_ GE328.out) | exact HB.out)⟩⟩
  case round =>
    clear H'
    try clear c1
    try clear p2
    obtain ⟨x3_1, x4_1, rfl, rfl, HA, HK1, BK328, HB⟩ := hrel
    cases gk with
    | zero => exact absurd HA.out (by simp [elenchusref01_Depth.l0])
    | succ k1 =>
      have H := HA.out
      clear HA
      simp only [elenchusref01_Depth.l0] at H
      by_cases c3 : x4_1 < (l0_1.length : Int)
      · rw [if_pos c3] at H
        have c3b0 : decide (x4_1 < (l0_1.length : Int)) = true := decide_eq_true c3
        clear c3
        by_cases c4 : 0 ≤ x4_1
        · rw [if_pos c4] at H
          have c4b0 : decide (0 ≤ x4_1) = true := decide_eq_true c4
          clear c4
          replace H := Option.bind_eq_some_iff.mp H
          obtain ⟨t330, A50, H⟩ := H
          replace H : (elenchusref01_Depth.l0 k1 (mx x3_1 t330) (wrap64 (x4_1 + 1)) a0_0 l0_1) = some r := H
          have A5 := Aside0.mk A50
          clear A50
          obtain ⟨ji6, hji6⟩ : ∃ j_ : Int, (mx x3_1 t330) = j_ := ⟨_, rfl⟩
          replace H : (elenchusref01_Depth.l0 k1 ji6 (wrap64 (x4_1 + 1)) a0_0 l0_1) = some r := by first | (rw [hji6] at H; exact H) | (simp only [hji6] at H ⊢; exact H)
          (try rw [hji6] at A5)
          have hji6_ : (if x3_1 < t330 then t330 else x3_1) = ji6 := hji6
          have H' := Aside0.mk H
          clear H
          have hcz7_0 : wr.cell? ⟨gb328, 0, none⟩ = some (.int .i64 a0_0) := (blk_cell BK328.out 0).trans rfl
          have hcz7_1 : wr.cell? ⟨gb328, 1, none⟩ = some (.slice A0_1 l0_1.length c0_1) := (blk_cell BK328.out 1).trans rfl
          have hfz7_0 := blk_frozen BK328.out 0
          have hfz7_1 := blk_frozen BK328.out 1
          have p329 : 0 ≤ (x4_1 : Int) := of_decide_eq_true (by first | (with_reducible assumption) | assumption)
          have q329 : x4_1 < (l0_1.length : Int) := of_decide_eq_true (by first | (with_reducible assumption) | assumption)
          obtain ⟨ad329, A329_1, c329_1, e329, hx329_0, hx329_1, hl329_1, hi329_1⟩ := at_T25 HR0_1.out x4_1 p329 q329
          cases e329
          replace hx329_0 := (HB.out.cell (World.block_lt_of_cell? w _ hx329_0)).trans hx329_0
          replace hx329_1 := (HB.out.cell (World.block_lt_of_cell? w _ hx329_1)).trans hx329_1
          have HR329_1 := Aside0.mk hi329_1
          have HC329_1 := Aside0.mk hl329_1
          clear hi329_1 hl329_1
          replace p329 := eq_true p329
          replace q329 := eq_true q329
          go_wp2_with (first | ((with_reducible refine gate_callee (f := 149) rfl ?_); refine goesL_ (some 18) rfl rfl Try.func149 (by kernel_rfl) rfl #[.agg #[.int .i64 ((rd_T25 l0_1 x4_1).f0), .slice A329_1 ((rd_T25 l0_1 x4_1).f1).length c329_1]] rfl (by (try simp only [List.map_toArray, List.map_cons, List.map_nil]); first | done | rfl | (simp only [List.length_drop, List.length_take]; rfl)) ?_; (with_reducible refine (ih k1 (by have := HK1.out; omega) ((rd_T25 l0_1 x4_1).f0) _ _ ((rd_T25 l0_1 x4_1).f1) t330 _ ?side1 ?side2 A5.out).mono ?_); (case side1 => repeat (first | exact (Kd.C_below HR329_1.out HB.out) | (with_reducible refine Kd.C_alloc ?_ _) | (with_reducible refine Kd.C_drewN ?_ _) | (with_reducible refine Kd.C_drew ?_))); (case side2 => exact HC329_1.out); rintro e w8 ⟨rfl, hb⟩; refine ⟨_, rfl, ?_⟩; have n0_ := Aside0.mk (blk_below (g := gb328) (o := .cells #[.int .i64 a0_0, .slice (some ad329) l0_1.length c0_1] 25 (0, 0)) (by (with_reducible repeat (first | refine blk_drewN ?_ _ | refine blk_drew ?_ | refine blk_alloc ?_ _)); exact BK328.out) hb); have n1_ := Aside0.mk (below_step (by repeat (first | (with_reducible first | exact HB.out | apply below_alloc | apply pw_below_drewN | apply below_drew1 | refine below_set ?_ GE328.out) | exact HB.out)) hb); clear BK328; clear HB; have BK328 := n0_; have HB := n1_; clear n0_ n1_; (try clear hb); (try clear hb2); (try clear hk); (try clear hi)))
          go_roundg k1
          case measure => have := HK1.out; omega
          case rel => exact ⟨(ji6), (wrap64 (x4_1 + 1)), (by first | rfl | (simp; done) | (simp only [← hji6] <;> (first | rfl | simp)) | (simp [*]; done)), (by first | rfl | (simp; done) | (simp [*]; done)), H', ⟨by have := HK1.out; omega⟩, ⟨by (with_reducible repeat (first | refine blk_drewN ?_ _ | refine blk_drew ?_ | refine blk_alloc ?_ _)); exact BK328.out⟩, ⟨by repeat (first | (with_reducible first | exact HB.out | apply below_alloc | apply pw_below_drewN | apply below_drew1 | refine below_set ?_ GE328.out) | exact HB.out)⟩⟩
        · rw [if_neg c4] at H
          exact absurd H (by simp)
      · rw [if_neg c3] at H
        have c3b0 : decide (x4_1 < (l0_1.length : Int)) = false := decide_eq_false c3
        clear c3
        obtain rfl := Option.some.inj H
        have hcz9_0 : wr.cell? ⟨gb328, 0, none⟩ = some (.int .i64 a0_0) := (blk_cell BK328.out 0).trans rfl
        have hcz9_1 : wr.cell? ⟨gb328, 1, none⟩ = some (.slice A0_1 l0_1.length c0_1) := (blk_cell BK328.out 1).trans rfl
        have hfz9_0 := blk_frozen BK328.out 0
        have hfz9_1 := blk_frozen BK328.out 1
        go_wp2
        go_ret
        exact ⟨by first | rfl | (simp [errW_none, errW_some] <;> rfl) | (simp [*, errW_none, errW_some] <;> rfl), by repeat (first | (with_reducible first | exact HB.out | apply below_alloc | apply pw_below_drewN | apply below_drew1 | refine below_set ?_ GE328.out) | exact HB.out)⟩
end Go.Proofs.Ythplndalbfcbbaa.PA
namespace Go.Proofs.Ythplndalbfcbbaa.PA
open Go.RowKit Go.Proofs.YthplndalbfcbbaaW.PrintWords Go.Proofs.YthplndalbfcbbaaW.PrintLast Go.Proofs.YthplndalbfcbbaaW.PrintMore
attribute [local go_sem] max2_int min2_int max_two min_two max_three min_three max_four min_four   -- for this text's walks alone
set_option linter.unusedVariables false
set_option linter.unusedSimpArgs false
mutual
def elenchusref01_good.j0 : Nat → Bool → Int → List (S25) → Option (Bool)
  | 0, _, _, _ => none
  | k + 1, x28, x332000, x332001 => if x28 = true then (some false) else (elenchusref01_good.l0 k 0 x332000 x332001)
def elenchusref01_good.l0 : Nat → Int → Int → List (S25) → Option (Bool)
  | 0, _, _, _ => none
  | k + 1, x3, x332000, x332001 => if x3 < (x332001.length : Int) then (if 0 ≤ x3 then ((elenchusref01_good.f k ((rd_T25 x332001 x3).f0) ((rd_T25 x332001 x3).f1)).bind fun t333 => (if t333 = true then (elenchusref01_good.l0 k (wrap64 (x3 + 1)) x332000 x332001) else (some false))) else (none)) else (some true)
def elenchusref01_good.f : Nat → Int → List (S25) → Option (Bool)
  | 0, _, _ => none
  | k + 1, a0_0, l0_1 => if a0_0 < 0 then (if (l0_1.length : Int) > 0 then (elenchusref01_good.j0 k true a0_0 l0_1) else (if a0_0 < (-256) then (elenchusref01_good.j0 k true a0_0 l0_1) else (if a0_0 > 1023 then (elenchusref01_good.j0 k true a0_0 l0_1) else (elenchusref01_good.j0 k (decide ((l0_1.length : Int) > 8)) a0_0 l0_1)))) else (if a0_0 < (-256) then (elenchusref01_good.j0 k true a0_0 l0_1) else (if a0_0 > 1023 then (elenchusref01_good.j0 k true a0_0 l0_1) else (elenchusref01_good.j0 k (decide ((l0_1.length : Int) > 8)) a0_0 l0_1)))
end
set_option maxHeartbeats 8000000 in
set_option maxRecDepth 100000 in
theorem elenchusref01_good.calls (k : Nat) : ∀ (a0_0 : Int) (A0_1 : Option Addr) (c0_1 : Nat) (l0_1 : List (S25)) (r : Bool) (w : World) (hr0_1 : Kd.C k25 w A0_1 l0_1.length l0_1) (hc0_1 : l0_1.length ≤ c0_1) (h : elenchusref01_good.f k a0_0 l0_1 = some r),
    Calls Try.prog 150 #[.agg #[.int .i64 a0_0, .slice A0_1 l0_1.length c0_1]] w fun e w' => e = .returned (.bool r) ∧ Below w.heap.size w w' := by
  induction k using Nat.strongRecOn with
  | _ k ih =>
  intro a0_0 A0_1 c0_1 l0_1 r w hr0_1 hc0_1 h
  cases k with
  | zero => exact absurd h (by simp [elenchusref01_good.f])
  | succ k =>
  simp only [elenchusref01_good.f] at h
  have hu25 := Try.underlying25
  have HR0_1 := Aside0.mk hr0_1
  have HC0_1 := Aside0.mk hc0_1
  clear hr0_1 hc0_1
  have HB := Aside0.mk (Below.refl w.heap.size w)
  have H : (if a0_0 < 0 then (if (l0_1.length : Int) > 0 then (elenchusref01_good.j0 k true a0_0 l0_1) else (if a0_0 < (-256) then (elenchusref01_good.j0 k true a0_0 l0_1) else (if a0_0 > 1023 then (elenchusref01_good.j0 k true a0_0 l0_1) else (elenchusref01_good.j0 k (decide ((l0_1.length : Int) > 8)) a0_0 l0_1)))) else (if a0_0 < (-256) then (elenchusref01_good.j0 k true a0_0 l0_1) else (if a0_0 > 1023 then (elenchusref01_good.j0 k true a0_0 l0_1) else (elenchusref01_good.j0 k (decide ((l0_1.length : Int) > 8)) a0_0 l0_1)))) = some r := h
  clear h
  have HC2 := Aside0.mk H
  clear H
  go_enter Try.func150, Try.ntmps150
  go_upto_region 1 with (first | ((with_reducible refine gate_dst (N := 1) rfl ?_); (try (refine gate_guard (by rfl) ?_; dsimp only)); refine box_event ?hg (N := 1) ?hd (cs := #[.int .i64 a0_0, .slice A0_1 l0_1.length c0_1]) (t := 25) ?hr ?_; (case hd => rfl); (case hg => rfl); (case hr => first | (go_simp; done) | (go_simp; rfl)); intro gb331 hg w3 hbox hb; have n0_ := Aside0.mk (below_step (by repeat (first | (with_reducible first | exact HB.out | apply below_alloc | apply pw_below_drewN | apply below_drew1) | exact HB.out)) hb); have n1_ := Aside0.mk (hbox); have n2_ := Aside0.mk ((by rw [hg]; exact (below_size (by repeat (first | (with_reducible first | exact HB.out | apply below_alloc | apply pw_below_drewN | apply below_drew1) | exact HB.out))) : w.heap.size ≤ gb331)); have n3_ := Aside0.mk ((by rw [hg]; exact (below_size (by repeat (first | (with_reducible first | exact HB.out | apply below_alloc | apply pw_below_drewN | apply below_drew1) | exact HB.out))) : w.heap.size ≤ gb331)); clear HB; have HB := n0_; have BK331 := n1_; have GW331 := n2_; have GE331 := n3_; clear n0_ n1_ n2_ n3_; clear hb hbox hg))
  (try simp only [Act.put, List.setIfInBounds_toArray, List.set_cons_zero, List.set_cons_succ])
  go_cut [28] (fun v28 wc => ∃ (kq : Nat) (x28_1 : Bool), v28 = .bool x28_1 ∧ Aside0 (elenchusref01_good.j0 kq x28_1 a0_0 l0_1 = some r) ∧ Aside0 (kq ≤ k) ∧ Aside0 (wc.heap[gb331]? = some (.cells #[.int .i64 a0_0, (.slice A0_1 l0_1.length c0_1)] 25 (0, 0))) ∧ Aside0 (Below w.heap.size w wc))
  case first =>
    have H := HC2.out
    clear HC2
    by_cases c4 : a0_0 < 0
    · rw [if_pos c4] at H
      have c4b0 : decide (a0_0 < 0) = true := decide_eq_true c4
      clear c4
      (first | rw [c4b0] | (simp only [i64_w, i32_w]; rw [c4b0]) | skip)
      by_cases c5 : (l0_1.length : Int) > 0
      · rw [if_pos c5] at H
        have c5b0 : decide (0 < (l0_1.length : Int)) = true := decide_eq_true c5
        have c5b1 : decide (0 < l0_1.length) = true := decide_eq_true (by omega)
        clear c5
        have H' := Aside0.mk H
        clear H
        have hcz6_0 : w3.cell? ⟨gb331, 0, none⟩ = some (.int .i64 a0_0) := (blk_cell BK331.out 0).trans rfl
        have hcz6_1 : w3.cell? ⟨gb331, 1, none⟩ = some (.slice A0_1 l0_1.length c0_1) := (blk_cell BK331.out 1).trans rfl
        have hfz6_0 := blk_frozen BK331.out 0
        have hfz6_1 := blk_frozen BK331.out 1
        go_wp2
        go_meet
        case rel => exact ⟨_, (true), (by first | rfl | (simp; done) | (simp [*]; done)), H', ⟨by first | omega | exact Nat.le_refl _⟩, ⟨by (with_reducible repeat (first | refine blk_drewN ?_ _ | refine blk_drew ?_ | refine blk_alloc ?_ _)); exact BK331.out⟩, ⟨by repeat (first | (with_reducible first | exact HB.out | apply below_alloc | apply pw_below_drewN | apply below_drew1 | refine below_set ?_ GE331.out) | exact HB.out)⟩⟩
      · rw [if_neg c5] at H
        have c5b0 : decide (0 < (l0_1.length : Int)) = false := decide_eq_false c5
        have c5b1 : decide (0 < l0_1.length) = false := decide_eq_false (by omega)
        clear c5
        by_cases c7 : a0_0 < (-256)
        · rw [if_pos c7] at H
          have c7b0 : decide (a0_0 < (-256)) = true := decide_eq_true c7
          clear c7
          have H' := Aside0.mk H
          clear H
          have hcz8_0 : w3.cell? ⟨gb331, 0, none⟩ = some (.int .i64 a0_0) := (blk_cell BK331.out 0).trans rfl
          have hcz8_1 : w3.cell? ⟨gb331, 1, none⟩ = some (.slice A0_1 l0_1.length c0_1) := (blk_cell BK331.out 1).trans rfl
          have hfz8_0 := blk_frozen BK331.out 0
          have hfz8_1 := blk_frozen BK331.out 1
          go_wp2
          go_meet
          case rel => exact ⟨_, (true), (by first | rfl | (simp; done) | (simp [*]; done)), H', ⟨by first | omega | exact Nat.le_refl _⟩, ⟨by (with_reducible repeat (first | refine blk_drewN ?_ _ | refine blk_drew ?_ | refine blk_alloc ?_ _)); exact BK331.out⟩, ⟨by repeat (first | (with_reducible first | exact HB.out | apply below_alloc | apply pw_below_drewN | apply below_drew1 | refine below_set ?_ GE331.out) | exact HB.out)⟩⟩
        · rw [if_neg c7] at H
          have c7b0 : decide (a0_0 < (-256)) = false := decide_eq_false c7
          clear c7
          by_cases c9 : a0_0 > 1023
          · rw [if_pos c9] at H
            have c9b0 : decide (1023 < a0_0) = true := decide_eq_true c9
            clear c9
            have H' := Aside0.mk H
            clear H
            have hcz10_0 : w3.cell? ⟨gb331, 0, none⟩ = some (.int .i64 a0_0) := (blk_cell BK331.out 0).trans rfl
            have hcz10_1 : w3.cell? ⟨gb331, 1, none⟩ = some (.slice A0_1 l0_1.length c0_1) := (blk_cell BK331.out 1).trans rfl
            have hfz10_0 := blk_frozen BK331.out 0
            have hfz10_1 := blk_frozen BK331.out 1
            go_wp2
            go_meet
            case rel => exact ⟨_, (true), (by first | rfl | (simp; done) | (simp [*]; done)), H', ⟨by first | omega | exact Nat.le_refl _⟩, ⟨by (with_reducible repeat (first | refine blk_drewN ?_ _ | refine blk_drew ?_ | refine blk_alloc ?_ _)); exact BK331.out⟩, ⟨by repeat (first | (with_reducible first | exact HB.out | apply below_alloc | apply pw_below_drewN | apply below_drew1 | refine below_set ?_ GE331.out) | exact HB.out)⟩⟩
          · rw [if_neg c9] at H
            have c9b0 : decide (1023 < a0_0) = false := decide_eq_false c9
            clear c9
            have H' := Aside0.mk H
            clear H
            have hcz11_0 : w3.cell? ⟨gb331, 0, none⟩ = some (.int .i64 a0_0) := (blk_cell BK331.out 0).trans rfl
            have hcz11_1 : w3.cell? ⟨gb331, 1, none⟩ = some (.slice A0_1 l0_1.length c0_1) := (blk_cell BK331.out 1).trans rfl
            have hfz11_0 := blk_frozen BK331.out 0
            have hfz11_1 := blk_frozen BK331.out 1
            go_wp2
            go_meet
            case rel => exact ⟨_, (decide ((l0_1.length : Int) > 8)), (by first | rfl | (simp; done) | (simp [*]; done)), H', ⟨by first | omega | exact Nat.le_refl _⟩, ⟨by (with_reducible repeat (first | refine blk_drewN ?_ _ | refine blk_drew ?_ | refine blk_alloc ?_ _)); exact BK331.out⟩, ⟨by repeat (first | (with_reducible first | exact HB.out | apply below_alloc | apply pw_below_drewN | apply below_drew1 | refine below_set ?_ GE331.out) | exact HB.out)⟩⟩
    · rw [if_neg c4] at H
      have c4b0 : decide (a0_0 < 0) = false := decide_eq_false c4
      clear c4
      (first | rw [c4b0] | (simp only [i64_w, i32_w]; rw [c4b0]) | skip)
      by_cases c12 : a0_0 < (-256)
      · rw [if_pos c12] at H
        have c12b0 : decide (a0_0 < (-256)) = true := decide_eq_true c12
        clear c12
        have H' := Aside0.mk H
        clear H
        have hcz13_0 : w3.cell? ⟨gb331, 0, none⟩ = some (.int .i64 a0_0) := (blk_cell BK331.out 0).trans rfl
        have hcz13_1 : w3.cell? ⟨gb331, 1, none⟩ = some (.slice A0_1 l0_1.length c0_1) := (blk_cell BK331.out 1).trans rfl
        have hfz13_0 := blk_frozen BK331.out 0
        have hfz13_1 := blk_frozen BK331.out 1
        go_wp2
        go_meet
        case rel => exact ⟨_, (true), (by first | rfl | (simp; done) | (simp [*]; done)), H', ⟨by first | omega | exact Nat.le_refl _⟩, ⟨by (with_reducible repeat (first | refine blk_drewN ?_ _ | refine blk_drew ?_ | refine blk_alloc ?_ _)); exact BK331.out⟩, ⟨by repeat (first | (with_reducible first | exact HB.out | apply below_alloc | apply pw_below_drewN | apply below_drew1 | refine below_set ?_ GE331.out) | exact HB.out)⟩⟩
      · rw [if_neg c12] at H
        have c12b0 : decide (a0_0 < (-256)) = false := decide_eq_false c12
        clear c12
        by_cases c14 : a0_0 > 1023
        · rw [if_pos c14] at H
          have c14b0 : decide (1023 < a0_0) = true := decide_eq_true c14
          clear c14
          have H' := Aside0.mk H
          clear H
          have hcz15_0 : w3.cell? ⟨gb331, 0, none⟩ = some (.int .i64 a0_0) := (blk_cell BK331.out 0).trans rfl
          have hcz15_1 : w3.cell? ⟨gb331, 1, none⟩ = some (.slice A0_1 l0_1.length c0_1) := (blk_cell BK331.out 1).trans rfl
          have hfz15_0 := blk_frozen BK331.out 0
          have hfz15_1 := blk_frozen BK331.out 1
          go_wp2
          go_meet
          case rel => exact ⟨_, (true), (by first | rfl | (simp; done) | (simp [*]; done)), H', ⟨by first | omega | exact Nat.le_refl _⟩, ⟨by (with_reducible repeat (first | refine blk_drewN ?_ _ | refine blk_drew ?_ | refine blk_alloc ?_ _)); exact BK331.out⟩, ⟨by repeat (first | (with_reducible first | exact HB.out | apply below_alloc | apply pw_below_drewN | apply below_drew1 | refine below_set ?_ GE331.out) | exact HB.out)⟩⟩
        · rw [if_neg c14] at H
          have c14b0 : decide (1023 < a0_0) = false := decide_eq_false c14
          clear c14
          have H' := Aside0.mk H
          clear H
          have hcz16_0 : w3.cell? ⟨gb331, 0, none⟩ = some (.int .i64 a0_0) := (blk_cell BK331.out 0).trans rfl
          have hcz16_1 : w3.cell? ⟨gb331, 1, none⟩ = some (.slice A0_1 l0_1.length c0_1) := (blk_cell BK331.out 1).trans rfl
          have hfz16_0 := blk_frozen BK331.out 0
          have hfz16_1 := blk_frozen BK331.out 1
          go_wp2
          go_meet
          case rel => exact ⟨_, (decide ((l0_1.length : Int) > 8)), (by first | rfl | (simp; done) | (simp [*]; done)), H', ⟨by first | omega | exact Nat.le_refl _⟩, ⟨by (with_reducible repeat (first | refine blk_drewN ?_ _ | refine blk_drew ?_ | refine blk_alloc ?_ _)); exact BK331.out⟩, ⟨by repeat (first | (with_reducible first | exact HB.out | apply below_alloc | apply pw_below_drewN | apply below_drew1 | refine below_set ?_ GE331.out) | exact HB.out)⟩⟩
  case rest =>
    clear HC2
    try clear c1
    try clear p2
    try clear c4
    try clear c4b0
    try clear c5
    try clear c5b0
    try clear c5b1
    try clear c7
    try clear c7b0
    try clear c9
    try clear c9b0
    try clear c12
    try clear c12b0
    try clear c14
    try clear c14b0
    try clear c15
    try clear hcz10_0
    try clear hcz10_1
    try clear hcz11_0
    try clear hcz11_1
    try clear hcz13_0
    try clear hcz13_1
    try clear hcz15_0
    try clear hcz15_1
    try clear hcz16_0
    try clear hcz16_1
    try clear hcz6_0
    try clear hcz6_1
    try clear hcz8_0
    try clear hcz8_1
    try clear hfz10_0
    try clear hfz10_1
    try clear hfz11_0
    try clear hfz11_1
    try clear hfz13_0
    try clear hfz13_1
    try clear hfz15_0
    try clear hfz15_1
    try clear hfz16_0
    try clear hfz16_1
    try clear hfz6_0
    try clear hfz6_1
    try clear hfz8_0
    try clear hfz8_1
    obtain ⟨kq, x28_1, rfl, HA, HJ1, BK331, HB⟩ := hcut
    cases kq with
    | zero => exact absurd HA.out (by simp [elenchusref01_good.j0])
    | succ kj1 =>
      have H := HA.out
      clear HA
      simp only [elenchusref01_good.j0] at H
      by_cases c17 : x28_1 = true
      · subst c17
        have H1 : (some false) = some r := by rw [if_pos rfl] at H; exact H
        clear H
        have H := H1
        clear H1
        obtain rfl := Option.some.inj H
        go_wp2
        go_ret
        exact ⟨by first | rfl | (simp [errW_none, errW_some] <;> rfl) | (simp [*, errW_none, errW_some] <;> rfl), by repeat (first | (with_reducible first | exact HB.out | apply below_alloc | apply pw_below_drewN | apply below_drew1 | refine below_set ?_ GE331.out) | exact HB.out)⟩
      · replace c17 := Bool.eq_false_iff.mpr c17
        subst c17
        have H1 : (elenchusref01_good.l0 kj1 0 a0_0 l0_1) = some r := by rw [if_neg (show ¬ (false = true) by decide)] at H; exact H
        clear H
        have H := H1
        clear H1
        have H' := Aside0.mk H
        clear H
        go_wp2
        go_loopg [3] kj1 (fun kq v3 w' => ∃ (x3_2 : Int), v3 = .int .i64 x3_2 ∧ Aside0 (elenchusref01_good.l0 kq x3_2 a0_0 l0_1 = some r) ∧ Aside0 (kq ≤ kj1) ∧ Aside0 (w'.heap[gb331]? = some (.cells #[.int .i64 a0_0, (.slice A0_1 l0_1.length c0_1)] 25 (0, 0))) ∧ Aside0 (Below w.heap.size w w'))
        case atStart => exact ⟨(0), (by first | rfl | (simp; done) | (simp [*]; done)), H', ⟨Nat.le_refl _⟩, ⟨by (with_reducible repeat (first | refine blk_drewN ?_ _ | refine blk_drew ?_ | refine blk_alloc ?_ _)); exact BK331.out⟩, ⟨by repeat (first | (with_reducible first | exact HB.out | apply below_alloc | apply pw_below_drewN | apply below_drew1 | refine below_set ?_ GE331.out) | exact HB.out)⟩⟩
        case round =>
          clear H'
          try clear c1
          try clear p2
          try clear c4
          try clear c4b0
          try clear c5
          try clear c5b0
          try clear c5b1
          try clear c7
          try clear c7b0
          try clear c9
          try clear c9b0
          try clear c12
          try clear c12b0
          try clear c14
          try clear c14b0
          try clear c15
          try clear c17
          try clear hcz10_0
          try clear hcz10_1
          try clear hcz11_0
          try clear hcz11_1
          try clear hcz13_0
          try clear hcz13_1
          try clear hcz15_0
          try clear hcz15_1
          try clear hcz16_0
          try clear hcz16_1
          try clear hcz6_0
          try clear hcz6_1
          try clear hcz8_0
          try clear hcz8_1
          try clear hfz10_0
          try clear hfz10_1
          try clear hfz11_0
          try clear hfz11_1
          try clear hfz13_0
          try clear hfz13_1
          try clear hfz15_0
          try clear hfz15_1
          try clear hfz16_0
          try clear hfz16_1
          try clear hfz6_0
          try clear hfz6_1
          try clear hfz8_0
          try clear hfz8_1
          try clear p2
          obtain ⟨x3_2, rfl, HA, HK2, BK331, HB⟩ := hrel
          cases gk with
          | zero => exact absurd HA.out (by simp [elenchusref01_good.l0])
          | succ k2 =>
            have H := HA.out
            clear HA
            simp only [elenchusref01_good.l0] at H
            by_cases c18 : x3_2 < (l0_1.length : Int)
            · rw [if_pos c18] at H
              have c18b0 : decide (x3_2 < (l0_1.length : Int)) = true := decide_eq_true c18
              clear c18
              by_cases c19 : 0 ≤ x3_2
              · rw [if_pos c19] at H
                have c19b0 : decide (0 ≤ x3_2) = true := decide_eq_true c19
                clear c19
                replace H := Option.bind_eq_some_iff.mp H
                obtain ⟨t333, A200, H⟩ := H
                replace H : (if t333 = true then (elenchusref01_good.l0 k2 (wrap64 (x3_2 + 1)) a0_0 l0_1) else (some false)) = some r := H
                have A20 := Aside0.mk A200
                clear A200
                by_cases c21 : t333 = true
                · subst c21
                  have H1 : (elenchusref01_good.l0 k2 (wrap64 (x3_2 + 1)) a0_0 l0_1) = some r := by rw [if_pos rfl] at H; exact H
                  clear H
                  have H := H1
                  clear H1
                  have H' := Aside0.mk H
                  clear H
                  have hcz22_0 : wr.cell? ⟨gb331, 0, none⟩ = some (.int .i64 a0_0) := (blk_cell BK331.out 0).trans rfl
                  have hcz22_1 : wr.cell? ⟨gb331, 1, none⟩ = some (.slice A0_1 l0_1.length c0_1) := (blk_cell BK331.out 1).trans rfl
                  have hfz22_0 := blk_frozen BK331.out 0
                  have hfz22_1 := blk_frozen BK331.out 1
                  have p332 : 0 ≤ (x3_2 : Int) := of_decide_eq_true (by first | (with_reducible assumption) | assumption)
                  have q332 : x3_2 < (l0_1.length : Int) := of_decide_eq_true (by first | (with_reducible assumption) | assumption)
                  obtain ⟨ad332, A332_1, c332_1, e332, hx332_0, hx332_1, hl332_1, hi332_1⟩ := at_T25 HR0_1.out x3_2 p332 q332
                  cases e332
                  replace hx332_0 := (HB.out.cell (World.block_lt_of_cell? w _ hx332_0)).trans hx332_0
                  replace hx332_1 := (HB.out.cell (World.block_lt_of_cell? w _ hx332_1)).trans hx332_1
                  have HR332_1 := Aside0.mk hi332_1
                  have HC332_1 := Aside0.mk hl332_1
                  clear hi332_1 hl332_1
                  replace p332 := eq_true p332
                  replace q332 := eq_true q332
                  go_wp2_with (first | ((with_reducible refine gate_callee (f := 150) rfl ?_); refine goesL_ (some 41) rfl rfl Try.func150 (by kernel_rfl) rfl #[.agg #[.int .i64 ((rd_T25 l0_1 x3_2).f0), .slice A332_1 ((rd_T25 l0_1 x3_2).f1).length c332_1]] rfl (by (try simp only [List.map_toArray, List.map_cons, List.map_nil]); first | done | rfl | (simp only [List.length_drop, List.length_take]; rfl)) ?_; (with_reducible refine (ih k2 (by have := HJ1.out; have := HK2.out; omega) ((rd_T25 l0_1 x3_2).f0) _ _ ((rd_T25 l0_1 x3_2).f1) true _ ?side1 ?side2 A20.out).mono ?_); (case side1 => repeat (first | exact (Kd.C_below HR332_1.out HB.out) | (with_reducible refine Kd.C_alloc ?_ _) | (with_reducible refine Kd.C_drewN ?_ _) | (with_reducible refine Kd.C_drew ?_))); (case side2 => exact HC332_1.out); rintro e w23 ⟨rfl, hb⟩; refine ⟨_, rfl, ?_⟩; have n0_ := Aside0.mk (blk_below (g := gb331) (o := .cells #[.int .i64 a0_0, .slice (some ad332) l0_1.length c0_1] 25 (0, 0)) (by (with_reducible repeat (first | refine blk_drewN ?_ _ | refine blk_drew ?_ | refine blk_alloc ?_ _)); exact BK331.out) hb); have n1_ := Aside0.mk (below_step (by repeat (first | (with_reducible first | exact HB.out | apply below_alloc | apply pw_below_drewN | apply below_drew1 | refine below_set ?_ GE331.out) | exact HB.out)) hb); clear BK331; clear HB; have BK331 := n0_; have HB := n1_; clear n0_ n1_; (try clear hb); (try clear hb2); (try clear hk); (try clear hi)))
                  go_roundg k2
                  case measure => have := HJ1.out; have := HK2.out; omega
                  case rel => exact ⟨(wrap64 (x3_2 + 1)), (by first | rfl | (simp; done) | (simp [*]; done)), H', ⟨by have := HJ1.out; have := HK2.out; omega⟩, ⟨by (with_reducible repeat (first | refine blk_drewN ?_ _ | refine blk_drew ?_ | refine blk_alloc ?_ _)); exact BK331.out⟩, ⟨by repeat (first | (with_reducible first | exact HB.out | apply below_alloc | apply pw_below_drewN | apply below_drew1 | refine below_set ?_ GE331.out) | exact HB.out)⟩⟩
                · replace c21 := Bool.eq_false_iff.mpr c21
                  subst c21
                  have H1 : (some false) = some r := by rw [if_neg (show ¬ (false = true) by decide)] at H; exact H
                  clear H
                  have H := H1
                  clear H1
                  obtain rfl := Option.some.inj H
                  have hcz24_0 : wr.cell? ⟨gb331, 0, none⟩ = some (.int .i64 a0_0) := (blk_cell BK331.out 0).trans rfl
                  have hcz24_1 : wr.cell? ⟨gb331, 1, none⟩ = some (.slice A0_1 l0_1.length c0_1) := (blk_cell BK331.out 1).trans rfl
                  have hfz24_0 := blk_frozen BK331.out 0
                  have hfz24_1 := blk_frozen BK331.out 1
                  have p332 : 0 ≤ (x3_2 : Int) := of_decide_eq_true (by first | (with_reducible assumption) | assumption)
                  have q332 : x3_2 < (l0_1.length : Int) := of_decide_eq_true (by first | (with_reducible assumption) | assumption)
                  obtain ⟨ad332, A332_1, c332_1, e332, hx332_0, hx332_1, hl332_1, hi332_1⟩ := at_T25 HR0_1.out x3_2 p332 q332
                  cases e332
                  replace hx332_0 := (HB.out.cell (World.block_lt_of_cell? w _ hx332_0)).trans hx332_0
                  replace hx332_1 := (HB.out.cell (World.block_lt_of_cell? w _ hx332_1)).trans hx332_1
                  have HR332_1 := Aside0.mk hi332_1
                  have HC332_1 := Aside0.mk hl332_1
                  clear hi332_1 hl332_1
                  replace p332 := eq_true p332
                  replace q332 := eq_true q332
                  go_wp2_with (first | ((with_reducible refine gate_callee (f := 150) rfl ?_); refine goesL_ (some 41) rfl rfl Try.func150 (by kernel_rfl) rfl #[.agg #[.int .i64 ((rd_T25 l0_1 x3_2).f0), .slice A332_1 ((rd_T25 l0_1 x3_2).f1).length c332_1]] rfl (by (try simp only [List.map_toArray, List.map_cons, List.map_nil]); first | done | rfl | (simp only [List.length_drop, List.length_take]; rfl)) ?_; (with_reducible refine (ih k2 (by have := HJ1.out; have := HK2.out; omega) ((rd_T25 l0_1 x3_2).f0) _ _ ((rd_T25 l0_1 x3_2).f1) false _ ?side1 ?side2 A20.out).mono ?_); (case side1 => repeat (first | exact (Kd.C_below HR332_1.out HB.out) | (with_reducible refine Kd.C_alloc ?_ _) | (with_reducible refine Kd.C_drewN ?_ _) | (with_reducible refine Kd.C_drew ?_))); (case side2 => exact HC332_1.out); rintro e w25 ⟨rfl, hb⟩; refine ⟨_, rfl, ?_⟩; have n0_ := Aside0.mk (blk_below (g := gb331) (o := .cells #[.int .i64 a0_0, .slice (some ad332) l0_1.length c0_1] 25 (0, 0)) (by (with_reducible repeat (first | refine blk_drewN ?_ _ | refine blk_drew ?_ | refine blk_alloc ?_ _)); exact BK331.out) hb); have n1_ := Aside0.mk (below_step (by repeat (first | (with_reducible first | exact HB.out | apply below_alloc | apply pw_below_drewN | apply below_drew1 | refine below_set ?_ GE331.out) | exact HB.out)) hb); clear BK331; clear HB; have BK331 := n0_; have HB := n1_; clear n0_ n1_; (try clear hb); (try clear hb2); (try clear hk); (try clear hi)))
                  go_ret
                  exact ⟨by first | rfl | (simp [errW_none, errW_some] <;> rfl) | (simp [*, errW_none, errW_some] <;> rfl), by repeat (first | (with_reducible first | exact HB.out | apply below_alloc | apply pw_below_drewN | apply below_drew1 | refine below_set ?_ GE331.out) | exact HB.out)⟩
              · rw [if_neg c19] at H
                exact absurd H (by simp)
            · rw [if_neg c18] at H
              have c18b0 : decide (x3_2 < (l0_1.length : Int)) = false := decide_eq_false c18
              clear c18
              obtain rfl := Option.some.inj H
              have hcz26_0 : wr.cell? ⟨gb331, 0, none⟩ = some (.int .i64 a0_0) := (blk_cell BK331.out 0).trans rfl
              have hcz26_1 : wr.cell? ⟨gb331, 1, none⟩ = some (.slice A0_1 l0_1.length c0_1) := (blk_cell BK331.out 1).trans rfl
              have hfz26_0 := blk_frozen BK331.out 0
              have hfz26_1 := blk_frozen BK331.out 1
              go_wp2
              go_ret
              exact ⟨by first | rfl | (simp [errW_none, errW_some] <;> rfl) | (simp [*, errW_none, errW_some] <;> rfl), by repeat (first | (with_reducible first | exact HB.out | apply below_alloc | apply pw_below_drewN | apply below_drew1 | refine below_set ?_ GE331.out) | exact HB.out)⟩
end Go.Proofs.Ythplndalbfcbbaa.PA
namespace Go.Proofs.Ythplndalbfcbbaa.PA
open Go.RowKit Go.Proofs.YthplndalbfcbbaaW.PrintWords Go.Proofs.YthplndalbfcbbaaW.PrintLast Go.Proofs.YthplndalbfcbbaaW.PrintMore
attribute [local go_sem] max2_int min2_int max_two min_two max_three min_three max_four min_four   -- for this text's walks alone
set_option linter.unusedVariables false
set_option linter.unusedSimpArgs false
def elenchusref01_Check.f (k : Nat) (a0_0 : Int) (l0_1 : List (S25)) : Option (Int) := (elenchusref01_Size.f k a0_0 l0_1).bind fun t335 => (if t335 > 400 then (some 2) else ((elenchusref01_Depth.f k a0_0 l0_1).bind fun t336 => (if t336 > 40 then (some 7) else ((elenchusref01_good.f k a0_0 l0_1).bind fun t337 => (if t337 = true then (some 0) else (some 1))))))
set_option maxHeartbeats 8000000 in
set_option maxRecDepth 100000 in
theorem elenchusref01_Check.calls (k : Nat) (a0_0 : Int) (A0_1 : Option Addr) (c0_1 : Nat) (l0_1 : List (S25)) (r : Int) (w : World) (hr0_1 : Kd.C k25 w A0_1 l0_1.length l0_1) (hc0_1 : l0_1.length ≤ c0_1) (h : elenchusref01_Check.f k a0_0 l0_1 = some r) :
    Calls Try.prog 107 #[.agg #[.int .i64 a0_0, .slice A0_1 l0_1.length c0_1]] w fun e w' => e = .returned (.int .i64 r) ∧ Below w.heap.size w w' := by
  have hu25 := Try.underlying25
  have HR0_1 := Aside0.mk hr0_1
  have HC0_1 := Aside0.mk hc0_1
  clear hr0_1 hc0_1
  have HB := Aside0.mk (Below.refl w.heap.size w)
  have H : ((elenchusref01_Size.f k a0_0 l0_1).bind fun t335 => (if t335 > 400 then (some 2) else ((elenchusref01_Depth.f k a0_0 l0_1).bind fun t336 => (if t336 > 40 then (some 7) else ((elenchusref01_good.f k a0_0 l0_1).bind fun t337 => (if t337 = true then (some 0) else (some 1))))))) = some r := h
  clear h
  replace H := Option.bind_eq_some_iff.mp H
  obtain ⟨t335, A20, H⟩ := H
  replace H : (if t335 > 400 then (some 2) else ((elenchusref01_Depth.f k a0_0 l0_1).bind fun t336 => (if t336 > 40 then (some 7) else ((elenchusref01_good.f k a0_0 l0_1).bind fun t337 => (if t337 = true then (some 0) else (some 1)))))) = some r := H
  have A2 := Aside0.mk A20
  clear A20
  by_cases c3 : t335 > 400
  · rw [if_pos c3] at H
    have c3b0 : decide (400 < t335) = true := decide_eq_true c3
    clear c3
    obtain rfl := Option.some.inj H
    go_enter Try.func107, Try.ntmps107
    go_wp2_with (first | ((with_reducible refine gate_dst (N := 1) rfl ?_); refine box_event ?hg (N := 1) ?hd (cs := #[.int .i64 a0_0, .slice A0_1 l0_1.length c0_1]) (t := 25) ?hr ?_; (case hd => rfl); (case hg => rfl); (case hr => first | (go_simp; done) | (go_simp; rfl)); intro gb334 hg w4 hbox hb; have n0_ := Aside0.mk (below_step (by repeat (first | (with_reducible first | exact HB.out | apply below_alloc | apply pw_below_drewN | apply below_drew1) | exact HB.out)) hb); have n1_ := Aside0.mk (hbox); have n2_ := Aside0.mk ((by rw [hg]; exact (below_size (by repeat (first | (with_reducible first | exact HB.out | apply below_alloc | apply pw_below_drewN | apply below_drew1) | exact HB.out))) : w.heap.size ≤ gb334)); have n3_ := Aside0.mk ((by rw [hg]; exact (below_size (by repeat (first | (with_reducible first | exact HB.out | apply below_alloc | apply pw_below_drewN | apply below_drew1) | exact HB.out))) : w.heap.size ≤ gb334)); clear HB; have HB := n0_; have BK334 := n1_; have GW334 := n2_; have GE334 := n3_; clear n0_ n1_ n2_ n3_; clear hb hbox hg; have hcz5_0 : w4.cell? ⟨gb334, 0, none⟩ = some (.int .i64 a0_0) := (blk_cell BK334.out 0).trans rfl; have hcz5_1 : w4.cell? ⟨gb334, 1, none⟩ = some (.slice A0_1 l0_1.length c0_1) := (blk_cell BK334.out 1).trans rfl; have hfz5_0 := blk_frozen BK334.out 0; have hfz5_1 := blk_frozen BK334.out 1) | ((with_reducible refine gate_callee (f := 77) rfl ?_); refine goesL_ (some 4) rfl rfl Try.func77 (by kernel_rfl) rfl #[.agg #[.int .i64 a0_0, .slice A0_1 l0_1.length c0_1]] rfl (by (try simp only [List.map_toArray, List.map_cons, List.map_nil]); first | done | rfl | (simp only [List.length_drop, List.length_take]; rfl)) ?_; (with_reducible refine (elenchusref01_Size.calls k a0_0 _ _ l0_1 t335 _ ?side1 ?side2 A2.out).mono ?_); (case side1 => repeat (first | exact (Kd.C_below HR0_1.out HB.out) | (with_reducible refine Kd.C_alloc ?_ _) | (with_reducible refine Kd.C_drewN ?_ _) | (with_reducible refine Kd.C_drew ?_))); (case side2 => exact HC0_1.out); rintro e w6 ⟨rfl, hb⟩; refine ⟨_, rfl, ?_⟩; have n0_ := Aside0.mk (blk_below (g := gb334) (o := .cells #[.int .i64 a0_0, .slice A0_1 l0_1.length c0_1] 25 (0, 0)) (by (with_reducible repeat (first | refine blk_drewN ?_ _ | refine blk_drew ?_ | refine blk_alloc ?_ _)); exact BK334.out) hb); have n1_ := Aside0.mk (below_step (by repeat (first | (with_reducible first | exact HB.out | apply below_alloc | apply pw_below_drewN | apply below_drew1 | refine below_set ?_ GE334.out) | exact HB.out)) hb); clear BK334; clear HB; have BK334 := n0_; have HB := n1_; clear n0_ n1_; (try clear hb); (try clear hb2); (try clear hk); (try clear hi)))
    go_ret
    exact ⟨by first | rfl | (simp [errW_none, errW_some] <;> rfl) | (simp [*, errW_none, errW_some] <;> rfl), by repeat (first | (with_reducible first | exact HB.out | apply below_alloc | apply pw_below_drewN | apply below_drew1 | refine below_set ?_ GE334.out) | exact HB.out)⟩
  · rw [if_neg c3] at H
    have c3b0 : decide (400 < t335) = false := decide_eq_false c3
    clear c3
    replace H := Option.bind_eq_some_iff.mp H
    obtain ⟨t336, A70, H⟩ := H
    replace H : (if t336 > 40 then (some 7) else ((elenchusref01_good.f k a0_0 l0_1).bind fun t337 => (if t337 = true then (some 0) else (some 1)))) = some r := H
    have A7 := Aside0.mk A70
    clear A70
    by_cases c8 : t336 > 40
    · rw [if_pos c8] at H
      have c8b0 : decide (40 < t336) = true := decide_eq_true c8
      clear c8
      obtain rfl := Option.some.inj H
      go_enter Try.func107, Try.ntmps107
      go_wp2_with (first | ((with_reducible refine gate_dst (N := 1) rfl ?_); refine box_event ?hg (N := 1) ?hd (cs := #[.int .i64 a0_0, .slice A0_1 l0_1.length c0_1]) (t := 25) ?hr ?_; (case hd => rfl); (case hg => rfl); (case hr => first | (go_simp; done) | (go_simp; rfl)); intro gb334 hg w9 hbox hb; have n0_ := Aside0.mk (below_step (by repeat (first | (with_reducible first | exact HB.out | apply below_alloc | apply pw_below_drewN | apply below_drew1) | exact HB.out)) hb); have n1_ := Aside0.mk (hbox); have n2_ := Aside0.mk ((by rw [hg]; exact (below_size (by repeat (first | (with_reducible first | exact HB.out | apply below_alloc | apply pw_below_drewN | apply below_drew1) | exact HB.out))) : w.heap.size ≤ gb334)); have n3_ := Aside0.mk ((by rw [hg]; exact (below_size (by repeat (first | (with_reducible first | exact HB.out | apply below_alloc | apply pw_below_drewN | apply below_drew1) | exact HB.out))) : w.heap.size ≤ gb334)); clear HB; have HB := n0_; have BK334 := n1_; have GW334 := n2_; have GE334 := n3_; clear n0_ n1_ n2_ n3_; clear hb hbox hg; have hcz10_0 : w9.cell? ⟨gb334, 0, none⟩ = some (.int .i64 a0_0) := (blk_cell BK334.out 0).trans rfl; have hcz10_1 : w9.cell? ⟨gb334, 1, none⟩ = some (.slice A0_1 l0_1.length c0_1) := (blk_cell BK334.out 1).trans rfl; have hfz10_0 := blk_frozen BK334.out 0; have hfz10_1 := blk_frozen BK334.out 1) | ((with_reducible refine gate_callee (f := 77) rfl ?_); refine goesL_ (some 4) rfl rfl Try.func77 (by kernel_rfl) rfl #[.agg #[.int .i64 a0_0, .slice A0_1 l0_1.length c0_1]] rfl (by (try simp only [List.map_toArray, List.map_cons, List.map_nil]); first | done | rfl | (simp only [List.length_drop, List.length_take]; rfl)) ?_; (with_reducible refine (elenchusref01_Size.calls k a0_0 _ _ l0_1 t335 _ ?side1 ?side2 A2.out).mono ?_); (case side1 => repeat (first | exact (Kd.C_below HR0_1.out HB.out) | (with_reducible refine Kd.C_alloc ?_ _) | (with_reducible refine Kd.C_drewN ?_ _) | (with_reducible refine Kd.C_drew ?_))); (case side2 => exact HC0_1.out); rintro e w11 ⟨rfl, hb⟩; refine ⟨_, rfl, ?_⟩; have n0_ := Aside0.mk (blk_below (g := gb334) (o := .cells #[.int .i64 a0_0, .slice A0_1 l0_1.length c0_1] 25 (0, 0)) (by (with_reducible repeat (first | refine blk_drewN ?_ _ | refine blk_drew ?_ | refine blk_alloc ?_ _)); exact BK334.out) hb); have n1_ := Aside0.mk (below_step (by repeat (first | (with_reducible first | exact HB.out | apply below_alloc | apply pw_below_drewN | apply below_drew1 | refine below_set ?_ GE334.out) | exact HB.out)) hb); clear BK334; clear HB; have BK334 := n0_; have HB := n1_; clear n0_ n1_; (try clear hb); (try clear hb2); (try clear hk); (try clear hi); have hcz12_0 : w11.cell? ⟨gb334, 0, none⟩ = some (.int .i64 a0_0) := (blk_cell BK334.out 0).trans rfl; have hcz12_1 : w11.cell? ⟨gb334, 1, none⟩ = some (.slice A0_1 l0_1.length c0_1) := (blk_cell BK334.out 1).trans rfl; have hfz12_0 := blk_frozen BK334.out 0; have hfz12_1 := blk_frozen BK334.out 1) | ((with_reducible refine gate_callee (f := 149) rfl ?_); refine goesL_ (some 7) rfl rfl Try.func149 (by kernel_rfl) rfl #[.agg #[.int .i64 a0_0, .slice A0_1 l0_1.length c0_1]] rfl (by (try simp only [List.map_toArray, List.map_cons, List.map_nil]); first | done | rfl | (simp only [List.length_drop, List.length_take]; rfl)) ?_; (with_reducible refine (elenchusref01_Depth.calls k a0_0 _ _ l0_1 t336 _ ?side1 ?side2 A7.out).mono ?_); (case side1 => repeat (first | exact (Kd.C_below HR0_1.out HB.out) | (with_reducible refine Kd.C_alloc ?_ _) | (with_reducible refine Kd.C_drewN ?_ _) | (with_reducible refine Kd.C_drew ?_))); (case side2 => exact HC0_1.out); rintro e w13 ⟨rfl, hb⟩; refine ⟨_, rfl, ?_⟩; have n0_ := Aside0.mk (blk_below (g := gb334) (o := .cells #[.int .i64 a0_0, .slice A0_1 l0_1.length c0_1] 25 (0, 0)) (by (with_reducible repeat (first | refine blk_drewN ?_ _ | refine blk_drew ?_ | refine blk_alloc ?_ _)); exact BK334.out) hb); have n1_ := Aside0.mk (below_step (by repeat (first | (with_reducible first | exact HB.out | apply below_alloc | apply pw_below_drewN | apply below_drew1 | refine below_set ?_ GE334.out) | exact HB.out)) hb); clear BK334; clear HB; have BK334 := n0_; have HB := n1_; clear n0_ n1_; (try clear hb); (try clear hb2); (try clear hk); (try clear hi)))
      go_ret
      exact ⟨by first | rfl | (simp [errW_none, errW_some] <;> rfl) | (simp [*, errW_none, errW_some] <;> rfl), by repeat (first | (with_reducible first | exact HB.out | apply below_alloc | apply pw_below_drewN | apply below_drew1 | refine below_set ?_ GE334.out) | exact HB.out)⟩
    · rw [if_neg c8] at H
      have c8b0 : decide (40 < t336) = false := decide_eq_false c8
      clear c8
      replace H := Option.bind_eq_some_iff.mp H
      obtain ⟨t337, A140, H⟩ := H
      replace H : (if t337 = true then (some 0) else (some 1)) = some r := H
      have A14 := Aside0.mk A140
      clear A140
      by_cases c15 : t337 = true
      · subst c15
        have H1 : (some 0) = some r := by rw [if_pos rfl] at H; exact H
        clear H
        have H := H1
        clear H1
        obtain rfl := Option.some.inj H
        go_enter Try.func107, Try.ntmps107
        go_wp2_with (first | ((with_reducible refine gate_dst (N := 1) rfl ?_); refine box_event ?hg (N := 1) ?hd (cs := #[.int .i64 a0_0, .slice A0_1 l0_1.length c0_1]) (t := 25) ?hr ?_; (case hd => rfl); (case hg => rfl); (case hr => first | (go_simp; done) | (go_simp; rfl)); intro gb334 hg w16 hbox hb; have n0_ := Aside0.mk (below_step (by repeat (first | (with_reducible first | exact HB.out | apply below_alloc | apply pw_below_drewN | apply below_drew1) | exact HB.out)) hb); have n1_ := Aside0.mk (hbox); have n2_ := Aside0.mk ((by rw [hg]; exact (below_size (by repeat (first | (with_reducible first | exact HB.out | apply below_alloc | apply pw_below_drewN | apply below_drew1) | exact HB.out))) : w.heap.size ≤ gb334)); have n3_ := Aside0.mk ((by rw [hg]; exact (below_size (by repeat (first | (with_reducible first | exact HB.out | apply below_alloc | apply pw_below_drewN | apply below_drew1) | exact HB.out))) : w.heap.size ≤ gb334)); clear HB; have HB := n0_; have BK334 := n1_; have GW334 := n2_; have GE334 := n3_; clear n0_ n1_ n2_ n3_; clear hb hbox hg; have hcz17_0 : w16.cell? ⟨gb334, 0, none⟩ = some (.int .i64 a0_0) := (blk_cell BK334.out 0).trans rfl; have hcz17_1 : w16.cell? ⟨gb334, 1, none⟩ = some (.slice A0_1 l0_1.length c0_1) := (blk_cell BK334.out 1).trans rfl; have hfz17_0 := blk_frozen BK334.out 0; have hfz17_1 := blk_frozen BK334.out 1) | ((with_reducible refine gate_callee (f := 77) rfl ?_); refine goesL_ (some 4) rfl rfl Try.func77 (by kernel_rfl) rfl #[.agg #[.int .i64 a0_0, .slice A0_1 l0_1.length c0_1]] rfl (by (try simp only [List.map_toArray, List.map_cons, List.map_nil]); first | done | rfl | (simp only [List.length_drop, List.length_take]; rfl)) ?_; (with_reducible refine (elenchusref01_Size.calls k a0_0 _ _ l0_1 t335 _ ?side1 ?side2 A2.out).mono ?_); (case side1 => repeat (first | exact (Kd.C_below HR0_1.out HB.out) | (with_reducible refine Kd.C_alloc ?_ _) | (with_reducible refine Kd.C_drewN ?_ _) | (with_reducible refine Kd.C_drew ?_))); (case side2 => exact HC0_1.out); rintro e w18 ⟨rfl, hb⟩; refine ⟨_, rfl, ?_⟩; have n0_ := Aside0.mk (blk_below (g := gb334) (o := .cells #[.int .i64 a0_0, .slice A0_1 l0_1.length c0_1] 25 (0, 0)) (by (with_reducible repeat (first | refine blk_drewN ?_ _ | refine blk_drew ?_ | refine blk_alloc ?_ _)); exact BK334.out) hb); have n1_ := Aside0.mk (below_step (by repeat (first | (with_reducible first | exact HB.out | apply below_alloc | apply pw_below_drewN | apply below_drew1 | refine below_set ?_ GE334.out) | exact HB.out)) hb); clear BK334; clear HB; have BK334 := n0_; have HB := n1_; clear n0_ n1_; (try clear hb); (try clear hb2); (try clear hk); (try clear hi); have hcz19_0 : w18.cell? ⟨gb334, 0, none⟩ = some (.int .i64 a0_0) := (blk_cell BK334.out 0).trans rfl; have hcz19_1 : w18.cell? ⟨gb334, 1, none⟩ = some (.slice A0_1 l0_1.length c0_1) := (blk_cell BK334.out 1).trans rfl; have hfz19_0 := blk_frozen BK334.out 0; have hfz19_1 := blk_frozen BK334.out 1) | ((with_reducible refine gate_callee (f := 149) rfl ?_); refine goesL_ (some 7) rfl rfl Try.func149 (by kernel_rfl) rfl #[.agg #[.int .i64 a0_0, .slice A0_1 l0_1.length c0_1]] rfl (by (try simp only [List.map_toArray, List.map_cons, List.map_nil]); first | done | rfl | (simp only [List.length_drop, List.length_take]; rfl)) ?_; (with_reducible refine (elenchusref01_Depth.calls k a0_0 _ _ l0_1 t336 _ ?side1 ?side2 A7.out).mono ?_); (case side1 => repeat (first | exact (Kd.C_below HR0_1.out HB.out) | (with_reducible refine Kd.C_alloc ?_ _) | (with_reducible refine Kd.C_drewN ?_ _) | (with_reducible refine Kd.C_drew ?_))); (case side2 => exact HC0_1.out); rintro e w20 ⟨rfl, hb⟩; refine ⟨_, rfl, ?_⟩; have n0_ := Aside0.mk (blk_below (g := gb334) (o := .cells #[.int .i64 a0_0, .slice A0_1 l0_1.length c0_1] 25 (0, 0)) (by (with_reducible repeat (first | refine blk_drewN ?_ _ | refine blk_drew ?_ | refine blk_alloc ?_ _)); exact BK334.out) hb); have n1_ := Aside0.mk (below_step (by repeat (first | (with_reducible first | exact HB.out | apply below_alloc | apply pw_below_drewN | apply below_drew1 | refine below_set ?_ GE334.out) | exact HB.out)) hb); clear BK334; clear HB; have BK334 := n0_; have HB := n1_; clear n0_ n1_; (try clear hb); (try clear hb2); (try clear hk); (try clear hi); have hcz21_0 : w20.cell? ⟨gb334, 0, none⟩ = some (.int .i64 a0_0) := (blk_cell BK334.out 0).trans rfl; have hcz21_1 : w20.cell? ⟨gb334, 1, none⟩ = some (.slice A0_1 l0_1.length c0_1) := (blk_cell BK334.out 1).trans rfl; have hfz21_0 := blk_frozen BK334.out 0; have hfz21_1 := blk_frozen BK334.out 1) | ((with_reducible refine gate_callee (f := 150) rfl ?_); refine goesL_ (some 10) rfl rfl Try.func150 (by kernel_rfl) rfl #[.agg #[.int .i64 a0_0, .slice A0_1 l0_1.length c0_1]] rfl (by (try simp only [List.map_toArray, List.map_cons, List.map_nil]); first | done | rfl | (simp only [List.length_drop, List.length_take]; rfl)) ?_; (with_reducible refine (elenchusref01_good.calls k a0_0 _ _ l0_1 true _ ?side1 ?side2 A14.out).mono ?_); (case side1 => repeat (first | exact (Kd.C_below HR0_1.out HB.out) | (with_reducible refine Kd.C_alloc ?_ _) | (with_reducible refine Kd.C_drewN ?_ _) | (with_reducible refine Kd.C_drew ?_))); (case side2 => exact HC0_1.out); rintro e w22 ⟨rfl, hb⟩; refine ⟨_, rfl, ?_⟩; have n0_ := Aside0.mk (blk_below (g := gb334) (o := .cells #[.int .i64 a0_0, .slice A0_1 l0_1.length c0_1] 25 (0, 0)) (by (with_reducible repeat (first | refine blk_drewN ?_ _ | refine blk_drew ?_ | refine blk_alloc ?_ _)); exact BK334.out) hb); have n1_ := Aside0.mk (below_step (by repeat (first | (with_reducible first | exact HB.out | apply below_alloc | apply pw_below_drewN | apply below_drew1 | refine below_set ?_ GE334.out) | exact HB.out)) hb); clear BK334; clear HB; have BK334 := n0_; have HB := n1_; clear n0_ n1_; (try clear hb); (try clear hb2); (try clear hk); (try clear hi)))
        go_ret
        exact ⟨by first | rfl | (simp [errW_none, errW_some] <;> rfl) | (simp [*, errW_none, errW_some] <;> rfl), by repeat (first | (with_reducible first | exact HB.out | apply below_alloc | apply pw_below_drewN | apply below_drew1 | refine below_set ?_ GE334.out) | exact HB.out)⟩
      · replace c15 := Bool.eq_false_iff.mpr c15
        subst c15
        have H1 : (some 1) = some r := by rw [if_neg (show ¬ (false = true) by decide)] at H; exact H
        clear H
        have H := H1
        clear H1
        obtain rfl := Option.some.inj H
        go_enter Try.func107, Try.ntmps107
        go_wp2_with (first | ((with_reducible refine gate_dst (N := 1) rfl ?_); refine box_event ?hg (N := 1) ?hd (cs := #[.int .i64 a0_0, .slice A0_1 l0_1.length c0_1]) (t := 25) ?hr ?_; (case hd => rfl); (case hg => rfl); (case hr => first | (go_simp; done) | (go_simp; rfl)); intro gb334 hg w23 hbox hb; have n0_ := Aside0.mk (below_step (by repeat (first | (with_reducible first | exact HB.out | apply below_alloc | apply pw_below_drewN | apply below_drew1) | exact HB.out)) hb); have n1_ := Aside0.mk (hbox); have n2_ := Aside0.mk ((by rw [hg]; exact (below_size (by repeat (first | (with_reducible first | exact HB.out | apply below_alloc | apply pw_below_drewN | apply below_drew1) | exact HB.out))) : w.heap.size ≤ gb334)); have n3_ := Aside0.mk ((by rw [hg]; exact (below_size (by repeat (first | (with_reducible first | exact HB.out | apply below_alloc | apply pw_below_drewN | apply below_drew1) | exact HB.out))) : w.heap.size ≤ gb334)); clear HB; have HB := n0_; have BK334 := n1_; have GW334 := n2_; have GE334 := n3_; clear n0_ n1_ n2_ n3_; clear hb hbox hg; have hcz24_0 : w23.cell? ⟨gb334, 0, none⟩ = some (.int .i64 a0_0) := (blk_cell BK334.out 0).trans rfl; have hcz24_1 : w23.cell? ⟨gb334, 1, none⟩ = some (.slice A0_1 l0_1.length c0_1) := (blk_cell BK334.out 1).trans rfl; have hfz24_0 := blk_frozen BK334.out 0; have hfz24_1 := blk_frozen BK334.out 1) | ((with_reducible refine gate_callee (f := 77) rfl ?_); refine goesL_ (some 4) rfl rfl Try.func77 (by kernel_rfl) rfl #[.agg #[.int .i64 a0_0, .slice A0_1 l0_1.length c0_1]] rfl (by (try simp only [List.map_toArray, List.map_cons, List.map_nil]); first | done | rfl | (simp only [List.length_drop, List.length_take]; rfl)) ?_; (with_reducible refine (elenchusref01_Size.calls k a0_0 _ _ l0_1 t335 _ ?side1 ?side2 A2.out).mono ?_); (case side1 => repeat (first | exact (Kd.C_below HR0_1.out HB.out) | (with_reducible refine Kd.C_alloc ?_ _) | (with_reducible refine Kd.C_drewN ?_ _) | (with_reducible refine Kd.C_drew ?_))); (case side2 => exact HC0_1.out); rintro e w25 ⟨rfl, hb⟩; refine ⟨_, rfl, ?_⟩; have n0_ := Aside0.mk (blk_below (g := gb334) (o := .cells #[.int .i64 a0_0, .slice A0_1 l0_1.length c0_1] 25 (0, 0)) (by (with_reducible repeat (first | refine blk_drewN ?_ _ | refine blk_drew ?_ | refine blk_alloc ?_ _)); exact BK334.out) hb); have n1_ := Aside0.mk (below_step (by repeat (first | (with_reducible first | exact HB.out | apply below_alloc | apply pw_below_drewN | apply below_drew1 | refine below_set ?_ GE334.out) | exact HB.out)) hb); clear BK334; clear HB; have BK334 := n0_; have HB := n1_; clear n0_ n1_; (try clear hb); (try clear hb2); (try clear hk); (try clear hi); have hcz26_0 : w25.cell? ⟨gb334, 0, none⟩ = some (.int .i64 a0_0) := (blk_cell BK334.out 0).trans rfl; have hcz26_1 : w25.cell? ⟨gb334, 1, none⟩ = some (.slice A0_1 l0_1.length c0_1) := (blk_cell BK334.out 1).trans rfl; have hfz26_0 := blk_frozen BK334.out 0; have hfz26_1 := blk_frozen BK334.out 1) | ((with_reducible refine gate_callee (f := 149) rfl ?_); refine goesL_ (some 7) rfl rfl Try.func149 (by kernel_rfl) rfl #[.agg #[.int .i64 a0_0, .slice A0_1 l0_1.length c0_1]] rfl (by (try simp only [List.map_toArray, List.map_cons, List.map_nil]); first | done | rfl | (simp only [List.length_drop, List.length_take]; rfl)) ?_; (with_reducible refine (elenchusref01_Depth.calls k a0_0 _ _ l0_1 t336 _ ?side1 ?side2 A7.out).mono ?_); (case side1 => repeat (first | exact (Kd.C_below HR0_1.out HB.out) | (with_reducible refine Kd.C_alloc ?_ _) | (with_reducible refine Kd.C_drewN ?_ _) | (with_reducible refine Kd.C_drew ?_))); (case side2 => exact HC0_1.out); rintro e w27 ⟨rfl, hb⟩; refine ⟨_, rfl, ?_⟩; have n0_ := Aside0.mk (blk_below (g := gb334) (o := .cells #[.int .i64 a0_0, .slice A0_1 l0_1.length c0_1] 25 (0, 0)) (by (with_reducible repeat (first | refine blk_drewN ?_ _ | refine blk_drew ?_ | refine blk_alloc ?_ _)); exact BK334.out) hb); have n1_ := Aside0.mk (below_step (by repeat (first | (with_reducible first | exact HB.out | apply below_alloc | apply pw_below_drewN | apply below_drew1 | refine below_set ?_ GE334.out) | exact HB.out)) hb); clear BK334; clear HB; have BK334 := n0_; have HB := n1_; clear n0_ n1_; (try clear hb); (try clear hb2); (try clear hk); (try clear hi); have hcz28_0 : w27.cell? ⟨gb334, 0, none⟩ = some (.int .i64 a0_0) := (blk_cell BK334.out 0).trans rfl; have hcz28_1 : w27.cell? ⟨gb334, 1, none⟩ = some (.slice A0_1 l0_1.length c0_1) := (blk_cell BK334.out 1).trans rfl; have hfz28_0 := blk_frozen BK334.out 0; have hfz28_1 := blk_frozen BK334.out 1) | ((with_reducible refine gate_callee (f := 150) rfl ?_); refine goesL_ (some 10) rfl rfl Try.func150 (by kernel_rfl) rfl #[.agg #[.int .i64 a0_0, .slice A0_1 l0_1.length c0_1]] rfl (by (try simp only [List.map_toArray, List.map_cons, List.map_nil]); first | done | rfl | (simp only [List.length_drop, List.length_take]; rfl)) ?_; (with_reducible refine (elenchusref01_good.calls k a0_0 _ _ l0_1 false _ ?side1 ?side2 A14.out).mono ?_); (case side1 => repeat (first | exact (Kd.C_below HR0_1.out HB.out) | (with_reducible refine Kd.C_alloc ?_ _) | (with_reducible refine Kd.C_drewN ?_ _) | (with_reducible refine Kd.C_drew ?_))); (case side2 => exact HC0_1.out); rintro e w29 ⟨rfl, hb⟩; refine ⟨_, rfl, ?_⟩; have n0_ := Aside0.mk (blk_below (g := gb334) (o := .cells #[.int .i64 a0_0, .slice A0_1 l0_1.length c0_1] 25 (0, 0)) (by (with_reducible repeat (first | refine blk_drewN ?_ _ | refine blk_drew ?_ | refine blk_alloc ?_ _)); exact BK334.out) hb); have n1_ := Aside0.mk (below_step (by repeat (first | (with_reducible first | exact HB.out | apply below_alloc | apply pw_below_drewN | apply below_drew1 | refine below_set ?_ GE334.out) | exact HB.out)) hb); clear BK334; clear HB; have BK334 := n0_; have HB := n1_; clear n0_ n1_; (try clear hb); (try clear hb2); (try clear hk); (try clear hi)))
        go_ret
        exact ⟨by first | rfl | (simp [errW_none, errW_some] <;> rfl) | (simp [*, errW_none, errW_some] <;> rfl), by repeat (first | (with_reducible first | exact HB.out | apply below_alloc | apply pw_below_drewN | apply below_drew1 | refine below_set ?_ GE334.out) | exact HB.out)⟩
end Go.Proofs.Ythplndalbfcbbaa.PA
namespace Go.Proofs.Ythplndalbfcbbaa.PA
open Go.RowKit Go.Proofs.YthplndalbfcbbaaW.PrintWords Go.Proofs.YthplndalbfcbbaaW.PrintLast Go.Proofs.YthplndalbfcbbaaW.PrintMore
attribute [local go_sem] max2_int min2_int max_two min_two max_three min_three max_four min_four   -- for this text's walks alone
set_option linter.unusedVariables false
set_option linter.unusedSimpArgs false
mutual
def elenchusref07_known.j0 : Nat → List (S148) → Bool → Int → List (S25) → Option (Bool)
  | 0, _, _, _, _ => none
  | k + 1, x0, x25, x639000, x639001 => if x25 = true then (some false) else (elenchusref07_known.l0 k x0 0 x639000 x639001)
def elenchusref07_known.l0 : Nat → List (S148) → Int → Int → List (S25) → Option (Bool)
  | 0, _, _, _, _ => none
  | k + 1, x0, x5, x639000, x639001 => if x5 < (x639001.length : Int) then (if 0 ≤ x5 then ((elenchusref07_known.f k x0 ((rd_T25 x639001 x5).f0) ((rd_T25 x639001 x5).f1)).bind fun t641 => (if t641 = true then (elenchusref07_known.l0 k x0 (wrap64 (x5 + 1)) x639000 x639001) else (some false))) else (none)) else (some true)
def elenchusref07_known.f : Nat → List (S148) → Int → List (S25) → Option (Bool)
  | 0, _, _, _ => none
  | k + 1, l0, a1_0, l1_1 => if a1_0 < 0 then (some true) else (if a1_0 ≥ (l0.length : Int) then (elenchusref07_known.j0 k l0 true a1_0 l1_1) else (if 0 ≤ a1_0 then (if a1_0 < (l0.length : Int) then (elenchusref07_known.j0 k l0 ((l1_1.length : Int) != ((rd_T148 l0 a1_0).f1)) a1_0 l1_1) else (none)) else (none)))
end
set_option maxHeartbeats 8000000 in
set_option maxRecDepth 100000 in
theorem elenchusref07_known.calls (k : Nat) : ∀ (A0 : Option Addr) (c0 : Nat) (l0 : List (S148)) (a1_0 : Int) (A1_1 : Option Addr) (c1_1 : Nat) (l1_1 : List (S25)) (r : Bool) (w : World) (hr0 : Kd.C k148 w A0 l0.length l0) (hc0 : l0.length ≤ c0) (hr1_1 : Kd.C k25 w A1_1 l1_1.length l1_1) (hc1_1 : l1_1.length ≤ c1_1) (h : elenchusref07_known.f k l0 a1_0 l1_1 = some r),
    Calls Try.prog 206 #[.slice A0 l0.length c0, .agg #[.int .i64 a1_0, .slice A1_1 l1_1.length c1_1]] w fun e w' => e = .returned (.bool r) ∧ Below w.heap.size w w' := by
  induction k using Nat.strongRecOn with
  | _ k ih =>
  intro A0 c0 l0 a1_0 A1_1 c1_1 l1_1 r w hr0 hc0 hr1_1 hc1_1 h
  cases k with
  | zero => exact absurd h (by simp [elenchusref07_known.f])
  | succ k =>
  simp only [elenchusref07_known.f] at h
  have hu25 := Try.underlying25
  have HR0 := Aside0.mk hr0
  have HC0 := Aside0.mk hc0
  clear hr0 hc0
  have HR1_1 := Aside0.mk hr1_1
  have HC1_1 := Aside0.mk hc1_1
  clear hr1_1 hc1_1
  have HB := Aside0.mk (Below.refl w.heap.size w)
  have H : (if a1_0 < 0 then (some true) else (if a1_0 ≥ (l0.length : Int) then (elenchusref07_known.j0 k l0 true a1_0 l1_1) else (if 0 ≤ a1_0 then (if a1_0 < (l0.length : Int) then (elenchusref07_known.j0 k l0 ((l1_1.length : Int) != ((rd_T148 l0 a1_0).f1)) a1_0 l1_1) else (none)) else (none)))) = some r := h
  clear h
  by_cases c3 : a1_0 < 0
  · rw [if_pos c3] at H
    have c3b0 : decide (a1_0 < 0) = true := decide_eq_true c3
    clear c3
    obtain rfl := Option.some.inj H
    go_enter Try.func206, Try.ntmps206
    go_wp2_with (first | ((with_reducible refine gate_dst (N := 3) rfl ?_); (try (refine gate_guard (by rfl) ?_; dsimp only)); refine box_event ?hg (N := 3) ?hd (cs := #[.int .i64 a1_0, .slice A1_1 l1_1.length c1_1]) (t := 25) ?hr ?_; (case hd => rfl); (case hg => rfl); (case hr => first | (go_simp; done) | (go_simp; rfl)); intro gb638 hg w4 hbox hb; have n0_ := Aside0.mk (below_step (by repeat (first | (with_reducible first | exact HB.out | apply below_alloc | apply pw_below_drewN | apply below_drew1) | exact HB.out)) hb); have n1_ := Aside0.mk (hbox); have n2_ := Aside0.mk ((by rw [hg]; exact (below_size (by repeat (first | (with_reducible first | exact HB.out | apply below_alloc | apply pw_below_drewN | apply below_drew1) | exact HB.out))) : w.heap.size ≤ gb638)); have n3_ := Aside0.mk ((by rw [hg]; exact (below_size (by repeat (first | (with_reducible first | exact HB.out | apply below_alloc | apply pw_below_drewN | apply below_drew1) | exact HB.out))) : w.heap.size ≤ gb638)); clear HB; have HB := n0_; have BK638 := n1_; have GW638 := n2_; have GE638 := n3_; clear n0_ n1_ n2_ n3_; clear hb hbox hg; have hcz5_0 : w4.cell? ⟨gb638, 0, none⟩ = some (.int .i64 a1_0) := (blk_cell BK638.out 0).trans rfl; have hcz5_1 : w4.cell? ⟨gb638, 1, none⟩ = some (.slice A1_1 l1_1.length c1_1) := (blk_cell BK638.out 1).trans rfl; have hfz5_0 := blk_frozen BK638.out 0; have hfz5_1 := blk_frozen BK638.out 1))
    repeat (go_quiet (first | ((with_reducible refine gate_dst (N := 3) rfl ?_); (try (refine gate_guard (by rfl) ?_; dsimp only)); refine box_event ?hg (N := 3) ?hd (cs := #[.int .i64 a1_0, .slice A1_1 l1_1.length c1_1]) (t := 25) ?hr ?_; (case hd => rfl); (case hg => rfl); (case hr => first | (go_simp; done) | (go_simp; rfl)); intro gb638 hg w4 hbox hb; have n0_ := Aside0.mk (below_step (by repeat (first | (with_reducible first | exact HB.out | apply below_alloc | apply pw_below_drewN | apply below_drew1) | exact HB.out)) hb); have n1_ := Aside0.mk (hbox); have n2_ := Aside0.mk ((by rw [hg]; exact (below_size (by repeat (first | (with_reducible first | exact HB.out | apply below_alloc | apply pw_below_drewN | apply below_drew1) | exact HB.out))) : w.heap.size ≤ gb638)); have n3_ := Aside0.mk ((by rw [hg]; exact (below_size (by repeat (first | (with_reducible first | exact HB.out | apply below_alloc | apply pw_below_drewN | apply below_drew1) | exact HB.out))) : w.heap.size ≤ gb638)); clear HB; have HB := n0_; have BK638 := n1_; have GW638 := n2_; have GE638 := n3_; clear n0_ n1_ n2_ n3_; clear hb hbox hg; have hcz5_0 : w4.cell? ⟨gb638, 0, none⟩ = some (.int .i64 a1_0) := (blk_cell BK638.out 0).trans rfl; have hcz5_1 : w4.cell? ⟨gb638, 1, none⟩ = some (.slice A1_1 l1_1.length c1_1) := (blk_cell BK638.out 1).trans rfl; have hfz5_0 := blk_frozen BK638.out 0; have hfz5_1 := blk_frozen BK638.out 1)); try go_wp2_with (first | ((with_reducible refine gate_dst (N := 3) rfl ?_); (try (refine gate_guard (by rfl) ?_; dsimp only)); refine box_event ?hg (N := 3) ?hd (cs := #[.int .i64 a1_0, .slice A1_1 l1_1.length c1_1]) (t := 25) ?hr ?_; (case hd => rfl); (case hg => rfl); (case hr => first | (go_simp; done) | (go_simp; rfl)); intro gb638 hg w4 hbox hb; have n0_ := Aside0.mk (below_step (by repeat (first | (with_reducible first | exact HB.out | apply below_alloc | apply pw_below_drewN | apply below_drew1) | exact HB.out)) hb); have n1_ := Aside0.mk (hbox); have n2_ := Aside0.mk ((by rw [hg]; exact (below_size (by repeat (first | (with_reducible first | exact HB.out | apply below_alloc | apply pw_below_drewN | apply below_drew1) | exact HB.out))) : w.heap.size ≤ gb638)); have n3_ := Aside0.mk ((by rw [hg]; exact (below_size (by repeat (first | (with_reducible first | exact HB.out | apply below_alloc | apply pw_below_drewN | apply below_drew1) | exact HB.out))) : w.heap.size ≤ gb638)); clear HB; have HB := n0_; have BK638 := n1_; have GW638 := n2_; have GE638 := n3_; clear n0_ n1_ n2_ n3_; clear hb hbox hg; have hcz5_0 : w4.cell? ⟨gb638, 0, none⟩ = some (.int .i64 a1_0) := (blk_cell BK638.out 0).trans rfl; have hcz5_1 : w4.cell? ⟨gb638, 1, none⟩ = some (.slice A1_1 l1_1.length c1_1) := (blk_cell BK638.out 1).trans rfl; have hfz5_0 := blk_frozen BK638.out 0; have hfz5_1 := blk_frozen BK638.out 1)))
    go_ret
    exact ⟨by first | rfl | (simp [errW_none, errW_some] <;> rfl) | (simp [*, errW_none, errW_some] <;> rfl), by repeat (first | (with_reducible first | exact HB.out | apply below_alloc | apply pw_below_drewN | apply below_drew1 | refine below_set ?_ GE638.out) | exact HB.out)⟩
  · rw [if_neg c3] at H
    have c3b0 : decide (a1_0 < 0) = false := decide_eq_false c3
    clear c3
    have HC6 := Aside0.mk H
    clear H
    go_enter Try.func206, Try.ntmps206
    go_upto_region 3 with (first | ((with_reducible refine gate_dst (N := 3) rfl ?_); (try (refine gate_guard (by rfl) ?_; dsimp only)); refine box_event ?hg (N := 3) ?hd (cs := #[.int .i64 a1_0, .slice A1_1 l1_1.length c1_1]) (t := 25) ?hr ?_; (case hd => rfl); (case hg => rfl); (case hr => first | (go_simp; done) | (go_simp; rfl)); intro gb638 hg w7 hbox hb; have n0_ := Aside0.mk (below_step (by repeat (first | (with_reducible first | exact HB.out | apply below_alloc | apply pw_below_drewN | apply below_drew1) | exact HB.out)) hb); have n1_ := Aside0.mk (hbox); have n2_ := Aside0.mk ((by rw [hg]; exact (below_size (by repeat (first | (with_reducible first | exact HB.out | apply below_alloc | apply pw_below_drewN | apply below_drew1) | exact HB.out))) : w.heap.size ≤ gb638)); have n3_ := Aside0.mk ((by rw [hg]; exact (below_size (by repeat (first | (with_reducible first | exact HB.out | apply below_alloc | apply pw_below_drewN | apply below_drew1) | exact HB.out))) : w.heap.size ≤ gb638)); clear HB; have HB := n0_; have BK638 := n1_; have GW638 := n2_; have GE638 := n3_; clear n0_ n1_ n2_ n3_; clear hb hbox hg; have hcz8_0 : w7.cell? ⟨gb638, 0, none⟩ = some (.int .i64 a1_0) := (blk_cell BK638.out 0).trans rfl; have hcz8_1 : w7.cell? ⟨gb638, 1, none⟩ = some (.slice A1_1 l1_1.length c1_1) := (blk_cell BK638.out 1).trans rfl; have hfz8_0 := blk_frozen BK638.out 0; have hfz8_1 := blk_frozen BK638.out 1))
    repeat (go_quiet (first | ((with_reducible refine gate_dst (N := 3) rfl ?_); (try (refine gate_guard (by rfl) ?_; dsimp only)); refine box_event ?hg (N := 3) ?hd (cs := #[.int .i64 a1_0, .slice A1_1 l1_1.length c1_1]) (t := 25) ?hr ?_; (case hd => rfl); (case hg => rfl); (case hr => first | (go_simp; done) | (go_simp; rfl)); intro gb638 hg w7 hbox hb; have n0_ := Aside0.mk (below_step (by repeat (first | (with_reducible first | exact HB.out | apply below_alloc | apply pw_below_drewN | apply below_drew1) | exact HB.out)) hb); have n1_ := Aside0.mk (hbox); have n2_ := Aside0.mk ((by rw [hg]; exact (below_size (by repeat (first | (with_reducible first | exact HB.out | apply below_alloc | apply pw_below_drewN | apply below_drew1) | exact HB.out))) : w.heap.size ≤ gb638)); have n3_ := Aside0.mk ((by rw [hg]; exact (below_size (by repeat (first | (with_reducible first | exact HB.out | apply below_alloc | apply pw_below_drewN | apply below_drew1) | exact HB.out))) : w.heap.size ≤ gb638)); clear HB; have HB := n0_; have BK638 := n1_; have GW638 := n2_; have GE638 := n3_; clear n0_ n1_ n2_ n3_; clear hb hbox hg; have hcz8_0 : w7.cell? ⟨gb638, 0, none⟩ = some (.int .i64 a1_0) := (blk_cell BK638.out 0).trans rfl; have hcz8_1 : w7.cell? ⟨gb638, 1, none⟩ = some (.slice A1_1 l1_1.length c1_1) := (blk_cell BK638.out 1).trans rfl; have hfz8_0 := blk_frozen BK638.out 0; have hfz8_1 := blk_frozen BK638.out 1)); go_upto_region 3 with (first | ((with_reducible refine gate_dst (N := 3) rfl ?_); (try (refine gate_guard (by rfl) ?_; dsimp only)); refine box_event ?hg (N := 3) ?hd (cs := #[.int .i64 a1_0, .slice A1_1 l1_1.length c1_1]) (t := 25) ?hr ?_; (case hd => rfl); (case hg => rfl); (case hr => first | (go_simp; done) | (go_simp; rfl)); intro gb638 hg w7 hbox hb; have n0_ := Aside0.mk (below_step (by repeat (first | (with_reducible first | exact HB.out | apply below_alloc | apply pw_below_drewN | apply below_drew1) | exact HB.out)) hb); have n1_ := Aside0.mk (hbox); have n2_ := Aside0.mk ((by rw [hg]; exact (below_size (by repeat (first | (with_reducible first | exact HB.out | apply below_alloc | apply pw_below_drewN | apply below_drew1) | exact HB.out))) : w.heap.size ≤ gb638)); have n3_ := Aside0.mk ((by rw [hg]; exact (below_size (by repeat (first | (with_reducible first | exact HB.out | apply below_alloc | apply pw_below_drewN | apply below_drew1) | exact HB.out))) : w.heap.size ≤ gb638)); clear HB; have HB := n0_; have BK638 := n1_; have GW638 := n2_; have GE638 := n3_; clear n0_ n1_ n2_ n3_; clear hb hbox hg; have hcz8_0 : w7.cell? ⟨gb638, 0, none⟩ = some (.int .i64 a1_0) := (blk_cell BK638.out 0).trans rfl; have hcz8_1 : w7.cell? ⟨gb638, 1, none⟩ = some (.slice A1_1 l1_1.length c1_1) := (blk_cell BK638.out 1).trans rfl; have hfz8_0 := blk_frozen BK638.out 0; have hfz8_1 := blk_frozen BK638.out 1)))
    (try simp only [Act.put, List.setIfInBounds_toArray, List.set_cons_zero, List.set_cons_succ])
    go_cut [25] (fun v25 wc => ∃ (kq : Nat) (x25_5 : Bool), v25 = .bool x25_5 ∧ Aside0 (elenchusref07_known.j0 kq l0 x25_5 a1_0 l1_1 = some r) ∧ Aside0 (kq ≤ k) ∧ Aside0 (wc.heap[gb638]? = some (.cells #[.int .i64 a1_0, (.slice A1_1 l1_1.length c1_1)] 25 (0, 0))) ∧ Aside0 (Below w.heap.size w wc))
    case first =>
      have H := HC6.out
      clear HC6
      by_cases c9 : a1_0 ≥ (l0.length : Int)
      · rw [if_pos c9] at H
        have c9b0 : decide ((l0.length : Int) ≤ a1_0) = true := decide_eq_true c9
        clear c9
        (first | rw [c9b0] | (simp only [i64_w, i32_w]; rw [c9b0]) | skip)
        have H' := Aside0.mk H
        clear H
        have hcz10_0 : w7.cell? ⟨gb638, 0, none⟩ = some (.int .i64 a1_0) := (blk_cell BK638.out 0).trans rfl
        have hcz10_1 : w7.cell? ⟨gb638, 1, none⟩ = some (.slice A1_1 l1_1.length c1_1) := (blk_cell BK638.out 1).trans rfl
        have hfz10_0 := blk_frozen BK638.out 0
        have hfz10_1 := blk_frozen BK638.out 1
        go_wp2
        repeat (go_quiet (fail); try go_wp2)
        go_meet
        case rel => exact ⟨_, (true), (by first | rfl | (simp; done) | (simp [*]; done)), H', ⟨by first | omega | exact Nat.le_refl _⟩, ⟨by (with_reducible repeat (first | refine blk_drewN ?_ _ | refine blk_drew ?_ | refine blk_alloc ?_ _)); exact BK638.out⟩, ⟨by repeat (first | (with_reducible first | exact HB.out | apply below_alloc | apply pw_below_drewN | apply below_drew1 | refine below_set ?_ GE638.out) | exact HB.out)⟩⟩
      · rw [if_neg c9] at H
        have c9b0 : decide ((l0.length : Int) ≤ a1_0) = false := decide_eq_false c9
        clear c9
        (first | rw [c9b0] | (simp only [i64_w, i32_w]; rw [c9b0]) | skip)
        by_cases c11 : 0 ≤ a1_0
        · rw [if_pos c11] at H
          have c11b0 : decide (0 ≤ a1_0) = true := decide_eq_true c11
          clear c11
          by_cases c12 : a1_0 < (l0.length : Int)
          · rw [if_pos c12] at H
            have c12b0 : decide (a1_0 < (l0.length : Int)) = true := decide_eq_true c12
            clear c12
            have H' := Aside0.mk H
            clear H
            have hcz13_0 : w7.cell? ⟨gb638, 0, none⟩ = some (.int .i64 a1_0) := (blk_cell BK638.out 0).trans rfl
            have hcz13_1 : w7.cell? ⟨gb638, 1, none⟩ = some (.slice A1_1 l1_1.length c1_1) := (blk_cell BK638.out 1).trans rfl
            have hfz13_0 := blk_frozen BK638.out 0
            have hfz13_1 := blk_frozen BK638.out 1
            have p639 : 0 ≤ (a1_0 : Int) := of_decide_eq_true (by first | (with_reducible assumption) | assumption)
            have q639 : a1_0 < (l0.length : Int) := of_decide_eq_true (by first | (with_reducible assumption) | assumption)
            obtain ⟨ad639, e639, hx639_0, hx639_1, hx639_2, hx639_3⟩ := at_T148 HR0.out a1_0 p639 q639
            cases e639
            replace hx639_0 := (HB.out.cell (World.block_lt_of_cell? w _ hx639_0)).trans hx639_0
            replace hx639_1 := (HB.out.cell (World.block_lt_of_cell? w _ hx639_1)).trans hx639_1
            replace hx639_2 := (HB.out.cell (World.block_lt_of_cell? w _ hx639_2)).trans hx639_2
            replace hx639_3 := (HB.out.cell (World.block_lt_of_cell? w _ hx639_3)).trans hx639_3
            replace p639 := eq_true p639
            replace q639 := eq_true q639
            go_wp2
            repeat (go_quiet (fail); try go_wp2)
            go_meet
            case rel => exact ⟨_, (((l1_1.length : Int) != ((rd_T148 l0 a1_0).f1))), (by first | rfl | (simp; done) | (simp [*]; done)), H', ⟨by first | omega | exact Nat.le_refl _⟩, ⟨by (with_reducible repeat (first | refine blk_drewN ?_ _ | refine blk_drew ?_ | refine blk_alloc ?_ _)); exact BK638.out⟩, ⟨by repeat (first | (with_reducible first | exact HB.out | apply below_alloc | apply pw_below_drewN | apply below_drew1 | refine below_set ?_ GE638.out) | exact HB.out)⟩⟩
          · rw [if_neg c12] at H
            exact absurd H (by simp)
        · rw [if_neg c11] at H
          exact absurd H (by simp)
    case rest =>
      clear HC6
      try clear c1
      try clear c2
      try clear p2
      try clear c3
      try clear c3b0
      try clear p6
      try clear q6
      try clear hx6
      try clear c9
      try clear c9b0
      try clear c11
      try clear c11b0
      try clear c12
      try clear c12b0
      try clear hcz10_0
      try clear hcz10_1
      try clear hcz13_0
      try clear hcz13_1
      try clear hcz5_0
      try clear hcz5_1
      try clear hcz8_0
      try clear hcz8_1
      try clear hfz10_0
      try clear hfz10_1
      try clear hfz13_0
      try clear hfz13_1
      try clear hfz5_0
      try clear hfz5_1
      try clear hfz8_0
      try clear hfz8_1
      try clear hx639_0
      try clear hx639_1
      try clear hx639_2
      try clear hx639_3
      try clear p639
      try clear q639
      obtain ⟨kq, x25_5, rfl, HA, HJ5, BK638, HB⟩ := hcut
      cases kq with
      | zero => exact absurd HA.out (by simp [elenchusref07_known.j0])
      | succ kj5 =>
        have H := HA.out
        clear HA
        simp only [elenchusref07_known.j0] at H
        by_cases c14 : x25_5 = true
        · subst c14
          have H1 : (some false) = some r := by rw [if_pos rfl] at H; exact H
          clear H
          have H := H1
          clear H1
          obtain rfl := Option.some.inj H
          go_wp2
          repeat (go_quiet (fail); try go_wp2)
          go_ret
          exact ⟨by first | rfl | (simp [errW_none, errW_some] <;> rfl) | (simp [*, errW_none, errW_some] <;> rfl), by repeat (first | (with_reducible first | exact HB.out | apply below_alloc | apply pw_below_drewN | apply below_drew1 | refine below_set ?_ GE638.out) | exact HB.out)⟩
        · replace c14 := Bool.eq_false_iff.mpr c14
          subst c14
          have H1 : (elenchusref07_known.l0 kj5 l0 0 a1_0 l1_1) = some r := by rw [if_neg (show ¬ (false = true) by decide)] at H; exact H
          clear H
          have H := H1
          clear H1
          have H' := Aside0.mk H
          clear H
          go_wp2
          repeat (go_quiet (fail); try go_wp2)
          go_loopg [5] kj5 (fun kq v5 w' => ∃ (x5_2 : Int), v5 = .int .i64 x5_2 ∧ Aside0 (elenchusref07_known.l0 kq l0 x5_2 a1_0 l1_1 = some r) ∧ Aside0 (kq ≤ kj5) ∧ Aside0 (w'.heap[gb638]? = some (.cells #[.int .i64 a1_0, (.slice A1_1 l1_1.length c1_1)] 25 (0, 0))) ∧ Aside0 (Below w.heap.size w w'))
          case atStart => exact ⟨(0), (by first | rfl | (simp; done) | (simp [*]; done)), H', ⟨Nat.le_refl _⟩, ⟨by (with_reducible repeat (first | refine blk_drewN ?_ _ | refine blk_drew ?_ | refine blk_alloc ?_ _)); exact BK638.out⟩, ⟨by repeat (first | (with_reducible first | exact HB.out | apply below_alloc | apply pw_below_drewN | apply below_drew1 | refine below_set ?_ GE638.out) | exact HB.out)⟩⟩
          case round =>
            clear H'
            try clear c1
            try clear c2
            try clear p2
            try clear c3
            try clear c3b0
            try clear p6
            try clear q6
            try clear hx6
            try clear c9
            try clear c9b0
            try clear c11
            try clear c11b0
            try clear c12
            try clear c12b0
            try clear c14
            try clear hcz10_0
            try clear hcz10_1
            try clear hcz13_0
            try clear hcz13_1
            try clear hcz5_0
            try clear hcz5_1
            try clear hcz8_0
            try clear hcz8_1
            try clear hfz10_0
            try clear hfz10_1
            try clear hfz13_0
            try clear hfz13_1
            try clear hfz5_0
            try clear hfz5_1
            try clear hfz8_0
            try clear hfz8_1
            try clear hx639_0
            try clear hx639_1
            try clear hx639_2
            try clear hx639_3
            try clear p2
            try clear p6
            try clear p639
            try clear q6
            try clear q639
            obtain ⟨x5_2, rfl, HA, HK2, BK638, HB⟩ := hrel
            cases gk with
            | zero => exact absurd HA.out (by simp [elenchusref07_known.l0])
            | succ k2 =>
              have H := HA.out
              clear HA
              simp only [elenchusref07_known.l0] at H
              by_cases c15 : x5_2 < (l1_1.length : Int)
              · rw [if_pos c15] at H
                have c15b0 : decide (x5_2 < (l1_1.length : Int)) = true := decide_eq_true c15
                clear c15
                by_cases c16 : 0 ≤ x5_2
                · rw [if_pos c16] at H
                  have c16b0 : decide (0 ≤ x5_2) = true := decide_eq_true c16
                  clear c16
                  replace H := Option.bind_eq_some_iff.mp H
                  obtain ⟨t641, A170, H⟩ := H
                  replace H : (if t641 = true then (elenchusref07_known.l0 k2 l0 (wrap64 (x5_2 + 1)) a1_0 l1_1) else (some false)) = some r := H
                  have A17 := Aside0.mk A170
                  clear A170
                  by_cases c18 : t641 = true
                  · subst c18
                    have H1 : (elenchusref07_known.l0 k2 l0 (wrap64 (x5_2 + 1)) a1_0 l1_1) = some r := by rw [if_pos rfl] at H; exact H
                    clear H
                    have H := H1
                    clear H1
                    have H' := Aside0.mk H
                    clear H
                    have hcz19_0 : wr.cell? ⟨gb638, 0, none⟩ = some (.int .i64 a1_0) := (blk_cell BK638.out 0).trans rfl
                    have hcz19_1 : wr.cell? ⟨gb638, 1, none⟩ = some (.slice A1_1 l1_1.length c1_1) := (blk_cell BK638.out 1).trans rfl
                    have hfz19_0 := blk_frozen BK638.out 0
                    have hfz19_1 := blk_frozen BK638.out 1
                    have p640 : 0 ≤ (x5_2 : Int) := of_decide_eq_true (by first | (with_reducible assumption) | assumption)
                    have q640 : x5_2 < (l1_1.length : Int) := of_decide_eq_true (by first | (with_reducible assumption) | assumption)
                    obtain ⟨ad640, A640_1, c640_1, e640, hx640_0, hx640_1, hl640_1, hi640_1⟩ := at_T25 HR1_1.out x5_2 p640 q640
                    cases e640
                    replace hx640_0 := (HB.out.cell (World.block_lt_of_cell? w _ hx640_0)).trans hx640_0
                    replace hx640_1 := (HB.out.cell (World.block_lt_of_cell? w _ hx640_1)).trans hx640_1
                    have HR640_1 := Aside0.mk hi640_1
                    have HC640_1 := Aside0.mk hl640_1
                    clear hi640_1 hl640_1
                    replace p640 := eq_true p640
                    replace q640 := eq_true q640
                    go_wp2_with (first | (go_at_call 206; (with_reducible refine (ih k2 (by have := HJ5.out; have := HK2.out; omega) _ _ l0 ((rd_T25 l1_1 x5_2).f0) _ _ ((rd_T25 l1_1 x5_2).f1) true _ ?side1 ?side2 ?side3 ?side4 A17.out).mono ?_); (case side1 => repeat (first | exact (Kd.C_below HR0.out HB.out) | (with_reducible refine Kd.C_alloc ?_ _) | (with_reducible refine Kd.C_drewN ?_ _) | (with_reducible refine Kd.C_drew ?_))); (case side2 => exact HC0.out); (case side3 => repeat (first | exact (Kd.C_below HR640_1.out HB.out) | (with_reducible refine Kd.C_alloc ?_ _) | (with_reducible refine Kd.C_drewN ?_ _) | (with_reducible refine Kd.C_drew ?_))); (case side4 => exact HC640_1.out); rintro e w20 ⟨rfl, hb⟩; have n0_ := Aside0.mk (blk_below (g := gb638) (o := .cells #[.int .i64 a1_0, .slice (some ad640) l1_1.length c1_1] 25 (0, 0)) (by (with_reducible repeat (first | refine blk_drewN ?_ _ | refine blk_drew ?_ | refine blk_alloc ?_ _)); exact BK638.out) hb); have n1_ := Aside0.mk (below_step (by repeat (first | (with_reducible first | exact HB.out | apply below_alloc | apply pw_below_drewN | apply below_drew1 | refine below_set ?_ GE638.out) | exact HB.out)) hb); clear BK638; clear HB; have BK638 := n0_; have HB := n1_; clear n0_ n1_; (try clear hb); (try clear hb2); (try clear hk); (try clear hi)))
                    repeat (go_quiet (first | (go_at_call 206; (with_reducible refine (ih k2 (by have := HJ5.out; have := HK2.out; omega) _ _ l0 ((rd_T25 l1_1 x5_2).f0) _ _ ((rd_T25 l1_1 x5_2).f1) true _ ?side1 ?side2 ?side3 ?side4 A17.out).mono ?_); (case side1 => repeat (first | exact (Kd.C_below HR0.out HB.out) | (with_reducible refine Kd.C_alloc ?_ _) | (with_reducible refine Kd.C_drewN ?_ _) | (with_reducible refine Kd.C_drew ?_))); (case side2 => exact HC0.out); (case side3 => repeat (first | exact (Kd.C_below HR640_1.out HB.out) | (with_reducible refine Kd.C_alloc ?_ _) | (with_reducible refine Kd.C_drewN ?_ _) | (with_reducible refine Kd.C_drew ?_))); (case side4 => exact HC640_1.out); rintro e w20 ⟨rfl, hb⟩; have n0_ := Aside0.mk (blk_below (g := gb638) (o := .cells #[.int .i64 a1_0, .slice (some ad640) l1_1.length c1_1] 25 (0, 0)) (by (with_reducible repeat (first | refine blk_drewN ?_ _ | refine blk_drew ?_ | refine blk_alloc ?_ _)); exact BK638.out) hb); have n1_ := Aside0.mk (below_step (by repeat (first | (with_reducible first | exact HB.out | apply below_alloc | apply pw_below_drewN | apply below_drew1 | refine below_set ?_ GE638.out) | exact HB.out)) hb); clear BK638; clear HB; have BK638 := n0_; have HB := n1_; clear n0_ n1_; (try clear hb); (try clear hb2); (try clear hk); (try clear hi))); try go_wp2_with (first | (go_at_call 206; (with_reducible refine (ih k2 (by have := HJ5.out; have := HK2.out; omega) _ _ l0 ((rd_T25 l1_1 x5_2).f0) _ _ ((rd_T25 l1_1 x5_2).f1) true _ ?side1 ?side2 ?side3 ?side4 A17.out).mono ?_); (case side1 => repeat (first | exact (Kd.C_below HR0.out HB.out) | (with_reducible refine Kd.C_alloc ?_ _) | (with_reducible refine Kd.C_drewN ?_ _) | (with_reducible refine Kd.C_drew ?_))); (case side2 => exact HC0.out); (case side3 => repeat (first | exact (Kd.C_below HR640_1.out HB.out) | (with_reducible refine Kd.C_alloc ?_ _) | (with_reducible refine Kd.C_drewN ?_ _) | (with_reducible refine Kd.C_drew ?_))); (case side4 => exact HC640_1.out); rintro e w20 ⟨rfl, hb⟩; have n0_ := Aside0.mk (blk_below (g := gb638) (o := .cells #[.int .i64 a1_0, .slice (some ad640) l1_1.length c1_1] 25 (0, 0)) (by (with_reducible repeat (first | refine blk_drewN ?_ _ | refine blk_drew ?_ | refine blk_alloc ?_ _)); exact BK638.out) hb); have n1_ := Aside0.mk (below_step (by repeat (first | (with_reducible first | exact HB.out | apply below_alloc | apply pw_below_drewN | apply below_drew1 | refine below_set ?_ GE638.out) | exact HB.out)) hb); clear BK638; clear HB; have BK638 := n0_; have HB := n1_; clear n0_ n1_; (try clear hb); (try clear hb2); (try clear hk); (try clear hi))))
                    go_roundg k2
                    case measure => have := HJ5.out; have := HK2.out; omega
                    case rel => exact ⟨(wrap64 (x5_2 + 1)), (by first | rfl | (simp; done) | (simp [*]; done)), H', ⟨by have := HJ5.out; have := HK2.out; omega⟩, ⟨by (with_reducible repeat (first | refine blk_drewN ?_ _ | refine blk_drew ?_ | refine blk_alloc ?_ _)); exact BK638.out⟩, ⟨by repeat (first | (with_reducible first | exact HB.out | apply below_alloc | apply pw_below_drewN | apply below_drew1 | refine below_set ?_ GE638.out) | exact HB.out)⟩⟩
                  · replace c18 := Bool.eq_false_iff.mpr c18
                    subst c18
                    have H1 : (some false) = some r := by rw [if_neg (show ¬ (false = true) by decide)] at H; exact H
                    clear H
                    have H := H1
                    clear H1
                    obtain rfl := Option.some.inj H
                    have hcz21_0 : wr.cell? ⟨gb638, 0, none⟩ = some (.int .i64 a1_0) := (blk_cell BK638.out 0).trans rfl
                    have hcz21_1 : wr.cell? ⟨gb638, 1, none⟩ = some (.slice A1_1 l1_1.length c1_1) := (blk_cell BK638.out 1).trans rfl
                    have hfz21_0 := blk_frozen BK638.out 0
                    have hfz21_1 := blk_frozen BK638.out 1
                    have p640 : 0 ≤ (x5_2 : Int) := of_decide_eq_true (by first | (with_reducible assumption) | assumption)
                    have q640 : x5_2 < (l1_1.length : Int) := of_decide_eq_true (by first | (with_reducible assumption) | assumption)
                    obtain ⟨ad640, A640_1, c640_1, e640, hx640_0, hx640_1, hl640_1, hi640_1⟩ := at_T25 HR1_1.out x5_2 p640 q640
                    cases e640
                    replace hx640_0 := (HB.out.cell (World.block_lt_of_cell? w _ hx640_0)).trans hx640_0
                    replace hx640_1 := (HB.out.cell (World.block_lt_of_cell? w _ hx640_1)).trans hx640_1
                    have HR640_1 := Aside0.mk hi640_1
                    have HC640_1 := Aside0.mk hl640_1
                    clear hi640_1 hl640_1
                    replace p640 := eq_true p640
                    replace q640 := eq_true q640
                    go_wp2_with (first | (go_at_call 206; (with_reducible refine (ih k2 (by have := HJ5.out; have := HK2.out; omega) _ _ l0 ((rd_T25 l1_1 x5_2).f0) _ _ ((rd_T25 l1_1 x5_2).f1) false _ ?side1 ?side2 ?side3 ?side4 A17.out).mono ?_); (case side1 => repeat (first | exact (Kd.C_below HR0.out HB.out) | (with_reducible refine Kd.C_alloc ?_ _) | (with_reducible refine Kd.C_drewN ?_ _) | (with_reducible refine Kd.C_drew ?_))); (case side2 => exact HC0.out); (case side3 => repeat (first | exact (Kd.C_below HR640_1.out HB.out) | (with_reducible refine Kd.C_alloc ?_ _) | (with_reducible refine Kd.C_drewN ?_ _) | (with_reducible refine Kd.C_drew ?_))); (case side4 => exact HC640_1.out); rintro e w22 ⟨rfl, hb⟩; have n0_ := Aside0.mk (blk_below (g := gb638) (o := .cells #[.int .i64 a1_0, .slice (some ad640) l1_1.length c1_1] 25 (0, 0)) (by (with_reducible repeat (first | refine blk_drewN ?_ _ | refine blk_drew ?_ | refine blk_alloc ?_ _)); exact BK638.out) hb); have n1_ := Aside0.mk (below_step (by repeat (first | (with_reducible first | exact HB.out | apply below_alloc | apply pw_below_drewN | apply below_drew1 | refine below_set ?_ GE638.out) | exact HB.out)) hb); clear BK638; clear HB; have BK638 := n0_; have HB := n1_; clear n0_ n1_; (try clear hb); (try clear hb2); (try clear hk); (try clear hi)))
                    repeat (go_quiet (first | (go_at_call 206; (with_reducible refine (ih k2 (by have := HJ5.out; have := HK2.out; omega) _ _ l0 ((rd_T25 l1_1 x5_2).f0) _ _ ((rd_T25 l1_1 x5_2).f1) false _ ?side1 ?side2 ?side3 ?side4 A17.out).mono ?_); (case side1 => repeat (first | exact (Kd.C_below HR0.out HB.out) | (with_reducible refine Kd.C_alloc ?_ _) | (with_reducible refine Kd.C_drewN ?_ _) | (with_reducible refine Kd.C_drew ?_))); (case side2 => exact HC0.out); (case side3 => repeat (first | exact (Kd.C_below HR640_1.out HB.out) | (with_reducible refine Kd.C_alloc ?_ _) | (with_reducible refine Kd.C_drewN ?_ _) | (with_reducible refine Kd.C_drew ?_))); (case side4 => exact HC640_1.out); rintro e w22 ⟨rfl, hb⟩; have n0_ := Aside0.mk (blk_below (g := gb638) (o := .cells #[.int .i64 a1_0, .slice (some ad640) l1_1.length c1_1] 25 (0, 0)) (by (with_reducible repeat (first | refine blk_drewN ?_ _ | refine blk_drew ?_ | refine blk_alloc ?_ _)); exact BK638.out) hb); have n1_ := Aside0.mk (below_step (by repeat (first | (with_reducible first | exact HB.out | apply below_alloc | apply pw_below_drewN | apply below_drew1 | refine below_set ?_ GE638.out) | exact HB.out)) hb); clear BK638; clear HB; have BK638 := n0_; have HB := n1_; clear n0_ n1_; (try clear hb); (try clear hb2); (try clear hk); (try clear hi))); try go_wp2_with (first | (go_at_call 206; (with_reducible refine (ih k2 (by have := HJ5.out; have := HK2.out; omega) _ _ l0 ((rd_T25 l1_1 x5_2).f0) _ _ ((rd_T25 l1_1 x5_2).f1) false _ ?side1 ?side2 ?side3 ?side4 A17.out).mono ?_); (case side1 => repeat (first | exact (Kd.C_below HR0.out HB.out) | (with_reducible refine Kd.C_alloc ?_ _) | (with_reducible refine Kd.C_drewN ?_ _) | (with_reducible refine Kd.C_drew ?_))); (case side2 => exact HC0.out); (case side3 => repeat (first | exact (Kd.C_below HR640_1.out HB.out) | (with_reducible refine Kd.C_alloc ?_ _) | (with_reducible refine Kd.C_drewN ?_ _) | (with_reducible refine Kd.C_drew ?_))); (case side4 => exact HC640_1.out); rintro e w22 ⟨rfl, hb⟩; have n0_ := Aside0.mk (blk_below (g := gb638) (o := .cells #[.int .i64 a1_0, .slice (some ad640) l1_1.length c1_1] 25 (0, 0)) (by (with_reducible repeat (first | refine blk_drewN ?_ _ | refine blk_drew ?_ | refine blk_alloc ?_ _)); exact BK638.out) hb); have n1_ := Aside0.mk (below_step (by repeat (first | (with_reducible first | exact HB.out | apply below_alloc | apply pw_below_drewN | apply below_drew1 | refine below_set ?_ GE638.out) | exact HB.out)) hb); clear BK638; clear HB; have BK638 := n0_; have HB := n1_; clear n0_ n1_; (try clear hb); (try clear hb2); (try clear hk); (try clear hi))))
                    go_ret
                    exact ⟨by first | rfl | (simp [errW_none, errW_some] <;> rfl) | (simp [*, errW_none, errW_some] <;> rfl), by repeat (first | (with_reducible first | exact HB.out | apply below_alloc | apply pw_below_drewN | apply below_drew1 | refine below_set ?_ GE638.out) | exact HB.out)⟩
                · rw [if_neg c16] at H
                  exact absurd H (by simp)
              · rw [if_neg c15] at H
                have c15b0 : decide (x5_2 < (l1_1.length : Int)) = false := decide_eq_false c15
                clear c15
                obtain rfl := Option.some.inj H
                have hcz23_0 : wr.cell? ⟨gb638, 0, none⟩ = some (.int .i64 a1_0) := (blk_cell BK638.out 0).trans rfl
                have hcz23_1 : wr.cell? ⟨gb638, 1, none⟩ = some (.slice A1_1 l1_1.length c1_1) := (blk_cell BK638.out 1).trans rfl
                have hfz23_0 := blk_frozen BK638.out 0
                have hfz23_1 := blk_frozen BK638.out 1
                go_wp2
                repeat (go_quiet (fail); try go_wp2)
                go_ret
                exact ⟨by first | rfl | (simp [errW_none, errW_some] <;> rfl) | (simp [*, errW_none, errW_some] <;> rfl), by repeat (first | (with_reducible first | exact HB.out | apply below_alloc | apply pw_below_drewN | apply below_drew1 | refine below_set ?_ GE638.out) | exact HB.out)⟩
end Go.Proofs.Ythplndalbfcbbaa.PA
namespace Go.Proofs.Ythplndalbfcbbaa.PA
open Go.RowKit Go.Proofs.YthplndalbfcbbaaW.PrintWords Go.Proofs.YthplndalbfcbbaaW.PrintLast Go.Proofs.YthplndalbfcbbaaW.PrintMore
attribute [local go_sem] max2_int min2_int max_two min_two max_three min_three max_four min_four   -- for this text's walks alone
set_option linter.unusedVariables false
set_option linter.unusedSimpArgs false
mutual
def elenchusref07_things.l0 : Nat → List (S148) → Int → Int → List (S25) → Option (Bool)
  | 0, _, _, _, _ => none
  | k + 1, x0, x5, x645000, x645001 => if x5 < (x645001.length : Int) then (if 0 ≤ x5 then ((elenchusref07_Truth.f x0 ((rd_T25 x645001 x5).f0) ((rd_T25 x645001 x5).f1)).bind fun t646 => (if t646 = true then (elenchusref07_things.j1 k x0 x5 true x645000 x645001) else ((elenchusref07_things.f k x0 ((rd_T25 x645001 x5).f0) ((rd_T25 x645001 x5).f1)).bind fun t648 => (elenchusref07_things.j1 k x0 x5 (!t648) x645000 x645001)))) else (none)) else (some true)
def elenchusref07_things.j1 : Nat → List (S148) → Int → Bool → Int → List (S25) → Option (Bool)
  | 0, _, _, _, _, _ => none
  | k + 1, x0, x5, x29, x645000, x645001 => if x29 = true then (some false) else (elenchusref07_things.l0 k x0 (wrap64 (x5 + 1)) x645000 x645001)
def elenchusref07_things.f : Nat → List (S148) → Int → List (S25) → Option (Bool)
  | 0, _, _, _ => none
  | k + 1, l0, a1_0, l1_1 => elenchusref07_things.l0 k l0 0 a1_0 l1_1
end
set_option maxHeartbeats 8000000 in
set_option maxRecDepth 100000 in
theorem elenchusref07_things.calls (k : Nat) : ∀ (A0 : Option Addr) (c0 : Nat) (l0 : List (S148)) (a1_0 : Int) (A1_1 : Option Addr) (c1_1 : Nat) (l1_1 : List (S25)) (r : Bool) (w : World) (hr0 : Kd.C k148 w A0 l0.length l0) (hc0 : l0.length ≤ c0) (hr1_1 : Kd.C k25 w A1_1 l1_1.length l1_1) (hc1_1 : l1_1.length ≤ c1_1) (h : elenchusref07_things.f k l0 a1_0 l1_1 = some r),
    Calls Try.prog 207 #[.slice A0 l0.length c0, .agg #[.int .i64 a1_0, .slice A1_1 l1_1.length c1_1]] w fun e w' => e = .returned (.bool r) ∧ Below w.heap.size w w' := by
  induction k using Nat.strongRecOn with
  | _ k ih =>
  intro A0 c0 l0 a1_0 A1_1 c1_1 l1_1 r w hr0 hc0 hr1_1 hc1_1 h
  cases k with
  | zero => exact absurd h (by simp [elenchusref07_things.f])
  | succ k =>
  simp only [elenchusref07_things.f] at h
  have hu25 := Try.underlying25
  have HR0 := Aside0.mk hr0
  have HC0 := Aside0.mk hc0
  clear hr0 hc0
  have HR1_1 := Aside0.mk hr1_1
  have HC1_1 := Aside0.mk hc1_1
  clear hr1_1 hc1_1
  have HB := Aside0.mk (Below.refl w.heap.size w)
  have H : (elenchusref07_things.l0 k l0 0 a1_0 l1_1) = some r := h
  clear h
  have H' := Aside0.mk H
  clear H
  go_enter Try.func207, Try.ntmps207
  go_wp2_with (first | ((with_reducible refine gate_dst (N := 3) rfl ?_); refine box_event ?hg (N := 3) ?hd (cs := #[.int .i64 a1_0, .slice A1_1 l1_1.length c1_1]) (t := 25) ?hr ?_; (case hd => rfl); (case hg => rfl); (case hr => first | (go_simp; done) | (go_simp; rfl)); intro gb644 hg w3 hbox hb; have n0_ := Aside0.mk (below_step (by repeat (first | (with_reducible first | exact HB.out | apply below_alloc | apply pw_below_drewN | apply below_drew1) | exact HB.out)) hb); have n1_ := Aside0.mk (hbox); have n2_ := Aside0.mk ((by rw [hg]; exact (below_size (by repeat (first | (with_reducible first | exact HB.out | apply below_alloc | apply pw_below_drewN | apply below_drew1) | exact HB.out))) : w.heap.size ≤ gb644)); have n3_ := Aside0.mk ((by rw [hg]; exact (below_size (by repeat (first | (with_reducible first | exact HB.out | apply below_alloc | apply pw_below_drewN | apply below_drew1) | exact HB.out))) : w.heap.size ≤ gb644)); clear HB; have HB := n0_; have BK644 := n1_; have GW644 := n2_; have GE644 := n3_; clear n0_ n1_ n2_ n3_; clear hb hbox hg))
  go_loopg [5] k (fun kq v5 w' => ∃ (x5_1 : Int), v5 = .int .i64 x5_1 ∧ Aside0 (elenchusref07_things.l0 kq l0 x5_1 a1_0 l1_1 = some r) ∧ Aside0 (kq ≤ k) ∧ Aside0 (w'.heap[gb644]? = some (.cells #[.int .i64 a1_0, (.slice A1_1 l1_1.length c1_1)] 25 (0, 0))) ∧ Aside0 (Below w.heap.size w w'))
  case atStart => exact ⟨(0), (by first | rfl | (simp; done) | (simp [*]; done)), H', ⟨Nat.le_refl _⟩, ⟨by (with_reducible repeat (first | refine blk_drewN ?_ _ | refine blk_drew ?_ | refine blk_alloc ?_ _)); exact BK644.out⟩, ⟨by repeat (first | (with_reducible first | exact HB.out | apply below_alloc | apply pw_below_drewN | apply below_drew1 | refine below_set ?_ GE644.out) | exact HB.out)⟩⟩
  case round =>
    clear H'
    try clear c1
    try clear c2
    try clear p2
    obtain ⟨x5_1, rfl, HA, HK1, BK644, HB⟩ := hrel
    cases gk with
    | zero => exact absurd HA.out (by simp [elenchusref07_things.l0])
    | succ k1 =>
      have H := HA.out
      clear HA
      simp only [elenchusref07_things.l0] at H
      by_cases c4 : x5_1 < (l1_1.length : Int)
      · rw [if_pos c4] at H
        have c4b0 : decide (x5_1 < (l1_1.length : Int)) = true := decide_eq_true c4
        clear c4
        have HC5 := Aside0.mk H
        clear H
        have hcz6_0 : wr.cell? ⟨gb644, 0, none⟩ = some (.int .i64 a1_0) := (blk_cell BK644.out 0).trans rfl
        have hcz6_1 : wr.cell? ⟨gb644, 1, none⟩ = some (.slice A1_1 l1_1.length c1_1) := (blk_cell BK644.out 1).trans rfl
        have hfz6_0 := blk_frozen BK644.out 0
        have hfz6_1 := blk_frozen BK644.out 1
        go_upto_region 4 with (fail)
        go_cut [29] (fun v29 wc => ∃ (kq : Nat) (x29_4 : Bool), v29 = .bool x29_4 ∧ Aside0 (elenchusref07_things.j1 kq l0 x5_1 x29_4 a1_0 l1_1 = some r) ∧ Aside0 (kq ≤ k1) ∧ Aside0 (wc.heap[gb644]? = some (.cells #[.int .i64 a1_0, (.slice A1_1 l1_1.length c1_1)] 25 (0, 0))) ∧ Aside0 (Below w.heap.size w wc))
        case first =>
          have H := HC5.out
          clear HC5
          by_cases c7 : 0 ≤ x5_1
          · rw [if_pos c7] at H
            have c7b0 : decide (0 ≤ x5_1) = true := decide_eq_true c7
            clear c7
            (first | rw [c7b0] | (simp only [i64_w, i32_w]; rw [c7b0]) | skip)
            replace H := Option.bind_eq_some_iff.mp H
            obtain ⟨t646, A80, H⟩ := H
            replace H : (if t646 = true then (elenchusref07_things.j1 k1 l0 x5_1 true a1_0 l1_1) else ((elenchusref07_things.f k1 l0 ((rd_T25 l1_1 x5_1).f0) ((rd_T25 l1_1 x5_1).f1)).bind fun t648 => (elenchusref07_things.j1 k1 l0 x5_1 (!t648) a1_0 l1_1))) = some r := H
            have A8 := Aside0.mk A80
            clear A80
            by_cases c9 : t646 = true
            · subst c9
              have H1 : (elenchusref07_things.j1 k1 l0 x5_1 true a1_0 l1_1) = some r := by rw [if_pos rfl] at H; exact H
              clear H
              have H := H1
              clear H1
              have H' := Aside0.mk H
              clear H
              have hcz10_0 : wr.cell? ⟨gb644, 0, none⟩ = some (.int .i64 a1_0) := (blk_cell BK644.out 0).trans rfl
              have hcz10_1 : wr.cell? ⟨gb644, 1, none⟩ = some (.slice A1_1 l1_1.length c1_1) := (blk_cell BK644.out 1).trans rfl
              have hfz10_0 := blk_frozen BK644.out 0
              have hfz10_1 := blk_frozen BK644.out 1
              have p645 : 0 ≤ (x5_1 : Int) := of_decide_eq_true (by first | (with_reducible assumption) | assumption)
              have q645 : x5_1 < (l1_1.length : Int) := of_decide_eq_true (by first | (with_reducible assumption) | assumption)
              obtain ⟨ad645, A645_1, c645_1, e645, hx645_0, hx645_1, hl645_1, hi645_1⟩ := at_T25 HR1_1.out x5_1 p645 q645
              cases e645
              replace hx645_0 := (HB.out.cell (World.block_lt_of_cell? w _ hx645_0)).trans hx645_0
              replace hx645_1 := (HB.out.cell (World.block_lt_of_cell? w _ hx645_1)).trans hx645_1
              have HR645_1 := Aside0.mk hi645_1
              have HC645_1 := Aside0.mk hl645_1
              clear hi645_1 hl645_1
              replace p645 := eq_true p645
              replace q645 := eq_true q645
              go_wp2_with (first | ((with_reducible refine gate_callee (f := 190) rfl ?_); refine goesL_ (some 19) rfl rfl Try.func190 (by kernel_rfl) rfl #[.slice A0 l0.length c0, .agg #[.int .i64 ((rd_T25 l1_1 x5_1).f0), .slice A645_1 ((rd_T25 l1_1 x5_1).f1).length c645_1]] rfl (by (try simp only [List.map_toArray, List.map_cons, List.map_nil]); first | done | rfl | (simp only [List.length_drop, List.length_take]; rfl)) ?_; (with_reducible refine (elenchusref07_Truth.calls _ _ l0 ((rd_T25 l1_1 x5_1).f0) _ _ ((rd_T25 l1_1 x5_1).f1) true _ ?side1 ?side2 ?side3 ?side4 A8.out).mono ?_); (case side1 => repeat (first | exact (Kd.C_below HR0.out HB.out) | (with_reducible refine Kd.C_alloc ?_ _) | (with_reducible refine Kd.C_drewN ?_ _) | (with_reducible refine Kd.C_drew ?_))); (case side2 => exact HC0.out); (case side3 => repeat (first | exact (Kd.C_below HR645_1.out HB.out) | (with_reducible refine Kd.C_alloc ?_ _) | (with_reducible refine Kd.C_drewN ?_ _) | (with_reducible refine Kd.C_drew ?_))); (case side4 => exact HC645_1.out); rintro e w11 ⟨rfl, hb⟩; refine ⟨_, rfl, ?_⟩; have n0_ := Aside0.mk (blk_below (g := gb644) (o := .cells #[.int .i64 a1_0, .slice (some ad645) l1_1.length c1_1] 25 (0, 0)) (by (with_reducible repeat (first | refine blk_drewN ?_ _ | refine blk_drew ?_ | refine blk_alloc ?_ _)); exact BK644.out) hb); have n1_ := Aside0.mk (below_step (by repeat (first | (with_reducible first | exact HB.out | apply below_alloc | apply pw_below_drewN | apply below_drew1 | refine below_set ?_ GE644.out) | exact HB.out)) hb); clear BK644; clear HB; have BK644 := n0_; have HB := n1_; clear n0_ n1_; (try clear hb); (try clear hb2); (try clear hk); (try clear hi)))
              go_meet
              case rel => exact ⟨_, (true), (by first | rfl | (simp; done) | (simp [*]; done)), H', ⟨by have := HK1.out; first | omega | exact Nat.le_refl _⟩, ⟨by (with_reducible repeat (first | refine blk_drewN ?_ _ | refine blk_drew ?_ | refine blk_alloc ?_ _)); exact BK644.out⟩, ⟨by repeat (first | (with_reducible first | exact HB.out | apply below_alloc | apply pw_below_drewN | apply below_drew1 | refine below_set ?_ GE644.out) | exact HB.out)⟩⟩
            · replace c9 := Bool.eq_false_iff.mpr c9
              subst c9
              have H1 : ((elenchusref07_things.f k1 l0 ((rd_T25 l1_1 x5_1).f0) ((rd_T25 l1_1 x5_1).f1)).bind fun t648 => (elenchusref07_things.j1 k1 l0 x5_1 (!t648) a1_0 l1_1)) = some r := by rw [if_neg (show ¬ (false = true) by decide)] at H; exact H
              clear H
              have H := H1
              clear H1
              replace H := Option.bind_eq_some_iff.mp H
              obtain ⟨t648, A120, H⟩ := H
              replace H : (elenchusref07_things.j1 k1 l0 x5_1 (!t648) a1_0 l1_1) = some r := H
              have A12 := Aside0.mk A120
              clear A120
              have H' := Aside0.mk H
              clear H
              have hcz13_0 : wr.cell? ⟨gb644, 0, none⟩ = some (.int .i64 a1_0) := (blk_cell BK644.out 0).trans rfl
              have hcz13_1 : wr.cell? ⟨gb644, 1, none⟩ = some (.slice A1_1 l1_1.length c1_1) := (blk_cell BK644.out 1).trans rfl
              have hfz13_0 := blk_frozen BK644.out 0
              have hfz13_1 := blk_frozen BK644.out 1
              have p645 : 0 ≤ (x5_1 : Int) := of_decide_eq_true (by first | (with_reducible assumption) | assumption)
              have q645 : x5_1 < (l1_1.length : Int) := of_decide_eq_true (by first | (with_reducible assumption) | assumption)
              obtain ⟨ad645, A645_1, c645_1, e645, hx645_0, hx645_1, hl645_1, hi645_1⟩ := at_T25 HR1_1.out x5_1 p645 q645
              cases e645
              replace hx645_0 := (HB.out.cell (World.block_lt_of_cell? w _ hx645_0)).trans hx645_0
              replace hx645_1 := (HB.out.cell (World.block_lt_of_cell? w _ hx645_1)).trans hx645_1
              have HR645_1 := Aside0.mk hi645_1
              have HC645_1 := Aside0.mk hl645_1
              clear hi645_1 hl645_1
              replace p645 := eq_true p645
              replace q645 := eq_true q645
              go_wp2_with (first | ((with_reducible refine gate_callee (f := 190) rfl ?_); refine goesL_ (some 19) rfl rfl Try.func190 (by kernel_rfl) rfl #[.slice A0 l0.length c0, .agg #[.int .i64 ((rd_T25 l1_1 x5_1).f0), .slice A645_1 ((rd_T25 l1_1 x5_1).f1).length c645_1]] rfl (by (try simp only [List.map_toArray, List.map_cons, List.map_nil]); first | done | rfl | (simp only [List.length_drop, List.length_take]; rfl)) ?_; (with_reducible refine (elenchusref07_Truth.calls _ _ l0 ((rd_T25 l1_1 x5_1).f0) _ _ ((rd_T25 l1_1 x5_1).f1) false _ ?side1 ?side2 ?side3 ?side4 A8.out).mono ?_); (case side1 => repeat (first | exact (Kd.C_below HR0.out HB.out) | (with_reducible refine Kd.C_alloc ?_ _) | (with_reducible refine Kd.C_drewN ?_ _) | (with_reducible refine Kd.C_drew ?_))); (case side2 => exact HC0.out); (case side3 => repeat (first | exact (Kd.C_below HR645_1.out HB.out) | (with_reducible refine Kd.C_alloc ?_ _) | (with_reducible refine Kd.C_drewN ?_ _) | (with_reducible refine Kd.C_drew ?_))); (case side4 => exact HC645_1.out); rintro e w14 ⟨rfl, hb⟩; refine ⟨_, rfl, ?_⟩; have n0_ := Aside0.mk (blk_below (g := gb644) (o := .cells #[.int .i64 a1_0, .slice (some ad645) l1_1.length c1_1] 25 (0, 0)) (by (with_reducible repeat (first | refine blk_drewN ?_ _ | refine blk_drew ?_ | refine blk_alloc ?_ _)); exact BK644.out) hb); have n1_ := Aside0.mk (below_step (by repeat (first | (with_reducible first | exact HB.out | apply below_alloc | apply pw_below_drewN | apply below_drew1 | refine below_set ?_ GE644.out) | exact HB.out)) hb); clear BK644; clear HB; have BK644 := n0_; have HB := n1_; clear n0_ n1_; (try clear hb); (try clear hb2); (try clear hk); (try clear hi); have hcz15_0 : w14.cell? ⟨gb644, 0, none⟩ = some (.int .i64 a1_0) := (blk_cell BK644.out 0).trans rfl; have hcz15_1 : w14.cell? ⟨gb644, 1, none⟩ = some (.slice (some ad645) l1_1.length c1_1) := (blk_cell BK644.out 1).trans rfl; have hfz15_0 := blk_frozen BK644.out 0; have hfz15_1 := blk_frozen BK644.out 1; have p647 : 0 ≤ (x5_1 : Int) := of_decide_eq_true (by first | (with_reducible assumption) | assumption); have q647 : x5_1 < (l1_1.length : Int) := of_decide_eq_true (by first | (with_reducible assumption) | assumption); obtain ⟨ad647, A647_1, c647_1, e647, hx647_0, hx647_1, hl647_1, hi647_1⟩ := at_T25 HR1_1.out x5_1 p647 q647; obtain rfl : ad645 = ad647 := (by injection e647); replace hx647_0 := (HB.out.cell (World.block_lt_of_cell? w _ hx647_0)).trans hx647_0; replace hx647_1 := (HB.out.cell (World.block_lt_of_cell? w _ hx647_1)).trans hx647_1; have HR647_1 := Aside0.mk hi647_1; have HC647_1 := Aside0.mk hl647_1; clear hi647_1 hl647_1; replace p647 := eq_true p647; replace q647 := eq_true q647) | (go_at_call 207; (with_reducible refine (ih k1 (by have := HK1.out; omega) _ _ l0 ((rd_T25 l1_1 x5_1).f0) _ _ ((rd_T25 l1_1 x5_1).f1) t648 _ ?side1 ?side2 ?side3 ?side4 A12.out).mono ?_); (case side1 => repeat (first | exact (Kd.C_below HR0.out HB.out) | (with_reducible refine Kd.C_alloc ?_ _) | (with_reducible refine Kd.C_drewN ?_ _) | (with_reducible refine Kd.C_drew ?_))); (case side2 => exact HC0.out); (case side3 => repeat (first | exact (Kd.C_below HR647_1.out HB.out) | (with_reducible refine Kd.C_alloc ?_ _) | (with_reducible refine Kd.C_drewN ?_ _) | (with_reducible refine Kd.C_drew ?_))); (case side4 => exact HC647_1.out); rintro e w16 ⟨rfl, hb⟩; have n0_ := Aside0.mk (blk_below (g := gb644) (o := .cells #[.int .i64 a1_0, .slice (some ad645) l1_1.length c1_1] 25 (0, 0)) (by (with_reducible repeat (first | refine blk_drewN ?_ _ | refine blk_drew ?_ | refine blk_alloc ?_ _)); exact BK644.out) hb); have n1_ := Aside0.mk (below_step (by repeat (first | (with_reducible first | exact HB.out | apply below_alloc | apply pw_below_drewN | apply below_drew1 | refine below_set ?_ GE644.out) | exact HB.out)) hb); clear BK644; clear HB; have BK644 := n0_; have HB := n1_; clear n0_ n1_; (try clear hb); (try clear hb2); (try clear hk); (try clear hi)))
              go_meet
              case rel => exact ⟨_, (!t648), (by first | rfl | (simp; done) | (simp [*]; done)), H', ⟨by have := HK1.out; first | omega | exact Nat.le_refl _⟩, ⟨by (with_reducible repeat (first | refine blk_drewN ?_ _ | refine blk_drew ?_ | refine blk_alloc ?_ _)); exact BK644.out⟩, ⟨by repeat (first | (with_reducible first | exact HB.out | apply below_alloc | apply pw_below_drewN | apply below_drew1 | refine below_set ?_ GE644.out) | exact HB.out)⟩⟩
          · rw [if_neg c7] at H
            exact absurd H (by simp)
        case rest =>
          clear HC5
          try clear c1
          try clear c2
          try clear p2
          try clear c4
          try clear c4b0
          try clear c6
          try clear p6
          try clear q6
          try clear hx6
          try clear c7
          try clear c7b0
          try clear c9
          try clear hcz10_0
          try clear hcz10_1
          try clear hcz13_0
          try clear hcz13_1
          try clear hcz15_0
          try clear hcz15_1
          try clear hcz6_0
          try clear hcz6_1
          try clear hfz10_0
          try clear hfz10_1
          try clear hfz13_0
          try clear hfz13_1
          try clear hfz15_0
          try clear hfz15_1
          try clear hfz6_0
          try clear hfz6_1
          try clear hx645_0
          try clear hx645_1
          try clear hx647_0
          try clear hx647_1
          try clear p2
          try clear p645
          try clear p647
          try clear q645
          try clear q647
          obtain ⟨kq, x29_4, rfl, HA, HJ4, BK644, HB⟩ := hcut
          cases kq with
          | zero => exact absurd HA.out (by simp [elenchusref07_things.j1])
          | succ kj4 =>
            have H := HA.out
            clear HA
            simp only [elenchusref07_things.j1] at H
            by_cases c17 : x29_4 = true
            · subst c17
              have H1 : (some false) = some r := by rw [if_pos rfl] at H; exact H
              clear H
              have H := H1
              clear H1
              obtain rfl := Option.some.inj H
              go_wp2
              go_ret
              exact ⟨by first | rfl | (simp [errW_none, errW_some] <;> rfl) | (simp [*, errW_none, errW_some] <;> rfl), by repeat (first | (with_reducible first | exact HB.out | apply below_alloc | apply pw_below_drewN | apply below_drew1 | refine below_set ?_ GE644.out) | exact HB.out)⟩
            · replace c17 := Bool.eq_false_iff.mpr c17
              subst c17
              have H1 : (elenchusref07_things.l0 kj4 l0 (wrap64 (x5_1 + 1)) a1_0 l1_1) = some r := by rw [if_neg (show ¬ (false = true) by decide)] at H; exact H
              clear H
              have H := H1
              clear H1
              have H' := Aside0.mk H
              clear H
              go_wp2
              go_roundg kj4
              case measure => have := HK1.out; have := HJ4.out; omega
              case rel => exact ⟨(wrap64 (x5_1 + 1)), (by first | rfl | (simp; done) | (simp [*]; done)), H', ⟨by have := HK1.out; have := HJ4.out; omega⟩, ⟨by (with_reducible repeat (first | refine blk_drewN ?_ _ | refine blk_drew ?_ | refine blk_alloc ?_ _)); exact BK644.out⟩, ⟨by repeat (first | (with_reducible first | exact HB.out | apply below_alloc | apply pw_below_drewN | apply below_drew1 | refine below_set ?_ GE644.out) | exact HB.out)⟩⟩
      · rw [if_neg c4] at H
        have c4b0 : decide (x5_1 < (l1_1.length : Int)) = false := decide_eq_false c4
        clear c4
        obtain rfl := Option.some.inj H
        have hcz18_0 : wr.cell? ⟨gb644, 0, none⟩ = some (.int .i64 a1_0) := (blk_cell BK644.out 0).trans rfl
        have hcz18_1 : wr.cell? ⟨gb644, 1, none⟩ = some (.slice A1_1 l1_1.length c1_1) := (blk_cell BK644.out 1).trans rfl
        have hfz18_0 := blk_frozen BK644.out 0
        have hfz18_1 := blk_frozen BK644.out 1
        go_wp2
        go_ret
        exact ⟨by first | rfl | (simp [errW_none, errW_some] <;> rfl) | (simp [*, errW_none, errW_some] <;> rfl), by repeat (first | (with_reducible first | exact HB.out | apply below_alloc | apply pw_below_drewN | apply below_drew1 | refine below_set ?_ GE644.out) | exact HB.out)⟩
end Go.Proofs.Ythplndalbfcbbaa.PA
