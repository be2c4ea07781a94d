/- The machine side of the functions that the law reaches (turned out by program), and contracts in its form. -/
import Derived.Test.YthplndalbfcbbaaProg
import Derived.Below
import Derived.Deep.Draws
import Derived.Deep.AppendLies
import Derived.Maps.AppendAt
import Derived.OwnWalk
import Derived.Laws.BytesArg
import Derived.Laws.MakeOwn
import Derived.Laws.OwnMore
import Derived.Deep.OwnRows
import Derived.Tactics
import Derived.Lib.ConvBytes
import Derived.Laws.Slices
import Derived.WalkKit
import Derived.KernelRfl
import Derived.RowKit3
import Derived.Deep.LoopGhost
import Derived.Deep.QuietTactic
import Derived.BigQuiet
import Derived.WideLaws
import Derived.Deep.DeepCutAuto
import Derived.Deep.CutBlock
import Derived.Deep.RegionHeld3
import Derived.Laws.Rows
import Derived.Lib.AppendStr
import Derived.ArgAppend
import Derived.Laws.IdiomCopy
import Derived.OrdersHeld
import Derived.Laws.BitsLemmas
import Derived.RowKit
import Derived.Test.YthplndalbfcbbaaUMatchSolvesB
import Derived.Test.YthplndalbfcbbaaG7
import Derived.Test.YthplndalbfcbbaaG4
import Derived.Test.YthplndalbfcbbaaG1
import Derived.Test.YthplndalbfcbbaaG6
import Derived.Test.YthplndalbfcbbaaG3
import Derived.Test.YthplndalbfcbbaaG9
import Derived.Test.YthplndalbfcbbaaG11
namespace Go.Proofs.Ythplndalbfcbbaa.PA
open Go.RowKit Go.Proofs.YthplndalbfcbbaaW.PrintWords Go.Proofs.YthplndalbfcbbaaW.PrintLast Go.Proofs.YthplndalbfcbbaaW.PrintMore
attribute [local go_sem] max2_int min2_int max_two min_two max_three min_three max_four min_four   -- for this text's walks alone
set_option linter.unusedVariables false
set_option linter.unusedSimpArgs false



def errW : Option Int → Value
  | none => .nilIface
  | some c => .iface 0 (.int .i64 c)
theorem errW_none : errW none = .nilIface := rfl
theorem errW_some (c : Int) : errW (some c) = .iface 0 (.int .i64 c) := rfl

theorem info3 : (Try.prog.info? 3).map (fun i => (i.zero, i.size, i.bytes)) = some (some (.int .i64 0), 1, 8) := by kernel_rfl
theorem info25 : (Try.prog.info? 25).map (fun i => (i.zero, i.size, i.bytes)) = some (some (.agg #[(.int .i64 0), (.slice none 0 0)]), 2, 32) := by kernel_rfl
theorem info60 : (Try.prog.info? 60).map (fun i => (i.zero, i.size, i.bytes)) = some (some (.agg #[(.int .i64 0), (.int .i64 0), (.slice none 0 0)]), 3, 40) := by kernel_rfl
theorem info135 : (Try.prog.info? 135).map (fun i => (i.zero, i.size, i.bytes)) = some (some (.agg #[(.int .i64 0), (.slice none 0 0), (.int .i64 0), (.slice none 0 0)]), 4, 64) := by kernel_rfl
-- the values' own types
/-! #### struct type 25, nested in itself -/
structure S25 where
  f0 : Int
  f1 : (List S25)
def z25 : S25 := ⟨(0 : Int), ([] : List S25)⟩
def F25 (d : Kd S25) : Kd S25 := Kd.iso (Kd.pair (Kd.int .i64) (Kd.slice 25 d)) (fun x : S25 => (x.f0, x.f1))
theorem mono25 : Kd.Mono F25 := Kd.mono_iso _ (Kd.mono_pair (Kd.mono_const _) (Kd.mono_slice 25 Kd.mono_id))
theorem sub25 : Kd.Sub F25 [25] := Kd.sub_iso _ (Kd.sub_pair (Kd.sub_const _ (by decide)) (Kd.sub_slice 25 (by decide) Kd.sub_id))
theorem sz25 : ∀ n, (Kd.upto F25 2 [25] n).sz = 2 := Kd.upto_sz (fun _ => rfl)
def k25 : Kd S25 := Kd.fix F25 2 [25] sz25 (Kd.upto_E sub25)
theorem k25_heap : Kd.Heap k25 := Kd.heap_fix (fun _ h_ => Kd.heap_iso _ (Kd.heap_pair (Kd.heap_int .i64) (Kd.heap_slice 25 h_)))
theorem k25_open {w : World} {x : S25} {cs : List Value} (h : k25.K w x cs) : ∃ A1 c1, cs = [.int .i64 x.f0, .slice A1 x.f1.length c1] ∧ x.f1.length ≤ c1 ∧ k25.C w A1 x.f1.length x.f1 := by
  obtain ⟨n, h⟩ := h
  cases n with
  | zero => exact h.elim
  | succ n =>
    obtain ⟨_, _, rfl, rfl, ⟨A1, c1, rfl, l1, g1⟩⟩ := h
    exact ⟨A1, c1, rfl, l1, Kd.fix_C g1⟩
theorem k25_openM {w : World} {base : Nat} {ok : Nat → Prop} {x : S25} {cs : List Value} (h : k25.M w base ok x cs) : ∃ v1, cs = [.int .i64 x.f0, v1] ∧ k25.R 25 w base ok v1 x.f1 := by
  obtain ⟨n, h⟩ := h
  cases n with
  | zero => exact h.elim
  | succ n =>
    obtain ⟨_, _, rfl, rfl, ⟨v1, rfl, g1⟩⟩ := h
    exact ⟨v1, rfl, Kd.fix_R g1⟩
theorem k25_mk (w : World) (x : S25) {A1 : Option Addr} {c1 : Nat} (l1 : x.f1.length ≤ c1) (g1 : k25.C w A1 x.f1.length x.f1) : k25.K w x [.int .i64 x.f0, .slice A1 x.f1.length c1] := by
  obtain ⟨n1, q1⟩ := Kd.fix_C_back mono25 g1
  have r1 := Kd.upto_C_le mono25 sz25 (show n1 ≤ n1 by omega) q1
  exact ⟨n1 + 1, ⟨[.int .i64 x.f0], [.slice A1 x.f1.length c1], rfl, rfl, ⟨A1, c1, rfl, l1, r1⟩⟩⟩
theorem k25_mkM (w : World) (base : Nat) (ok : Nat → Prop) (x : S25) {v1 : Value} (g1 : k25.R 25 w base ok v1 x.f1) : k25.M w base ok x [.int .i64 x.f0, v1] := by
  obtain ⟨n1, q1⟩ := Kd.fix_R_back mono25 g1
  have r1 := Kd.upto_R_le mono25 sz25 (show n1 ≤ n1 by omega) q1
  exact ⟨n1 + 1, ⟨[.int .i64 x.f0], [v1], rfl, rfl, ⟨v1, rfl, r1⟩⟩⟩
theorem k25_openF {W : World} {ok : Nat → Prop} {x : S25} {cs : List Value} (h : Kd.FK k25 W ok x cs) : ∃ A1 c1, cs = [.int .i64 x.f0, .slice A1 x.f1.length c1] ∧ x.f1.length ≤ c1 ∧ Kd.F k25 W ok A1 x.f1.length x.f1 := by
  obtain ⟨A1, c1, rfl, l1, _⟩ := k25_open (Kd.FK_now h)
  exact ⟨A1, c1, rfl, l1, (fun W' hW => by obtain ⟨A1_, c1_, he, l1_, g1_⟩ := k25_open (h W' hW); injection (Option.some.inj (show some (Value.slice A1 x.f1.length c1) = some (Value.slice A1_ x.f1.length c1_) from congrArg (fun l => l[1]?) he)) with ha_ _ _; rw [ha_]; exact g1_)⟩
theorem k25_mkF (W : World) (ok : Nat → Prop) (x : S25) {A1 : Option Addr} {c1 : Nat} (l1 : x.f1.length ≤ c1) (g1 : Kd.F k25 W ok A1 x.f1.length x.f1) : Kd.FK k25 W ok x [.int .i64 x.f0, .slice A1 x.f1.length c1] := fun W2 hW => k25_mk W2 x l1 (g1 W2 hW)
def rd_T25 (xs : List S25) (i : Int) : S25 := xs.getD i.toNat z25
theorem at_T25 {w : World} {A : Option Addr} {n : Nat} {xs : List S25} (h : Kd.C k25 w A n xs) (i : Int) (h0 : 0 ≤ i) (h1 : i < n) : ∃ ad A1 c1, A = some ad ∧ w.cell? (ad.add (i.toNat * 2)) = some (.int .i64 (rd_T25 xs i).f0) ∧ w.cell? ⟨(ad.add (i.toNat * 2)).block, (ad.add (i.toNat * 2)).off + 1, none⟩ = some (.slice A1 (rd_T25 xs i).f1.length c1) ∧ (rd_T25 xs i).f1.length ≤ c1 ∧ k25.C w A1 (rd_T25 xs i).f1.length (rd_T25 xs i).f1 := by
  obtain ⟨ad, c, e, _, hK, hc0⟩ := Kd.C_get h z25 i h0 h1
  have hc : ∀ j u, c[j]? = some u → w.cell? (ad.add (i.toNat * 2 + j)) = some u := hc0
  obtain ⟨A1, c1, rfl, l1, g1⟩ := k25_open hK
  exact ⟨ad, A1, c1, e, hc 0 _ rfl, by rw [← add_field _ _ 1 (by omega)]; exact hc 1 _ rfl, l1, g1⟩

def rd_L2 (xs : List (List S25)) (i : Int) : (List S25) := xs.getD i.toNat ([] : List S25)
theorem at_L2 {w : World} {A : Option Addr} {n : Nat} {xs : List (List S25)} (h : Kd.C (Kd.slice 25 k25) w A n xs) (i : Int) (h0 : 0 ≤ i) (h1 : i < n) : ∃ ad A0 c0, A = some ad ∧ w.cell? (ad.add i.toNat) = some (.slice A0 (rd_L2 xs i).length c0) ∧ (rd_L2 xs i).length ≤ c0 ∧ k25.C w A0 (rd_L2 xs i).length (rd_L2 xs i) := by
  obtain ⟨ad, c, e, _, hK, hc0⟩ := Kd.C_get h ([] : List S25) i h0 h1
  have hc : ∀ j u, c[j]? = some u → w.cell? (ad.add (i.toNat * 1 + j)) = some u := hc0
  obtain ⟨A0, c0, rfl, l0, g0⟩ := hK
  exact ⟨ad, A0, c0, e, by have hq := hc 0 _ rfl; rwa [Nat.mul_one, Nat.add_zero] at hq, l0, g0⟩

/-! #### struct type 60 -/
structure S60 where
  f0 : Int
  f1 : S25
def z60 : S60 := ⟨(0 : Int), z25⟩
def k60 : Kd S60 := Kd.iso (Kd.pair (Kd.int .i64) k25) (fun x : S60 => (x.f0, x.f1))
theorem k60_heap : Kd.Heap k60 := Kd.heap_iso _ (Kd.heap_pair (Kd.heap_int .i64) k25_heap)
theorem k60_open {w : World} {x : S60} {cs : List Value} (h : k60.K w x cs) : ∃ A2 c2, cs = [.int .i64 x.f0, .int .i64 x.f1.f0, .slice A2 x.f1.f1.length c2] ∧ x.f1.f1.length ≤ c2 ∧ k25.C w A2 x.f1.f1.length x.f1.f1 := by
  obtain ⟨_, _, rfl, rfl, s1⟩ := h
  obtain ⟨A2, c2, rfl, l2, g2⟩ := k25_open s1
  exact ⟨A2, c2, rfl, l2, g2⟩
theorem k60_openM {w : World} {base : Nat} {ok : Nat → Prop} {x : S60} {cs : List Value} (h : k60.M w base ok x cs) : ∃ v2, cs = [.int .i64 x.f0, .int .i64 x.f1.f0, v2] ∧ k25.R 25 w base ok v2 x.f1.f1 := by
  obtain ⟨_, _, rfl, rfl, s1⟩ := h
  obtain ⟨v2, rfl, g2⟩ := k25_openM s1
  exact ⟨v2, rfl, g2⟩
theorem k60_mk (w : World) (x : S60) {A2 : Option Addr} {c2 : Nat} (l2 : x.f1.f1.length ≤ c2) (g2 : k25.C w A2 x.f1.f1.length x.f1.f1) : k60.K w x [.int .i64 x.f0, .int .i64 x.f1.f0, .slice A2 x.f1.f1.length c2] := ⟨[.int .i64 x.f0], [.int .i64 x.f1.f0, .slice A2 x.f1.f1.length c2], rfl, rfl, (k25_mk w x.f1 l2 g2)⟩
theorem k60_mkM (w : World) (base : Nat) (ok : Nat → Prop) (x : S60) {v2 : Value} (g2 : k25.R 25 w base ok v2 x.f1.f1) : k60.M w base ok x [.int .i64 x.f0, .int .i64 x.f1.f0, v2] := ⟨[.int .i64 x.f0], [.int .i64 x.f1.f0, v2], rfl, rfl, (k25_mkM w base ok x.f1 g2)⟩
theorem k60_openF {W : World} {ok : Nat → Prop} {x : S60} {cs : List Value} (h : Kd.FK k60 W ok x cs) : ∃ A2 c2, cs = [.int .i64 x.f0, .int .i64 x.f1.f0, .slice A2 x.f1.f1.length c2] ∧ x.f1.f1.length ≤ c2 ∧ Kd.F k25 W ok A2 x.f1.f1.length x.f1.f1 := by
  obtain ⟨A2, c2, rfl, l2, _⟩ := k60_open (Kd.FK_now h)
  exact ⟨A2, c2, rfl, l2, (fun W' hW => by obtain ⟨A2_, c2_, he, l2_, g2_⟩ := k60_open (h W' hW); injection (Option.some.inj (show some (Value.slice A2 x.f1.f1.length c2) = some (Value.slice A2_ x.f1.f1.length c2_) from congrArg (fun l => l[2]?) he)) with ha_ _ _; rw [ha_]; exact g2_)⟩
theorem k60_mkF (W : World) (ok : Nat → Prop) (x : S60) {A2 : Option Addr} {c2 : Nat} (l2 : x.f1.f1.length ≤ c2) (g2 : Kd.F k25 W ok A2 x.f1.f1.length x.f1.f1) : Kd.FK k60 W ok x [.int .i64 x.f0, .int .i64 x.f1.f0, .slice A2 x.f1.f1.length c2] := fun W2 hW => k60_mk W2 x l2 (g2 W2 hW)
def rd_T60 (xs : List S60) (i : Int) : S60 := xs.getD i.toNat z60
theorem at_T60 {w : World} {A : Option Addr} {n : Nat} {xs : List S60} (h : Kd.C k60 w A n xs) (i : Int) (h0 : 0 ≤ i) (h1 : i < n) : ∃ ad A2 c2, A = some ad ∧ w.cell? (ad.add (i.toNat * 3)) = some (.int .i64 (rd_T60 xs i).f0) ∧ w.cell? ⟨(ad.add (i.toNat * 3)).block, (ad.add (i.toNat * 3)).off + 1, none⟩ = some (.int .i64 (rd_T60 xs i).f1.f0) ∧ w.cell? ⟨(ad.add (i.toNat * 3)).block, (ad.add (i.toNat * 3)).off + 2, none⟩ = some (.slice A2 (rd_T60 xs i).f1.f1.length c2) ∧ (rd_T60 xs i).f1.f1.length ≤ c2 ∧ k25.C w A2 (rd_T60 xs i).f1.f1.length (rd_T60 xs i).f1.f1 := by
  obtain ⟨ad, c, e, _, hK, hc0⟩ := Kd.C_get h z60 i h0 h1
  have hc : ∀ j u, c[j]? = some u → w.cell? (ad.add (i.toNat * 3 + j)) = some u := hc0
  obtain ⟨A2, c2, rfl, l2, g2⟩ := k60_open hK
  exact ⟨ad, A2, c2, e, hc 0 _ rfl, by rw [← add_field _ _ 1 (by omega)]; exact hc 1 _ rfl, by rw [← add_field _ _ 2 (by omega)]; exact hc 2 _ rfl, l2, g2⟩

def rd_L5 (xs : List (List S60)) (i : Int) : (List S60) := xs.getD i.toNat ([] : List S60)
theorem at_L5 {w : World} {A : Option Addr} {n : Nat} {xs : List (List S60)} (h : Kd.C (Kd.slice 60 k60) w A n xs) (i : Int) (h0 : 0 ≤ i) (h1 : i < n) : ∃ ad A0 c0, A = some ad ∧ w.cell? (ad.add i.toNat) = some (.slice A0 (rd_L5 xs i).length c0) ∧ (rd_L5 xs i).length ≤ c0 ∧ k60.C w A0 (rd_L5 xs i).length (rd_L5 xs i) := by
  obtain ⟨ad, c, e, _, hK, hc0⟩ := Kd.C_get h ([] : List S60) i h0 h1
  have hc : ∀ j u, c[j]? = some u → w.cell? (ad.add (i.toNat * 1 + j)) = some u := hc0
  obtain ⟨A0, c0, rfl, l0, g0⟩ := hK
  exact ⟨ad, A0, c0, e, by have hq := hc 0 _ rfl; rwa [Nat.mul_one, Nat.add_zero] at hq, l0, g0⟩

def rd_L6 (xs : List (List Int)) (i : Int) : (List Int) := xs.getD i.toNat ([] : List Int)
theorem at_L6 {w : World} {A : Option Addr} {n : Nat} {xs : List (List Int)} (h : Kd.C (Kd.slice 3 (Kd.int .i64)) w A n xs) (i : Int) (h0 : 0 ≤ i) (h1 : i < n) : ∃ ad A0 c0, A = some ad ∧ w.cell? (ad.add i.toNat) = some (.slice A0 (rd_L6 xs i).length c0) ∧ (rd_L6 xs i).length ≤ c0 ∧ (Kd.int .i64).C w A0 (rd_L6 xs i).length (rd_L6 xs i) := by
  obtain ⟨ad, c, e, _, hK, hc0⟩ := Kd.C_get h ([] : List Int) i h0 h1
  have hc : ∀ j u, c[j]? = some u → w.cell? (ad.add (i.toNat * 1 + j)) = some u := hc0
  obtain ⟨A0, c0, rfl, l0, g0⟩ := hK
  exact ⟨ad, A0, c0, e, by have hq := hc 0 _ rfl; rwa [Nat.mul_one, Nat.add_zero] at hq, l0, g0⟩

/-! #### struct type 135 -/
structure S135 where
  f0 : S25
  f1 : S25
def z135 : S135 := ⟨z25, z25⟩
def k135 : Kd S135 := Kd.iso (Kd.pair k25 k25) (fun x : S135 => (x.f0, x.f1))
theorem k135_heap : Kd.Heap k135 := Kd.heap_iso _ (Kd.heap_pair k25_heap k25_heap)
theorem k135_open {w : World} {x : S135} {cs : List Value} (h : k135.K w x cs) : ∃ A1 c1 A3 c3, cs = [.int .i64 x.f0.f0, .slice A1 x.f0.f1.length c1, .int .i64 x.f1.f0, .slice A3 x.f1.f1.length c3] ∧ x.f0.f1.length ≤ c1 ∧ k25.C w A1 x.f0.f1.length x.f0.f1 ∧ x.f1.f1.length ≤ c3 ∧ k25.C w A3 x.f1.f1.length x.f1.f1 := by
  obtain ⟨_, _, rfl, s0, s2⟩ := h
  obtain ⟨A1, c1, rfl, l1, g1⟩ := k25_open s0
  obtain ⟨A3, c3, rfl, l3, g3⟩ := k25_open s2
  exact ⟨A1, c1, A3, c3, rfl, l1, g1, l3, g3⟩
theorem k135_openM {w : World} {base : Nat} {ok : Nat → Prop} {x : S135} {cs : List Value} (h : k135.M w base ok x cs) : ∃ v1 v3, cs = [.int .i64 x.f0.f0, v1, .int .i64 x.f1.f0, v3] ∧ k25.R 25 w base ok v1 x.f0.f1 ∧ k25.R 25 w base ok v3 x.f1.f1 := by
  obtain ⟨_, _, rfl, s0, s2⟩ := h
  obtain ⟨v1, rfl, g1⟩ := k25_openM s0
  obtain ⟨v3, rfl, g3⟩ := k25_openM s2
  exact ⟨v1, v3, rfl, g1, g3⟩
theorem k135_mk (w : World) (x : S135) {A1 : Option Addr} {c1 : Nat} (l1 : x.f0.f1.length ≤ c1) (g1 : k25.C w A1 x.f0.f1.length x.f0.f1) {A3 : Option Addr} {c3 : Nat} (l3 : x.f1.f1.length ≤ c3) (g3 : k25.C w A3 x.f1.f1.length x.f1.f1) : k135.K w x [.int .i64 x.f0.f0, .slice A1 x.f0.f1.length c1, .int .i64 x.f1.f0, .slice A3 x.f1.f1.length c3] := ⟨[.int .i64 x.f0.f0, .slice A1 x.f0.f1.length c1], [.int .i64 x.f1.f0, .slice A3 x.f1.f1.length c3], rfl, (k25_mk w x.f0 l1 g1), (k25_mk w x.f1 l3 g3)⟩
theorem k135_mkM (w : World) (base : Nat) (ok : Nat → Prop) (x : S135) {v1 : Value} (g1 : k25.R 25 w base ok v1 x.f0.f1) {v3 : Value} (g3 : k25.R 25 w base ok v3 x.f1.f1) : k135.M w base ok x [.int .i64 x.f0.f0, v1, .int .i64 x.f1.f0, v3] := ⟨[.int .i64 x.f0.f0, v1], [.int .i64 x.f1.f0, v3], rfl, (k25_mkM w base ok x.f0 g1), (k25_mkM w base ok x.f1 g3)⟩
theorem k135_openF {W : World} {ok : Nat → Prop} {x : S135} {cs : List Value} (h : Kd.FK k135 W ok x cs) : ∃ A1 c1 A3 c3, cs = [.int .i64 x.f0.f0, .slice A1 x.f0.f1.length c1, .int .i64 x.f1.f0, .slice A3 x.f1.f1.length c3] ∧ x.f0.f1.length ≤ c1 ∧ Kd.F k25 W ok A1 x.f0.f1.length x.f0.f1 ∧ x.f1.f1.length ≤ c3 ∧ Kd.F k25 W ok A3 x.f1.f1.length x.f1.f1 := by
  obtain ⟨A1, c1, A3, c3, rfl, l1, _, l3, _⟩ := k135_open (Kd.FK_now h)
  exact ⟨A1, c1, A3, c3, rfl, l1, (fun W' hW => by obtain ⟨A1_, c1_, A3_, c3_, he, l1_, g1_, l3_, g3_⟩ := k135_open (h W' hW); injection (Option.some.inj (show some (Value.slice A1 x.f0.f1.length c1) = some (Value.slice A1_ x.f0.f1.length c1_) from congrArg (fun l => l[1]?) he)) with ha_ _ _; rw [ha_]; exact g1_), l3, (fun W' hW => by obtain ⟨A1_, c1_, A3_, c3_, he, l1_, g1_, l3_, g3_⟩ := k135_open (h W' hW); injection (Option.some.inj (show some (Value.slice A3 x.f1.f1.length c3) = some (Value.slice A3_ x.f1.f1.length c3_) from congrArg (fun l => l[3]?) he)) with ha_ _ _; rw [ha_]; exact g3_)⟩
theorem k135_mkF (W : World) (ok : Nat → Prop) (x : S135) {A1 : Option Addr} {c1 : Nat} (l1 : x.f0.f1.length ≤ c1) (g1 : Kd.F k25 W ok A1 x.f0.f1.length x.f0.f1) {A3 : Option Addr} {c3 : Nat} (l3 : x.f1.f1.length ≤ c3) (g3 : Kd.F k25 W ok A3 x.f1.f1.length x.f1.f1) : Kd.FK k135 W ok x [.int .i64 x.f0.f0, .slice A1 x.f0.f1.length c1, .int .i64 x.f1.f0, .slice A3 x.f1.f1.length c3] := fun W2 hW => k135_mk W2 x l1 (g1 W2 hW) l3 (g3 W2 hW)
def rd_T135 (xs : List S135) (i : Int) : S135 := xs.getD i.toNat z135
theorem at_T135 {w : World} {A : Option Addr} {n : Nat} {xs : List S135} (h : Kd.C k135 w A n xs) (i : Int) (h0 : 0 ≤ i) (h1 : i < n) : ∃ ad A1 c1 A3 c3, A = some ad ∧ w.cell? (ad.add (i.toNat * 4)) = some (.int .i64 (rd_T135 xs i).f0.f0) ∧ w.cell? ⟨(ad.add (i.toNat * 4)).block, (ad.add (i.toNat * 4)).off + 1, none⟩ = some (.slice A1 (rd_T135 xs i).f0.f1.length c1) ∧ w.cell? ⟨(ad.add (i.toNat * 4)).block, (ad.add (i.toNat * 4)).off + 2, none⟩ = some (.int .i64 (rd_T135 xs i).f1.f0) ∧ w.cell? ⟨(ad.add (i.toNat * 4)).block, (ad.add (i.toNat * 4)).off + 3, none⟩ = some (.slice A3 (rd_T135 xs i).f1.f1.length c3) ∧ (rd_T135 xs i).f0.f1.length ≤ c1 ∧ k25.C w A1 (rd_T135 xs i).f0.f1.length (rd_T135 xs i).f0.f1 ∧ (rd_T135 xs i).f1.f1.length ≤ c3 ∧ k25.C w A3 (rd_T135 xs i).f1.f1.length (rd_T135 xs i).f1.f1 := by
  obtain ⟨ad, c, e, _, hK, hc0⟩ := Kd.C_get h z135 i h0 h1
  have hc : ∀ j u, c[j]? = some u → w.cell? (ad.add (i.toNat * 4 + j)) = some u := hc0
  obtain ⟨A1, c1, A3, c3, rfl, l1, g1, l3, g3⟩ := k135_open hK
  exact ⟨ad, A1, c1, A3, c3, e, hc 0 _ rfl, by rw [← add_field _ _ 1 (by omega)]; exact hc 1 _ rfl, by rw [← add_field _ _ 2 (by omega)]; exact hc 2 _ rfl, by rw [← add_field _ _ 3 (by omega)]; exact hc 3 _ rfl, l1, g1, l3, g3⟩

/-! #### struct type 148 -/
structure S148 where
  f0 : ByteArray
  f1 : Int
  f2 : Int
  f3 : Bool
def z148 : S148 := ⟨(⟨#[]⟩ : ByteArray), (0 : Int), (0 : Int), false⟩
def k148 : Kd S148 := Kd.iso (Kd.pair Kd.string (Kd.pair (Kd.int .i64) (Kd.pair (Kd.int .i64) Kd.bool))) (fun x : S148 => (x.f0, x.f1, x.f2, x.f3))
theorem k148_heap : Kd.Heap k148 := Kd.heap_iso _ (Kd.heap_pair Kd.heap_string (Kd.heap_pair (Kd.heap_int .i64) (Kd.heap_pair (Kd.heap_int .i64) Kd.heap_bool)))
theorem k148_open {w : World} {x : S148} {cs : List Value} (h : k148.K w x cs) : cs = [.string x.f0, .int .i64 x.f1, .int .i64 x.f2, .bool x.f3] := by
  obtain ⟨_, _, rfl, rfl, ⟨_, _, rfl, rfl, ⟨_, _, rfl, rfl, rfl⟩⟩⟩ := h
  exact rfl
theorem k148_openM {w : World} {base : Nat} {ok : Nat → Prop} {x : S148} {cs : List Value} (h : k148.M w base ok x cs) : cs = [.string x.f0, .int .i64 x.f1, .int .i64 x.f2, .bool x.f3] := by
  obtain ⟨_, _, rfl, rfl, ⟨_, _, rfl, rfl, ⟨_, _, rfl, rfl, rfl⟩⟩⟩ := h
  exact rfl
theorem k148_mk (w : World) (x : S148)  : k148.K w x [.string x.f0, .int .i64 x.f1, .int .i64 x.f2, .bool x.f3] := ⟨[.string x.f0], [.int .i64 x.f1, .int .i64 x.f2, .bool x.f3], rfl, rfl, ⟨[.int .i64 x.f1], [.int .i64 x.f2, .bool x.f3], rfl, rfl, ⟨[.int .i64 x.f2], [.bool x.f3], rfl, rfl, rfl⟩⟩⟩
theorem k148_mkM (w : World) (base : Nat) (ok : Nat → Prop) (x : S148)  : k148.M w base ok x [.string x.f0, .int .i64 x.f1, .int .i64 x.f2, .bool x.f3] := ⟨[.string x.f0], [.int .i64 x.f1, .int .i64 x.f2, .bool x.f3], rfl, rfl, ⟨[.int .i64 x.f1], [.int .i64 x.f2, .bool x.f3], rfl, rfl, ⟨[.int .i64 x.f2], [.bool x.f3], rfl, rfl, rfl⟩⟩⟩
theorem k148_mkF (W : World) (ok : Nat → Prop) (x : S148) : Kd.FK k148 W ok x [.string x.f0, .int .i64 x.f1, .int .i64 x.f2, .bool x.f3] := fun W2 _ => k148_mk W2 x
def rd_T148 (xs : List S148) (i : Int) : S148 := xs.getD i.toNat z148
theorem at_T148 {w : World} {A : Option Addr} {n : Nat} {xs : List S148} (h : Kd.C k148 w A n xs) (i : Int) (h0 : 0 ≤ i) (h1 : i < n) : ∃ ad , A = some ad ∧ w.cell? (ad.add (i.toNat * 4)) = some (.string (rd_T148 xs i).f0) ∧ w.cell? ⟨(ad.add (i.toNat * 4)).block, (ad.add (i.toNat * 4)).off + 1, none⟩ = some (.int .i64 (rd_T148 xs i).f1) ∧ w.cell? ⟨(ad.add (i.toNat * 4)).block, (ad.add (i.toNat * 4)).off + 2, none⟩ = some (.int .i64 (rd_T148 xs i).f2) ∧ w.cell? ⟨(ad.add (i.toNat * 4)).block, (ad.add (i.toNat * 4)).off + 3, none⟩ = some (.bool (rd_T148 xs i).f3) := by
  obtain ⟨ad, c, e, _, hK, hc0⟩ := Kd.C_get h z148 i h0 h1
  have hc : ∀ j u, c[j]? = some u → w.cell? (ad.add (i.toNat * 4 + j)) = some u := hc0
  obtain rfl := k148_open hK
  exact ⟨ad, e, hc 0 _ rfl, by rw [← add_field _ _ 1 (by omega)]; exact hc 1 _ rfl, by rw [← add_field _ _ 2 (by omega)]; exact hc 2 _ rfl, by rw [← add_field _ _ 3 (by omega)]; exact hc 3 _ rfl⟩

/-! #### struct type 142 -/
structure S142 where
  f0 : Bool
  f1 : S25
  f2 : S25
def z142 : S142 := ⟨false, z25, z25⟩
def k142 : Kd S142 := Kd.iso (Kd.pair Kd.bool (Kd.pair k25 k25)) (fun x : S142 => (x.f0, x.f1, x.f2))
theorem k142_heap : Kd.Heap k142 := Kd.heap_iso _ (Kd.heap_pair Kd.heap_bool (Kd.heap_pair k25_heap k25_heap))
theorem k142_open {w : World} {x : S142} {cs : List Value} (h : k142.K w x cs) : ∃ A2 c2 A4 c4, cs = [.bool x.f0, .int .i64 x.f1.f0, .slice A2 x.f1.f1.length c2, .int .i64 x.f2.f0, .slice A4 x.f2.f1.length c4] ∧ x.f1.f1.length ≤ c2 ∧ k25.C w A2 x.f1.f1.length x.f1.f1 ∧ x.f2.f1.length ≤ c4 ∧ k25.C w A4 x.f2.f1.length x.f2.f1 := by
  obtain ⟨_, _, rfl, rfl, ⟨_, _, rfl, s1, s3⟩⟩ := h
  obtain ⟨A2, c2, rfl, l2, g2⟩ := k25_open s1
  obtain ⟨A4, c4, rfl, l4, g4⟩ := k25_open s3
  exact ⟨A2, c2, A4, c4, rfl, l2, g2, l4, g4⟩
theorem k142_openM {w : World} {base : Nat} {ok : Nat → Prop} {x : S142} {cs : List Value} (h : k142.M w base ok x cs) : ∃ v2 v4, cs = [.bool x.f0, .int .i64 x.f1.f0, v2, .int .i64 x.f2.f0, v4] ∧ k25.R 25 w base ok v2 x.f1.f1 ∧ k25.R 25 w base ok v4 x.f2.f1 := by
  obtain ⟨_, _, rfl, rfl, ⟨_, _, rfl, s1, s3⟩⟩ := h
  obtain ⟨v2, rfl, g2⟩ := k25_openM s1
  obtain ⟨v4, rfl, g4⟩ := k25_openM s3
  exact ⟨v2, v4, rfl, g2, g4⟩
theorem k142_mk (w : World) (x : S142) {A2 : Option Addr} {c2 : Nat} (l2 : x.f1.f1.length ≤ c2) (g2 : k25.C w A2 x.f1.f1.length x.f1.f1) {A4 : Option Addr} {c4 : Nat} (l4 : x.f2.f1.length ≤ c4) (g4 : k25.C w A4 x.f2.f1.length x.f2.f1) : k142.K w x [.bool x.f0, .int .i64 x.f1.f0, .slice A2 x.f1.f1.length c2, .int .i64 x.f2.f0, .slice A4 x.f2.f1.length c4] := ⟨[.bool x.f0], [.int .i64 x.f1.f0, .slice A2 x.f1.f1.length c2, .int .i64 x.f2.f0, .slice A4 x.f2.f1.length c4], rfl, rfl, ⟨[.int .i64 x.f1.f0, .slice A2 x.f1.f1.length c2], [.int .i64 x.f2.f0, .slice A4 x.f2.f1.length c4], rfl, (k25_mk w x.f1 l2 g2), (k25_mk w x.f2 l4 g4)⟩⟩
theorem k142_mkM (w : World) (base : Nat) (ok : Nat → Prop) (x : S142) {v2 : Value} (g2 : k25.R 25 w base ok v2 x.f1.f1) {v4 : Value} (g4 : k25.R 25 w base ok v4 x.f2.f1) : k142.M w base ok x [.bool x.f0, .int .i64 x.f1.f0, v2, .int .i64 x.f2.f0, v4] := ⟨[.bool x.f0], [.int .i64 x.f1.f0, v2, .int .i64 x.f2.f0, v4], rfl, rfl, ⟨[.int .i64 x.f1.f0, v2], [.int .i64 x.f2.f0, v4], rfl, (k25_mkM w base ok x.f1 g2), (k25_mkM w base ok x.f2 g4)⟩⟩
theorem k142_openF {W : World} {ok : Nat → Prop} {x : S142} {cs : List Value} (h : Kd.FK k142 W ok x cs) : ∃ A2 c2 A4 c4, cs = [.bool x.f0, .int .i64 x.f1.f0, .slice A2 x.f1.f1.length c2, .int .i64 x.f2.f0, .slice A4 x.f2.f1.length c4] ∧ x.f1.f1.length ≤ c2 ∧ Kd.F k25 W ok A2 x.f1.f1.length x.f1.f1 ∧ x.f2.f1.length ≤ c4 ∧ Kd.F k25 W ok A4 x.f2.f1.length x.f2.f1 := by
  obtain ⟨A2, c2, A4, c4, rfl, l2, _, l4, _⟩ := k142_open (Kd.FK_now h)
  exact ⟨A2, c2, A4, c4, rfl, l2, (fun W' hW => by obtain ⟨A2_, c2_, A4_, c4_, he, l2_, g2_, l4_, g4_⟩ := k142_open (h W' hW); injection (Option.some.inj (show some (Value.slice A2 x.f1.f1.length c2) = some (Value.slice A2_ x.f1.f1.length c2_) from congrArg (fun l => l[2]?) he)) with ha_ _ _; rw [ha_]; exact g2_), l4, (fun W' hW => by obtain ⟨A2_, c2_, A4_, c4_, he, l2_, g2_, l4_, g4_⟩ := k142_open (h W' hW); injection (Option.some.inj (show some (Value.slice A4 x.f2.f1.length c4) = some (Value.slice A4_ x.f2.f1.length c4_) from congrArg (fun l => l[4]?) he)) with ha_ _ _; rw [ha_]; exact g4_)⟩
theorem k142_mkF (W : World) (ok : Nat → Prop) (x : S142) {A2 : Option Addr} {c2 : Nat} (l2 : x.f1.f1.length ≤ c2) (g2 : Kd.F k25 W ok A2 x.f1.f1.length x.f1.f1) {A4 : Option Addr} {c4 : Nat} (l4 : x.f2.f1.length ≤ c4) (g4 : Kd.F k25 W ok A4 x.f2.f1.length x.f2.f1) : Kd.FK k142 W ok x [.bool x.f0, .int .i64 x.f1.f0, .slice A2 x.f1.f1.length c2, .int .i64 x.f2.f0, .slice A4 x.f2.f1.length c4] := fun W2 hW => k142_mk W2 x l2 (g2 W2 hW) l4 (g4 W2 hW)
def rd_T142 (xs : List S142) (i : Int) : S142 := xs.getD i.toNat z142
theorem at_T142 {w : World} {A : Option Addr} {n : Nat} {xs : List S142} (h : Kd.C k142 w A n xs) (i : Int) (h0 : 0 ≤ i) (h1 : i < n) : ∃ ad A2 c2 A4 c4, A = some ad ∧ w.cell? (ad.add (i.toNat * 5)) = some (.bool (rd_T142 xs i).f0) ∧ w.cell? ⟨(ad.add (i.toNat * 5)).block, (ad.add (i.toNat * 5)).off + 1, none⟩ = some (.int .i64 (rd_T142 xs i).f1.f0) ∧ w.cell? ⟨(ad.add (i.toNat * 5)).block, (ad.add (i.toNat * 5)).off + 2, none⟩ = some (.slice A2 (rd_T142 xs i).f1.f1.length c2) ∧ w.cell? ⟨(ad.add (i.toNat * 5)).block, (ad.add (i.toNat * 5)).off + 3, none⟩ = some (.int .i64 (rd_T142 xs i).f2.f0) ∧ w.cell? ⟨(ad.add (i.toNat * 5)).block, (ad.add (i.toNat * 5)).off + 4, none⟩ = some (.slice A4 (rd_T142 xs i).f2.f1.length c4) ∧ (rd_T142 xs i).f1.f1.length ≤ c2 ∧ k25.C w A2 (rd_T142 xs i).f1.f1.length (rd_T142 xs i).f1.f1 ∧ (rd_T142 xs i).f2.f1.length ≤ c4 ∧ k25.C w A4 (rd_T142 xs i).f2.f1.length (rd_T142 xs i).f2.f1 := by
  obtain ⟨ad, c, e, _, hK, hc0⟩ := Kd.C_get h z142 i h0 h1
  have hc : ∀ j u, c[j]? = some u → w.cell? (ad.add (i.toNat * 5 + j)) = some u := hc0
  obtain ⟨A2, c2, A4, c4, rfl, l2, g2, l4, g4⟩ := k142_open hK
  exact ⟨ad, A2, c2, A4, c4, e, hc 0 _ rfl, by rw [← add_field _ _ 1 (by omega)]; exact hc 1 _ rfl, by rw [← add_field _ _ 2 (by omega)]; exact hc 2 _ rfl, by rw [← add_field _ _ 3 (by omega)]; exact hc 3 _ rfl, by rw [← add_field _ _ 4 (by omega)]; exact hc 4 _ rfl, l2, g2, l4, g4⟩

def rd_L11 (xs : List (List S148)) (i : Int) : (List S148) := xs.getD i.toNat ([] : List S148)
theorem at_L11 {w : World} {A : Option Addr} {n : Nat} {xs : List (List S148)} (h : Kd.C (Kd.slice 148 k148) w A n xs) (i : Int) (h0 : 0 ≤ i) (h1 : i < n) : ∃ ad A0 c0, A = some ad ∧ w.cell? (ad.add i.toNat) = some (.slice A0 (rd_L11 xs i).length c0) ∧ (rd_L11 xs i).length ≤ c0 ∧ k148.C w A0 (rd_L11 xs i).length (rd_L11 xs i) := by
  obtain ⟨ad, c, e, _, hK, hc0⟩ := Kd.C_get h ([] : List S148) i h0 h1
  have hc : ∀ j u, c[j]? = some u → w.cell? (ad.add (i.toNat * 1 + j)) = some u := hc0
  obtain ⟨A0, c0, rfl, l0, g0⟩ := hK
  exact ⟨ad, A0, c0, e, by have hq := hc 0 _ rfl; rwa [Nat.mul_one, Nat.add_zero] at hq, l0, g0⟩

def rd_L12 (xs : List (List S142)) (i : Int) : (List S142) := xs.getD i.toNat ([] : List S142)
theorem at_L12 {w : World} {A : Option Addr} {n : Nat} {xs : List (List S142)} (h : Kd.C (Kd.slice 142 k142) w A n xs) (i : Int) (h0 : 0 ≤ i) (h1 : i < n) : ∃ ad A0 c0, A = some ad ∧ w.cell? (ad.add i.toNat) = some (.slice A0 (rd_L12 xs i).length c0) ∧ (rd_L12 xs i).length ≤ c0 ∧ k142.C w A0 (rd_L12 xs i).length (rd_L12 xs i) := by
  obtain ⟨ad, c, e, _, hK, hc0⟩ := Kd.C_get h ([] : List S142) i h0 h1
  have hc : ∀ j u, c[j]? = some u → w.cell? (ad.add (i.toNat * 1 + j)) = some u := hc0
  obtain ⟨A0, c0, rfl, l0, g0⟩ := hK
  exact ⟨ad, A0, c0, e, by have hq := hc 0 _ rfl; rwa [Nat.mul_one, Nat.add_zero] at hq, l0, g0⟩

end Go.Proofs.Ythplndalbfcbbaa.PA
/- The document's example of layer 5, in the printed functions' form. -/
set_option linter.unusedVariables false
namespace Go.Proofs.Ythplndalbfcbbaa.PA
open Go.RowKit Go.Proofs.YthplndalbfcbbaaW.PrintWords
def elenchuslaw05_awake.f : Option (Bool) := some true
theorem elenchuslaw05_awake.calls (r : Bool) (w : World) (h : elenchuslaw05_awake.f = some r) :
    Calls Try.prog 44 #[] w fun e w' => e = .returned (.bool r) ∧ Below w.heap.size w w' := by
  cases h
  exact awake5_calls w
end Go.Proofs.Ythplndalbfcbbaa.PA
/- Terms, binds and numbers as the printed functions have them. -/
set_option linter.unusedSimpArgs false
set_option linter.unusedVariables false
namespace Go.Proofs.Ythplndalbfcbbaa
open Go.RowKit Go.Proofs.YthplndalbfcbbaaW.PrintWords

abbrev TS := PA.S25
abbrev BS := PA.S60
abbrev kT := PA.k25
abbrev kB := PA.k60
mutual
def toS : Tm → TS
  | .node h l => ⟨h, toSL l⟩
def toSL : List Tm → List TS
  | [] => []
  | t :: ts => toS t :: toSL ts
end
mutual
def ofS : TS → Tm
  | ⟨h, l⟩ => .node h (ofSL l)
def ofSL : List TS → List Tm
  | [] => []
  | x :: xs => ofS x :: ofSL xs
end
mutual
theorem ofS_toS : ∀ t : Tm, ofS (toS t) = t
  | .node h l => by simp only [toS, ofS, ofSL_toSL l]
theorem ofSL_toSL : ∀ l : List Tm, ofSL (toSL l) = l
  | [] => rfl
  | t :: ts => by simp only [toSL, ofSL, ofS_toS t, ofSL_toSL ts]
end
mutual
theorem toS_ofS : ∀ x : TS, toS (ofS x) = x
  | ⟨h, l⟩ => by simp only [toS, ofS, toSL_ofSL l]
theorem toSL_ofSL : ∀ l : List TS, toSL (ofSL l) = l
  | [] => rfl
  | x :: xs => by simp only [toSL, ofSL, toS_ofS x, toSL_ofSL xs]
end
theorem toSL_map (l : List Tm) : toSL l = l.map toS := by induction l <;> simp_all [toSL]
theorem ofSL_map (l : List TS) : ofSL l = l.map ofS := by induction l <;> simp_all [ofSL]
theorem toSL_length (l : List Tm) : (toSL l).length = l.length := by rw [toSL_map]; simp
theorem ofSL_length (l : List TS) : (ofSL l).length = l.length := by rw [ofSL_map]; simp
theorem toS_f0 (t : Tm) : (toS t).f0 = t.h := by cases t; rfl
theorem toS_f1 (t : Tm) : (toS t).f1 = toSL t.args := by cases t; rfl
theorem ofS_h (x : TS) : (ofS x).h = x.f0 := by cases x; rfl
theorem ofS_args (x : TS) : (ofS x).args = ofSL x.f1 := by cases x; rfl
theorem add_flat (b off k : Nat) : (⟨b, off, none⟩ : Addr).add k = ⟨b, off + k, none⟩ := by unfold Addr.add; split <;> simp_all

/-! ### From what is laid to what the prints read -/
mutual
theorem k_of {A : Nat → Prop} {w : World} : ∀ (t : Tm) (cs : List Value), RepD A w t.d cs → kT.K w (toS t) cs
  | .node h l, cs, hr => by
    obtain ⟨s, rfl, hs⟩ := repTm.1 hr
    have hs' : RepD A w (.row 2 (Tm.ds l)) [s] := hs
    simp only [RepD] at hs'
    obtain ⟨a, n, c, h1, h2, h3, h4, h5⟩ := hs'
    simp only [List.cons.injEq, and_true] at h1
    subst h1
    have hn : n = (toSL l).length := by rw [h2, Tm.ds_eq, toSL_length]; simp
    subst hn
    refine PA.k25_mk w (toS (.node h l)) (A1 := a) (c1 := c) h3 ⟨rfl, h4, fun h0 => ?_⟩
    obtain ⟨b, off, rfl, hb, hA, hR⟩ := h5 h0
    exact ⟨_, rfl, fun j p hp => by
      obtain ⟨c1, e1, e2, e3⟩ := kr_of l off hR j p hp
      exact ⟨c1, e1, e2, fun i u hu => by rw [add_flat, ← Nat.add_assoc]; exact e3 i u hu⟩⟩
theorem kr_of {A : Nat → Prop} {w : World} {b : Nat} : ∀ (l : List Tm) (off : Nat), RepR A w b 2 off (Tm.ds l) → ∀ j p, (toSL l)[j]? = some p → ∃ c : List Value, c.length = 2 ∧ kT.K w p c ∧ ∀ i u, c[i]? = some u → w.cell? ⟨b, off + j * 2 + i, none⟩ = some u
  | [], _, _, j, p, hp => by simp [toSL] at hp
  | t :: ts, off, h, j, p, hp => by
    simp only [Tm.ds, RepR] at h
    obtain ⟨⟨cs, e1, e2, e3⟩, h2⟩ := h
    cases j with
    | zero =>
      simp only [toSL, List.getElem?_cons_zero, Option.some.injEq] at hp
      subst hp
      refine ⟨cs, e1, k_of t cs e3, fun i u hu => ?_⟩
      have hi : i < 2 := by have := (List.getElem?_eq_some_iff.1 hu).1; omega
      rw [show off + 0 * 2 + i = off + i by omega, e2 i hi, hu]
    | succ j =>
      simp only [toSL, List.getElem?_cons_succ] at hp
      obtain ⟨c1, g1, g2, g3⟩ := kr_of ts (off + 2) h2 j p hp
      exact ⟨c1, g1, g2, fun i u hu => by rw [show off + (j + 1) * 2 + i = off + 2 + j * 2 + i by omega]; exact g3 i u hu⟩
end
theorem c_of {A : Nat → Prop} {w : World} {a : Option Addr} {n c : Nat} {l : List Tm} (hs : Terms A w (.slice a n c) l) : n = (toSL l).length ∧ (toSL l).length ≤ c ∧ kT.C w a (toSL l).length (toSL l) := by
  have hs' : RepD A w (.row 2 (Tm.ds l)) [.slice a n c] := hs
  simp only [RepD] at hs'
  obtain ⟨a', n', c', h1, h2, h3, h4, h5⟩ := hs'
  simp only [List.cons.injEq, and_true, Value.slice.injEq] at h1
  obtain ⟨rfl, rfl, rfl⟩ := h1
  have hn : n = (toSL l).length := by rw [h2, Tm.ds_eq, toSL_length]; simp
  subst hn
  refine ⟨rfl, h3, rfl, h4, fun h0 => ?_⟩
  obtain ⟨b, off, rfl, hb, hA, hR⟩ := h5 h0
  exact ⟨_, rfl, fun j p hp => by
    obtain ⟨c1, e1, e2, e3⟩ := kr_of l off hR j p hp
    exact ⟨c1, e1, e2, fun i u hu => by rw [add_flat, ← Nat.add_assoc]; exact e3 i u hu⟩⟩
theorem f_of {A ok : Nat → Prop} {w : World} {a : Option Addr} {n c : Nat} {l : List Tm} (hs : Terms A w (.slice a n c) l) (hA : ∀ b, b < w.heap.size → ¬ A b → ok b) : Kd.F kT w ok a (toSL l).length (toSL l) := fun W' hW =>
  (c_of (RepD.frame (B := A) (fun b hb hlt => hW b (hA b hlt hb) hlt) (fun _ _ h => h) _ _ hs : Terms A W' (.slice a n c) l)).2.2
theorem v_of {A ok : Nat → Prop} {w : World} {base e : Nat} {v : Value} {l : List Tm} (hs : Terms A w v l) (hA : ∀ b, b < w.heap.size → ¬ A b → ok b) : Kd.V kT e w base ok v (toSL l) := by
  obtain ⟨a, c, rfl, hc, hm⟩ := hs.shape
  refine ⟨a, c, ?_, by rw [toSL_length]; exact hc, f_of hs hA⟩
  rw [toSL_length]

/-! ### And back -/
theorem plain_of {w : World} {ad : Addr} {u : Value} (h : w.cell? ad = some u) : ad = ⟨ad.block, ad.off, none⟩ ∧ ad.block < w.heap.size := by
  refine ⟨?_, World.block_lt_of_cell? w ad h⟩
  cases ad with
  | mk b o s =>
    cases s with
    | none => rfl
    | some x =>
      unfold World.cell? at h
      split at h
      · simp at h
      · cases h
mutual
theorem tm_of {ok : Nat → Prop} {w : World} : ∀ (x : TS) (cs : List Value), Kd.FK kT w ok x cs → RepD (fun b => ¬ ok b) w (ofS x).d cs
  | ⟨h, l⟩, cs, hf => by
    obtain ⟨A1, c1, rfl, l1, g1⟩ := PA.k25_openF hf
    refine repTm.2 ⟨_, rfl, ?_⟩
    show RepD _ w (.row 2 (Tm.ds (ofSL l))) _
    simp only [RepD]
    refine ⟨A1, l.length, c1, rfl, by rw [Tm.ds_eq, List.length_map, ofSL_length], l1, Kd.F_max g1, fun h0 => ?_⟩
    obtain ⟨ad, c0, rfl, e1, _, e2, e3⟩ := Kd.F_get g1 PA.z25 0 (by omega) (by show (0 : Int) < (l.length : Int); omega)
    have hc0 : c0.length = 2 := e1
    have hcell := e2 0 (c0[0]'(by omega)) (List.getElem?_eq_getElem (by omega))
    obtain ⟨hp, hlt⟩ := plain_of (show w.cell? ad = some (c0[0]'(by omega)) from hcell)
    refine ⟨ad.block, ad.off, by rw [← hp], hlt, fun hn => hn (e3 (by show 0 < 2; omega)), tr_of l ad.off fun j p hj => ?_⟩
    have hjl := (List.getElem?_eq_some_iff.1 hj).1
    obtain ⟨ad', cs, he, g2, g3, g4, _⟩ := Kd.F_get g1 PA.z25 j (by omega) (by show (j : Int) < (l.length : Int); omega)
    simp only [Option.some.injEq] at he
    subst he
    have hx : l.getD (j : Int).toNat PA.z25 = p := by simp [List.getD_eq_getElem?_getD, hj]
    have g3' : Kd.FK kT w ok (l.getD (j : Int).toNat PA.z25) cs := g3
    rw [hx] at g3'
    refine ⟨cs, g2, g3', fun i u hu => ?_⟩
    have := g4 i u hu
    rw [hp, add_flat] at this
    rw [show ad.off + j * 2 + i = ad.off + ((j : Int).toNat * 2 + i) by simp; omega]
    exact this
theorem tr_of {ok : Nat → Prop} {w : World} {b : Nat} : ∀ (l : List TS) (off : Nat), (∀ j p, l[j]? = some p → ∃ cs : List Value, cs.length = 2 ∧ Kd.FK kT w ok p cs ∧ ∀ i u, cs[i]? = some u → w.cell? ⟨b, off + j * 2 + i, none⟩ = some u) → RepR (fun b => ¬ ok b) w b 2 off (Tm.ds (ofSL l))
  | [], _, _ => by simp only [ofSL, Tm.ds, RepR]
  | x :: xs, off, h => by
    simp only [ofSL, Tm.ds, RepR]
    obtain ⟨cs, e1, e2, e3⟩ := h 0 x rfl
    refine ⟨⟨cs, e1, fun i hi => ?_, tm_of x cs e2⟩, tr_of xs (off + 2) fun j p hj => ?_⟩
    · have := e3 i (cs[i]'(by omega)) (List.getElem?_eq_getElem (by omega))
      rw [show off + 0 * 2 + i = off + i by omega] at this
      rw [this, List.getElem?_eq_getElem (by omega)]
    · obtain ⟨c1, g1, g2, g3⟩ := h (j + 1) p (by simpa using hj)
      exact ⟨c1, g1, g2, fun i u hu => by rw [show off + 2 + j * 2 + i = off + (j + 1) * 2 + i by omega]; exact g3 i u hu⟩
end
theorem terms_of {ok : Nat → Prop} {w : World} {a : Option Addr} {c : Nat} {l : List TS} (hc : l.length ≤ c) (hf : Kd.F kT w ok a l.length l) : Terms (fun b => ¬ ok b) w (.slice a l.length c) (ofSL l) := by
  have h : Kd.FK kT w ok (⟨0, l⟩ : TS) [.int .i64 0, .slice a l.length c] := PA.k25_mkF w ok ⟨0, l⟩ hc hf
  have h2 := tm_of _ _ h
  obtain ⟨s, e, h3⟩ := repTm.1 h2
  simp only [List.cons.injEq, and_true] at e
  rw [e.2]; exact h3
theorem terms_of_c {w : World} {a : Option Addr} {c : Nat} {l : List TS} (hc : l.length ≤ c) (h : kT.C w a l.length l) : Terms (fun _ => False) w (.slice a l.length c) (ofSL l) :=
  RepD.frame (A := fun b => ¬ (b < w.heap.size)) (B := fun _ => False) (fun _ _ _ => rfl) (fun _ _ h => h.elim) _ _ (terms_of hc (Kd.C_F PA.k25_heap h))
theorem terms_of_v {ok : Nat → Prop} {w : World} {base e : Nat} {a : Option Addr} {n c : Nat} {l : List TS} (h : Kd.V kT e w base ok (.slice a n c) l) : Terms (fun b => ¬ ok b) w (.slice a n c) (ofSL l) := by
  obtain ⟨a', c', e', hc, hf⟩ := h
  simp only [Value.slice.injEq] at e'
  obtain ⟨rfl, rfl, rfl⟩ := e'
  exact terms_of hc hf

/-! ### Binds -/
def toB (b : Bd) : BS := ⟨b.v, toS b.t⟩
def ofB (x : BS) : Bd := ⟨x.f0, ofS x.f1⟩
def toBL (l : List Bd) : List BS := l.map toB
def ofBL (l : List BS) : List Bd := l.map ofB
theorem ofB_toB (b : Bd) : ofB (toB b) = b := by cases b; simp [toB, ofB, ofS_toS]
theorem toB_ofB (x : BS) : toB (ofB x) = x := by cases x; simp [toB, ofB, toS_ofS]
theorem ofBL_toBL (l : List Bd) : ofBL (toBL l) = l := by simp [ofBL, toBL, ofB_toB, Function.comp_def]
theorem toBL_ofBL (l : List BS) : toBL (ofBL l) = l := by simp [ofBL, toBL, toB_ofB, Function.comp_def]
theorem toBL_length (l : List Bd) : (toBL l).length = l.length := by simp [toBL]
theorem ofBL_length (l : List BS) : (ofBL l).length = l.length := by simp [ofBL]
theorem kb_of {A : Nat → Prop} {w : World} (b : Bd) (cs : List Value) (h : RepD A w b.d cs) : kB.K w (toB b) cs := by
  obtain ⟨s, rfl, hs⟩ := repBd.1 h
  obtain ⟨a, c, rfl, hc, hm⟩ := hs.shape
  have h1 := c_of hs
  have h2 := PA.k60_mk w (toB b) (A2 := a) (c2 := c) (by show (toS b.t).f1.length ≤ c; rw [toS_f1, toSL_length]; exact hc) (by show kT.C w a (toS b.t).f1.length (toS b.t).f1; rw [toS_f1]; exact h1.2.2)
  have e1 : (toB b).f1.f0 = b.t.h := toS_f0 b.t
  have e2 : (toB b).f1.f1.length = b.t.args.length := by show (toS b.t).f1.length = _; rw [toS_f1, toSL_length]
  have e3 : (toB b).f0 = b.v := rfl
  rw [e1, e2, e3] at h2
  exact h2
theorem cb_of {A : Nat → Prop} {w : World} {a : Option Addr} {n c : Nat} {l : List Bd} (hs : Binds A w (.slice a n c) l) : n = (toBL l).length ∧ (toBL l).length ≤ c ∧ kB.C w a (toBL l).length (toBL l) := by
  have hs' : RepD A w (.row 3 (l.map Bd.d)) [.slice a n c] := hs
  simp only [RepD] at hs'
  obtain ⟨a', n', c', h1, h2, h3, h4, h5⟩ := hs'
  simp only [List.cons.injEq, and_true, Value.slice.injEq] at h1
  obtain ⟨rfl, rfl, rfl⟩ := h1
  have hn : n = (toBL l).length := by rw [h2, toBL_length]; simp
  subst hn
  refine ⟨rfl, h3, rfl, h4, fun h0 => ?_⟩
  obtain ⟨b, off, rfl, hb, hA, hR⟩ := h5 h0
  refine ⟨_, rfl, fun j p hp => ?_⟩
  simp only [toBL, List.getElem?_map, Option.map_eq_some_iff] at hp
  obtain ⟨x, hx, rfl⟩ := hp
  have hj : j < (l.map Bd.d).length := by have := (List.getElem?_eq_some_iff.1 hx).1; simpa using this
  obtain ⟨cs, g1, g2, g3⟩ := hR.at j hj
  have hx' : (l.map Bd.d)[j] = x.d := by simp [List.getElem_map, (List.getElem?_eq_some_iff.1 hx).2]
  rw [hx'] at g3
  refine ⟨cs, g1, kb_of x cs g3, fun i u hu => ?_⟩
  have hi : i < 3 := by have := (List.getElem?_eq_some_iff.1 hu).1; omega
  rw [add_flat]
  show w.cell? ⟨b, off + (j * 3 + i), none⟩ = some u
  rw [← Nat.add_assoc, g2 i hi, hu]
theorem fb_of {A ok : Nat → Prop} {w : World} {a : Option Addr} {n c : Nat} {l : List Bd} (hs : Binds A w (.slice a n c) l) (hA : ∀ b, b < w.heap.size → ¬ A b → ok b) : Kd.F kB w ok a (toBL l).length (toBL l) := fun W' hW =>
  (cb_of (RepD.frame (B := A) (fun b hb hlt => hW b (hA b hlt hb) hlt) (fun _ _ h => h) _ _ hs : Binds A W' (.slice a n c) l)).2.2
theorem vb_of {A ok : Nat → Prop} {w : World} {base e : Nat} {v : Value} {l : List Bd} (hs : Binds A w v l) (hA : ∀ b, b < w.heap.size → ¬ A b → ok b) : Kd.V kB e w base ok v (toBL l) := by
  obtain ⟨a, c, rfl, hc, hm⟩ := hs.shape
  refine ⟨a, c, ?_, by rw [toBL_length]; exact hc, fb_of hs hA⟩
  rw [toBL_length]
theorem bd_of {ok : Nat → Prop} {w : World} (x : BS) (cs : List Value) (hf : Kd.FK kB w ok x cs) : RepD (fun b => ¬ ok b) w (ofB x).d cs := by
  obtain ⟨A2, c2, rfl, l2, g2⟩ := PA.k60_openF hf
  refine repBd.2 ⟨.slice A2 x.f1.f1.length c2, ?_, ?_⟩
  · simp only [ofB, ofS_h]
  · show Terms _ w _ (ofS x.f1).args
    rw [ofS_args]; exact terms_of l2 g2
theorem bs_of {ok : Nat → Prop} {w : World} {b : Nat} : ∀ (l : List BS) (off : Nat), (∀ j p, l[j]? = some p → ∃ cs : List Value, cs.length = 3 ∧ Kd.FK kB w ok p cs ∧ ∀ i u, cs[i]? = some u → w.cell? ⟨b, off + j * 3 + i, none⟩ = some u) → RepR (fun b => ¬ ok b) w b 3 off ((ofBL l).map Bd.d)
  | [], _, _ => by simp only [ofBL, List.map_nil, RepR]
  | x :: xs, off, h => by
    simp only [ofBL, List.map_cons, RepR]
    obtain ⟨cs, e1, e2, e3⟩ := h 0 x rfl
    refine ⟨⟨cs, e1, fun i hi => ?_, bd_of x cs e2⟩, bs_of xs (off + 3) fun j p hj => ?_⟩
    · have := e3 i (cs[i]'(by omega)) (List.getElem?_eq_getElem (by omega))
      rw [show off + 0 * 3 + i = off + i by omega] at this
      rw [this, List.getElem?_eq_getElem (by omega)]
    · obtain ⟨c1, g1, g2, g3⟩ := h (j + 1) p (by simpa using hj)
      exact ⟨c1, g1, g2, fun i u hu => by rw [show off + 3 + j * 3 + i = off + (j + 1) * 3 + i by omega]; exact g3 i u hu⟩
theorem binds_of {ok : Nat → Prop} {w : World} {a : Option Addr} {c : Nat} {l : List BS} (hc : l.length ≤ c) (g1 : Kd.F kB w ok a l.length l) : Binds (fun b => ¬ ok b) w (.slice a l.length c) (ofBL l) := by
  show RepD _ w (.row 3 ((ofBL l).map Bd.d)) _
  simp only [RepD]
  refine ⟨a, l.length, c, rfl, by rw [List.length_map, ofBL_length], hc, Kd.F_max g1, fun h0 => ?_⟩
  obtain ⟨ad, c0, rfl, e1, _, e2, e3⟩ := Kd.F_get g1 PA.z60 0 (by omega) (by show (0 : Int) < (l.length : Int); omega)
  have hc0 : c0.length = 3 := e1
  have hcell := e2 0 (c0[0]'(by omega)) (List.getElem?_eq_getElem (by omega))
  obtain ⟨hp, hlt⟩ := plain_of (show w.cell? ad = some (c0[0]'(by omega)) from hcell)
  refine ⟨ad.block, ad.off, by rw [← hp], hlt, fun hn => hn (e3 (by show 0 < 3; omega)), bs_of l ad.off fun j p hj => ?_⟩
  have hjl := (List.getElem?_eq_some_iff.1 hj).1
  obtain ⟨ad', cs, he, g2, g3, g4, _⟩ := Kd.F_get g1 PA.z60 j (by omega) (by show (j : Int) < (l.length : Int); omega)
  simp only [Option.some.injEq] at he
  subst he
  have hx : l.getD (j : Int).toNat PA.z60 = p := by simp [List.getD_eq_getElem?_getD, hj]
  have g3' : Kd.FK kB w ok (l.getD (j : Int).toNat PA.z60) cs := g3
  rw [hx] at g3'
  refine ⟨cs, g2, g3', fun i u hu => ?_⟩
  have := g4 i u hu
  rw [hp, add_flat] at this
  have e4 : ad.off + j * 3 + i = ad.off + ((j : Int).toNat * 3 + i) := by simp; omega
  rw [e4]
  exact this
theorem binds_of_c {w : World} {a : Option Addr} {c : Nat} {l : List BS} (hc : l.length ≤ c) (h : kB.C w a l.length l) : Binds (fun _ => False) w (.slice a l.length c) (ofBL l) :=
  RepD.frame (A := fun b => ¬ (b < w.heap.size)) (B := fun _ => False) (fun _ _ _ => rfl) (fun _ _ h => h.elim) _ _ (binds_of hc (Kd.C_F PA.k60_heap h))
theorem binds_of_v {ok : Nat → Prop} {w : World} {base e : Nat} {a : Option Addr} {n c : Nat} {l : List BS} (h : Kd.V kB e w base ok (.slice a n c) l) : Binds (fun b => ¬ ok b) w (.slice a n c) (ofBL l) := by
  obtain ⟨a', c', e', hc, hf⟩ := h
  simp only [Value.slice.injEq] at e'
  obtain ⟨rfl, rfl, rfl⟩ := e'
  exact binds_of hc hf

/-! ### Numbers -/
theorem ci_of {A : Nat → Prop} {w : World} {a : Option Addr} {n c : Nat} {l : List Int} (hs : Ints A w (.slice a n c) l) : n = l.length ∧ l.length ≤ c ∧ (Kd.int .i64).C w a l.length l := by
  have hs' : RepD A w (.row 1 (l.map intD)) [.slice a n c] := hs
  simp only [RepD] at hs'
  obtain ⟨a', n', c', h1, h2, h3, h4, h5⟩ := hs'
  simp only [List.cons.injEq, and_true, Value.slice.injEq] at h1
  obtain ⟨rfl, rfl, rfl⟩ := h1
  have hn : n = l.length := by rw [h2]; simp
  subst hn
  refine ⟨rfl, h3, rfl, h4, fun h0 => ?_⟩
  obtain ⟨b, off, rfl, hb, hA, hR⟩ := h5 h0
  refine ⟨_, rfl, fun j p hp => ?_⟩
  have hj : j < (l.map intD).length := by have := (List.getElem?_eq_some_iff.1 hp).1; simpa using this
  obtain ⟨cs, g1, g2, g3⟩ := hR.at j hj
  have hx' : (l.map intD)[j] = intD p := by simp [List.getElem_map, (List.getElem?_eq_some_iff.1 hp).2]
  rw [hx'] at g3
  have g3' : cs = [.int .i64 p] := by simpa only [intD, RepD] using g3
  refine ⟨cs, g1, g3', fun i u hu => ?_⟩
  have hi : i < 1 := by have := (List.getElem?_eq_some_iff.1 hu).1; omega
  rw [add_flat]
  show w.cell? ⟨b, off + (j * 1 + i), none⟩ = some u
  rw [← Nat.add_assoc, g2 i hi, hu]
theorem fi_of {A ok : Nat → Prop} {w : World} {a : Option Addr} {n c : Nat} {l : List Int} (hs : Ints A w (.slice a n c) l) (hA : ∀ b, b < w.heap.size → ¬ A b → ok b) : Kd.F (Kd.int .i64) w ok a l.length l := fun W' hW =>
  (ci_of (RepD.frame (B := A) (fun b hb hlt => hW b (hA b hlt hb) hlt) (fun _ _ h => h) _ _ hs : Ints A W' (.slice a n c) l)).2.2
theorem vi_of {A ok : Nat → Prop} {w : World} {base e : Nat} {v : Value} {l : List Int} (hs : Ints A w v l) (hA : ∀ b, b < w.heap.size → ¬ A b → ok b) : Kd.V (Kd.int .i64) e w base ok v l := by
  obtain ⟨a, c, rfl, hc, hm⟩ := hs.shape
  exact ⟨a, c, rfl, hc, fi_of hs hA⟩
theorem is_of {w : World} {b : Nat} : ∀ (l : List Int) (off : Nat) (A : Nat → Prop), (∀ j p, l[j]? = some p → w.cell? ⟨b, off + j, none⟩ = some (.int .i64 p)) → RepR A w b 1 off (l.map intD)
  | [], _, _, _ => by simp only [List.map_nil, RepR]
  | x :: xs, off, A, h => by
    simp only [List.map_cons, RepR]
    refine ⟨⟨[.int .i64 x], rfl, fun i hi => ?_, by simp only [intD, RepD]⟩, is_of xs (off + 1) A fun j p hj => ?_⟩
    · have : i = 0 := by omega
      subst this
      have := h 0 x rfl
      simpa using this
    · have := h (j + 1) p (by simpa using hj)
      rw [show off + 1 + j = off + (j + 1) by omega]; exact this
theorem ints_of {ok : Nat → Prop} {w : World} {a : Option Addr} {c : Nat} {l : List Int} (hc : l.length ≤ c) (g1 : Kd.F (Kd.int .i64) w ok a l.length l) : Ints (fun b => ¬ ok b) w (.slice a l.length c) l := by
  show RepD _ w (.row 1 (l.map intD)) _
  simp only [RepD]
  refine ⟨a, l.length, c, rfl, by rw [List.length_map], hc, Kd.F_max g1, fun h0 => ?_⟩
  obtain ⟨ad, c0, rfl, e1, _, e2, e3⟩ := Kd.F_get g1 0 0 (by omega) (by show (0 : Int) < (l.length : Int); omega)
  have hc0 : c0.length = 1 := e1
  have hcell := e2 0 (c0[0]'(by omega)) (List.getElem?_eq_getElem (by omega))
  obtain ⟨hp, hlt⟩ := plain_of (show w.cell? ad = some (c0[0]'(by omega)) from hcell)
  refine ⟨ad.block, ad.off, by rw [← hp], hlt, fun hn => hn (e3 (by show 0 < 1; omega)), is_of l ad.off _ fun j p hj => ?_⟩
  have hjl := (List.getElem?_eq_some_iff.1 hj).1
  obtain ⟨ad', cs, he, g2, g3, g4, _⟩ := Kd.F_get g1 0 j (by omega) (by show (j : Int) < (l.length : Int); omega)
  simp only [Option.some.injEq] at he
  subst he
  have hx : l.getD (j : Int).toNat 0 = p := by simp [List.getD_eq_getElem?_getD, hj]
  have g3' : cs = [.int .i64 (l.getD (j : Int).toNat 0)] := Kd.FK_now g3
  rw [hx] at g3'
  have := g4 0 (.int .i64 p) (by rw [g3']; rfl)
  rw [hp, add_flat] at this
  have e4 : ad.off + j = ad.off + ((j : Int).toNat * 1 + 0) := by simp
  rw [e4]
  exact this
theorem ints_of_c {w : World} {a : Option Addr} {c : Nat} {l : List Int} (hc : l.length ≤ c) (h : (Kd.int .i64).C w a l.length l) : Ints (fun _ => False) w (.slice a l.length c) l :=
  RepD.frame (A := fun b => ¬ (b < w.heap.size)) (B := fun _ => False) (fun _ _ _ => rfl) (fun _ _ h => h.elim) _ _ (ints_of hc (Kd.C_F (Kd.heap_int .i64) h))
end Go.Proofs.Ythplndalbfcbbaa
/- term.Check, Same, Vars, in the printed functions' form. -/
set_option linter.unusedSimpArgs false
set_option linter.unusedVariables false
namespace Go.Proofs.Ythplndalbfcbbaa
open Go.RowKit Go.Proofs.YthplndalbfcbbaaW.PrintWords

theorem isTm_of_c {w : World} {h : Int} {a : Option Addr} {c : Nat} {l : List TS} (hc : l.length ≤ c) (hr : kT.C w a l.length l) : IsTm (fun _ => False) w h (.slice a l.length c) (ofS ⟨h, l⟩) := by
  refine ⟨rfl, ?_⟩
  exact terms_of_c hc hr
theorem isTm_of_v {ok : Nat → Prop} {w : World} {base e : Nat} {h : Int} {a : Option Addr} {n c : Nat} {l : List TS} (hr : Kd.V kT e w base ok (.slice a n c) l) : IsTm (fun b => ¬ ok b) w h (.slice a n c) (ofS ⟨h, l⟩) := by
  refine ⟨rfl, ?_⟩
  exact terms_of_v hr
namespace PA
def term_Check.f (a0 : Int) (l0 : List TS) : Option Int := if (ofS ⟨a0, l0⟩).size ≤ 1000000000 then some (chk (ofS ⟨a0, l0⟩)) else none
theorem term_Check.calls (a0 : Int) (A0 : Option Addr) (c0 : Nat) (l0 : List TS) (r : Int) (w : World) (hr0 : Kd.C kT w A0 l0.length l0) (hc0 : l0.length ≤ c0) (h : term_Check.f a0 l0 = some r) :
    Calls Try.prog 81 #[.agg #[.int .i64 a0, .slice A0 l0.length c0]] w fun e w' => e = .returned (.int .i64 r) ∧ Below w.heap.size w w' := by
  unfold term_Check.f at h
  split at h
  · rename_i hs
    cases h
    exact check_calls _ _ _ _ w (isTm_of_c hc0 hr0) hs
  · cases h
def term_Same.f (a0 : Int) (l0 : List TS) (a1 : Int) (l1 : List TS) : Option Bool := if (ofS ⟨a0, l0⟩).size ≤ 1000000000 then some (sameB (ofS ⟨a0, l0⟩) (ofS ⟨a1, l1⟩)) else none
theorem term_Same.calls (a0 : Int) (A0 : Option Addr) (c0 : Nat) (l0 : List TS) (a1 : Int) (A1 : Option Addr) (c1 : Nat) (l1 : List TS) (r : Bool) (w : World) (hr0 : Kd.C kT w A0 l0.length l0) (hc0 : l0.length ≤ c0) (hr1 : Kd.C kT w A1 l1.length l1) (hc1 : l1.length ≤ c1) (h : term_Same.f a0 l0 a1 l1 = some r) :
    Calls Try.prog 38 #[.agg #[.int .i64 a0, .slice A0 l0.length c0], .agg #[.int .i64 a1, .slice A1 l1.length c1]] w fun e w' => e = .returned (.bool r) ∧ Below w.heap.size w w' := by
  unfold term_Same.f at h
  split at h
  · rename_i hs
    cases h
    exact tsame_calls _ _ _ _ _ _ _ _ w hs (isTm_of_c hc0 hr0) (isTm_of_c hc1 hr1)
  · cases h
def term_Vars.f (a0 : Int) (l0 : List TS) : Option (List Int) := if (ofS ⟨a0, l0⟩).size ≤ 1000000000 ∧ (ofS ⟨a0, l0⟩).good = true then some (varsT (ofS ⟨a0, l0⟩)) else none
theorem term_Vars.calls (a0 : Int) (A0 : Option Addr) (c0 : Nat) (l0 : List TS) (r : List Int) (w : World) (hr0 : Kd.C kT w A0 l0.length l0) (hc0 : l0.length ≤ c0) (h : term_Vars.f a0 l0 = some r) :
    Calls Try.prog 37 #[.agg #[.int .i64 a0, .slice A0 l0.length c0]] w fun e w' => ∃ v0_ : Value, e = .returned (v0_) ∧ Kd.V (Kd.int .i64) 3 w' w.heap.size (fun k_ => (w.heap.size ≤ k_)) v0_ r ∧ Below w.heap.size w w' := by
  unfold term_Vars.f at h
  split at h
  · rename_i hs
    cases h
    refine (tvars_calls _ (fun b => b < w.heap.size) _ _ _ w (fun _ h => h) (isTm_of_c hc0 hr0) hs.1 (good_heads _ hs.2)).mono ?_
    rintro e w' ⟨v, rfl, h1, h2⟩
    exact ⟨v, rfl, vi_of h1 (fun b _ hb => Nat.not_lt.1 hb), h2⟩
  · cases h
end PA
end Go.Proofs.Ythplndalbfcbbaa
/- subst's functions in the printed functions' form. -/
set_option linter.unusedSimpArgs false
set_option linter.unusedVariables false
namespace Go.Proofs.Ythplndalbfcbbaa
open Go.RowKit Go.Proofs.YthplndalbfcbbaaW.PrintWords

/-- A bind that the contracts speak of. -/
def okBd (b : Bd) : Bool := decide (-9223372036854775808 ≤ b.v) && decide (b.v ≤ 9223372036854775807) && decide (b.t.size ≤ 1000)
theorem okBd_iff {bs : List Bd} (h : bs.all okBd = true) : (∀ b, b ∈ bs → -9223372036854775808 ≤ b.v ∧ b.v ≤ 9223372036854775807) ∧ ∀ b, b ∈ bs → b.t.size ≤ 1000 := by
  rw [List.all_eq_true] at h
  refine ⟨fun b hb => ?_, fun b hb => ?_⟩
  · have := h b hb; simp only [okBd, Bool.and_eq_true, decide_eq_true_eq] at this; exact this.1
  · have := h b hb; simp only [okBd, Bool.and_eq_true, decide_eq_true_eq] at this; exact this.2
/-- What one may not lie in, of shared arguments. -/
theorem barOld {w : World} (P : Nat → Prop) : ∀ b, (b < w.heap.size ∧ ¬ P b) → b < w.heap.size := fun _ h => h.1
theorem Binds.bar2 {A B : Nat → Prop} {w : World} {s : Value} {bs : List Bd} (h : Binds A w s bs) (hB : ∀ b, B b → A b) : Binds B w s bs := RepD.bar h fun b _ hb => hB b hb
theorem IsTm.bar2 {A B : Nat → Prop} {w : World} {x : Int} {s : Value} {t : Tm} (h : IsTm A w x s t) (hB : ∀ b, B b → A b) : IsTm B w x s t := ⟨h.1, RepD.bar h.2 fun b _ hb => hB b hb⟩
theorem Terms.bar2 {A B : Nat → Prop} {w : World} {s : Value} {ts : List Tm} (h : Terms A w s ts) (hB : ∀ b, B b → A b) : Terms B w s ts := RepD.bar h fun b _ hb => hB b hb
namespace PA
def subst_Check.f (l0 : List BS) : Option Int := if (ofBL l0).all okBd = true then some (check3 (ofBL l0)) else none
theorem subst_Check.calls (A0 : Option Addr) (c0 : Nat) (l0 : List BS) (r : Int) (w : World) (hr0 : Kd.C kB w A0 l0.length l0) (hc0 : l0.length ≤ c0) (h : subst_Check.f l0 = some r) :
    Calls Try.prog 32 #[.slice A0 l0.length c0] w fun e w' => e = .returned (.int .i64 r) ∧ Below w.heap.size w w' := by
  unfold subst_Check.f at h
  split at h
  · rename_i hs
    cases h
    exact subcheck_calls _ _ _ w (fun b hb => Nat.le_trans ((okBd_iff hs).2 b hb) (by omega)) (binds_of_c hc0 hr0)
  · cases h
def subst_Of.f (l0 : List BS) (a1 : Int) : Option (Int × (List TS)) := if (ofBL l0).all okBd = true ∧ 0 ≤ a1 ∧ a1 ≤ 100000000 then some ((ofBs a1 (ofBL l0)).h, toSL (ofBs a1 (ofBL l0)).args) else none
theorem subst_Of.calls (P0_ : Nat → Prop) (A0 : Option Addr) (c0 : Nat) (l0 : List BS) (a1 : Int) (r1 : Int) (r2 : List TS) (w : World) (hs0 : Kd.V kB 60 w w.heap.size (fun k_ => P0_ k_) (.slice A0 l0.length c0) l0) (h : subst_Of.f l0 a1 = some (r1, r2)) :
    Calls Try.prog 35 #[.slice A0 l0.length c0, .int .i64 a1] w fun e w' => ∃ v1_ : Value, e = .returned (.agg #[.int .i64 r1, v1_]) ∧ Kd.V kT 25 w' w.heap.size (fun k_ => (P0_ k_ ∨ w.heap.size ≤ k_)) v1_ r2 ∧ Below w.heap.size w w' := by
  unfold subst_Of.f at h
  split at h
  · rename_i hs
    cases h
    refine (subof_calls _ a1 (fun b => b < w.heap.size ∧ ¬ P0_ b) _ w hs.2.1 hs.2.2 (barOld _) (okBd_iff hs.1).1 ((binds_of_v hs0).bar2 fun b h => h.2)).mono ?_
    rintro e w' ⟨s, rfl, h1, h2⟩
    exact ⟨s, rfl, v_of h1 (fun b _ hb => by
      by_cases hp : P0_ b
      · exact .inl hp
      · exact .inr (Nat.not_lt.1 fun hlt => hb ⟨hlt, hp⟩)), h2⟩
  · cases h
def subst_Apply.f (l0 : List BS) (a1 : Int) (l1 : List TS) : Option (Int × (List TS) × Int) :=
  if (ofBL l0).all okBd = true ∧ (ofS ⟨a1, l1⟩).size ≤ 1000000 then some ((applyT (ofBL l0) (ofS ⟨a1, l1⟩)).1.h, toSL (applyT (ofBL l0) (ofS ⟨a1, l1⟩)).1.args, (applyT (ofBL l0) (ofS ⟨a1, l1⟩)).2) else none
theorem subst_Apply.calls (P0_ : Nat → Prop) (A0 : Option Addr) (c0 : Nat) (l0 : List BS) (a1_0 : Int) (P1_1_ : Nat → Prop) (A1_1 : Option Addr) (c1_1 : Nat) (l1_1 : List TS) (r1 : Int) (r2 : List TS) (r3 : Int) (w : World)
    (hs0 : Kd.V kB 60 w w.heap.size (fun k_ => P0_ k_) (.slice A0 l0.length c0) l0) (hs1_1 : Kd.V kT 25 w w.heap.size (fun k_ => P1_1_ k_) (.slice A1_1 l1_1.length c1_1) l1_1) (h : subst_Apply.f l0 a1_0 l1_1 = some (r1, r2, r3)) :
    Calls Try.prog 27 #[.slice A0 l0.length c0, .agg #[.int .i64 a1_0, .slice A1_1 l1_1.length c1_1]] w fun e w' => ∃ v1_ : Value, e = .returned (.tuple #[.agg #[.int .i64 r1, v1_], .int .i64 r3]) ∧ Kd.V kT 25 w' w.heap.size (fun k_ => ((P0_ k_ ∨ P1_1_ k_) ∨ w.heap.size ≤ k_)) v1_ r2 ∧ Below w.heap.size w w' := by
  unfold subst_Apply.f at h
  split at h
  · rename_i hs
    simp only [Option.some.injEq, Prod.mk.injEq] at h
    obtain ⟨rfl, rfl, rfl⟩ := h
    refine (subapply_calls _ (ofS ⟨a1_0, l1_1⟩) 1000 (fun b => b < w.heap.size ∧ ¬ (P0_ b ∨ P1_1_ b)) _ _ _ w (barOld _) (okBd_iff hs.1).1 (by omega) (okBd_iff hs.1).2 (by omega) (by have := hs.2; omega) ((binds_of_v hs0).bar2 fun b h hp => h.2 (.inl hp)) ((isTm_of_v hs1_1).bar2 fun b h hp => h.2 (.inr hp))).mono ?_
    rintro e w' ⟨s, rfl, h1, h2⟩
    exact ⟨s, rfl, v_of h1 (fun b _ hb => by
      by_cases hp : P0_ b ∨ P1_1_ b
      · exact .inl hp
      · exact .inr (Nat.not_lt.1 fun hlt => hb ⟨hlt, hp⟩)), h2⟩
  · cases h
def subst_Shift.f (a0 : Int) (l0 : List TS) (a1 : Int) : Option (Int × (List TS) × Int) :=
  if (ofS ⟨a0, l0⟩).size ≤ 1000000000 then some ((shiftE a1 (ofS ⟨a0, l0⟩)).1.h, toSL (shiftE a1 (ofS ⟨a0, l0⟩)).1.args, (shiftE a1 (ofS ⟨a0, l0⟩)).2) else none
theorem subst_Shift.calls (a0_0 : Int) (P0_1_ : Nat → Prop) (A0_1 : Option Addr) (c0_1 : Nat) (l0_1 : List TS) (a1 : Int) (r1 : Int) (r2 : List TS) (r3 : Int) (w : World) (hs0_1 : Kd.V kT 25 w w.heap.size (fun k_ => P0_1_ k_) (.slice A0_1 l0_1.length c0_1) l0_1) (h : subst_Shift.f a0_0 l0_1 a1 = some (r1, r2, r3)) :
    Calls Try.prog 29 #[.agg #[.int .i64 a0_0, .slice A0_1 l0_1.length c0_1], .int .i64 a1] w fun e w' => ∃ v1_ : Value, e = .returned (.tuple #[.agg #[.int .i64 r1, v1_], .int .i64 r3]) ∧ Kd.V kT 25 w' w.heap.size (fun k_ => (P0_1_ k_ ∨ w.heap.size ≤ k_)) v1_ r2 ∧ Below w.heap.size w w' := by
  unfold subst_Shift.f at h
  split at h
  · rename_i hs
    simp only [Option.some.injEq, Prod.mk.injEq] at h
    obtain ⟨rfl, rfl, rfl⟩ := h
    refine (subshift_calls a1 (ofS ⟨a0_0, l0_1⟩) (fun b => b < w.heap.size ∧ ¬ P0_1_ b) _ _ w (barOld _) hs ((isTm_of_v hs0_1).bar2 fun b h => h.2)).mono ?_
    rintro e w' ⟨s, rfl, h1, h2⟩
    exact ⟨s, rfl, v_of h1 (fun b _ hb => by
      by_cases hp : P0_1_ b
      · exact .inl hp
      · exact .inr (Nat.not_lt.1 fun hlt => hb ⟨hlt, hp⟩)), h2⟩
  · cases h
end PA
end Go.Proofs.Ythplndalbfcbbaa
/- match.All, match.Match in the printed functions' form. -/
set_option linter.unusedSimpArgs false
set_option linter.unusedVariables false
namespace Go.Proofs.Ythplndalbfcbbaa
open Go.RowKit Go.Proofs.YthplndalbfcbbaaW.PrintWords

theorem share_ok {w : World} {P : Nat → Prop} : ∀ b, ¬ (b < w.heap.size ∧ ¬ P b) → (P b ∨ w.heap.size ≤ b) := fun b hb => by
  by_cases hp : P b
  · exact .inl hp
  · exact .inr (Nat.not_lt.1 fun hlt => hb ⟨hlt, hp⟩)
namespace PA
def match_All.f (l0 : List TS) (l1 : List TS) : Option ((List BS) × Bool × Int) :=
  if Tm.sizes (ofSL l0) ≤ 1000000000 ∧ Tm.sizes (ofSL l1) ≤ 1000000000 then some (toBL (matchT (ofSL l0) (ofSL l1)).1, (matchT (ofSL l0) (ofSL l1)).2.1, (matchT (ofSL l0) (ofSL l1)).2.2) else none
theorem match_All.calls (P0_ : Nat → Prop) (A0 : Option Addr) (c0 : Nat) (l0 : List TS) (P1_ : Nat → Prop) (A1 : Option Addr) (c1 : Nat) (l1 : List TS) (r1 : List BS) (r2 : Bool) (r3 : Int) (w : World)
    (hs0 : Kd.V kT 25 w w.heap.size (fun k_ => P0_ k_) (.slice A0 l0.length c0) l0) (hs1 : Kd.V kT 25 w w.heap.size (fun k_ => P1_ k_) (.slice A1 l1.length c1) l1) (h : match_All.f l0 l1 = some (r1, r2, r3)) :
    Calls Try.prog 42 #[.slice A0 l0.length c0, .slice A1 l1.length c1] w fun e w' => ∃ v0_ : Value, e = .returned (.tuple #[v0_, .bool r2, .int .i64 r3]) ∧ Kd.V kB 60 w' w.heap.size (fun k_ => ((P0_ k_ ∨ P1_ k_) ∨ w.heap.size ≤ k_)) v0_ r1 ∧ Below w.heap.size w w' := by
  unfold match_All.f at h
  split at h
  · rename_i hs
    simp only [Option.some.injEq, Prod.mk.injEq] at h
    obtain ⟨rfl, rfl, rfl⟩ := h
    refine (matchall_calls (fun b => b < w.heap.size ∧ ¬ (P0_ b ∨ P1_ b)) _ _ _ _ w hs.1 hs.2 (barOld _) ((terms_of_v hs0).bar2 fun b h hp => h.2 (.inl hp)) ((terms_of_v hs1).bar2 fun b h hp => h.2 (.inr hp))).mono ?_
    rintro e w' ⟨v, rfl, h1, h2⟩
    exact ⟨v, rfl, vb_of h1 (fun b _ hb => share_ok (w := w) (P := fun b => P0_ b ∨ P1_ b) b hb), h2⟩
  · cases h
def match_Match.f (a0 : Int) (l0 : List TS) (a1 : Int) (l1 : List TS) : Option ((List BS) × Bool × Int) :=
  if (ofS ⟨a0, l0⟩).size ≤ 1000000000 ∧ (ofS ⟨a1, l1⟩).size ≤ 1000000000 then some (toBL (matchT [ofS ⟨a0, l0⟩] [ofS ⟨a1, l1⟩]).1, (matchT [ofS ⟨a0, l0⟩] [ofS ⟨a1, l1⟩]).2.1, (matchT [ofS ⟨a0, l0⟩] [ofS ⟨a1, l1⟩]).2.2) else none
theorem match_Match.calls (a0_0 : Int) (P0_1_ : Nat → Prop) (A0_1 : Option Addr) (c0_1 : Nat) (l0_1 : List TS) (a1_0 : Int) (P1_1_ : Nat → Prop) (A1_1 : Option Addr) (c1_1 : Nat) (l1_1 : List TS) (r1 : List BS) (r2 : Bool) (r3 : Int) (w : World)
    (hs0_1 : Kd.V kT 25 w w.heap.size (fun k_ => P0_1_ k_) (.slice A0_1 l0_1.length c0_1) l0_1) (hs1_1 : Kd.V kT 25 w w.heap.size (fun k_ => P1_1_ k_) (.slice A1_1 l1_1.length c1_1) l1_1) (h : match_Match.f a0_0 l0_1 a1_0 l1_1 = some (r1, r2, r3)) :
    Calls Try.prog 46 #[.agg #[.int .i64 a0_0, .slice A0_1 l0_1.length c0_1], .agg #[.int .i64 a1_0, .slice A1_1 l1_1.length c1_1]] w fun e w' => ∃ v0_ : Value, e = .returned (.tuple #[v0_, .bool r2, .int .i64 r3]) ∧ Kd.V kB 60 w' w.heap.size (fun k_ => ((P0_1_ k_ ∨ P1_1_ k_) ∨ w.heap.size ≤ k_)) v0_ r1 ∧ Below w.heap.size w w' := by
  unfold match_Match.f at h
  split at h
  · rename_i hs
    simp only [Option.some.injEq, Prod.mk.injEq] at h
    obtain ⟨rfl, rfl, rfl⟩ := h
    refine (match_calls (fun b => b < w.heap.size ∧ ¬ (P0_1_ b ∨ P1_1_ b)) _ _ _ _ _ _ w hs.1 hs.2 (barOld _) ((isTm_of_v hs0_1).bar2 fun b h hp => h.2 (.inl hp)) ((isTm_of_v hs1_1).bar2 fun b h hp => h.2 (.inr hp))).mono ?_
    rintro e w' ⟨v, rfl, h1, h2⟩
    exact ⟨v, rfl, vb_of h1 (fun b _ hb => share_ok (w := w) (P := fun b => P0_1_ b ∨ P1_1_ b) b hb), h2⟩
  · cases h
end PA
end Go.Proofs.Ythplndalbfcbbaa
/- The references' small functions, in the printed functions' form. -/
set_option linter.unusedSimpArgs false
set_option linter.unusedVariables false
namespace Go.Proofs.Ythplndalbfcbbaa
open Go.RowKit Go.Proofs.YthplndalbfcbbaaW.PrintWords

def eqB (b c : Bd) : Bool := b.v == c.v && sameB b.t c.t
def eqBL : List Bd → List Bd → Bool
  | [], [] => true
  | b :: bs, c :: cs => eqB b c && eqBL bs cs
  | _, _ => false
theorem eqBL_iff : ∀ {a b : List Bd}, eqBL a b = true ↔ a = b
  | [], [] => by simp [eqBL]
  | [], _ :: _ => by simp [eqBL]
  | _ :: _, [] => by simp [eqBL]
  | b :: bs, c :: cs => by
    cases b; cases c
    simp [eqBL, eqB, Bool.and_eq_true, eqBL_iff (a := bs), sameB_iff]
namespace PA
def elenchusref01_Few.f (a0 : Int) (l0 : List TS) : Option Bool := some (fewB (ofS ⟨a0, l0⟩))
theorem elenchusref01_Few.calls (a0 : Int) (A0 : Option Addr) (c0 : Nat) (l0 : List TS) (r : Bool) (w : World) (hr0 : Kd.C kT w A0 l0.length l0) (hc0 : l0.length ≤ c0) (h : elenchusref01_Few.f a0 l0 = some r) :
    Calls Try.prog 26 #[.agg #[.int .i64 a0, .slice A0 l0.length c0]] w fun e w' => e = .returned (.bool r) ∧ Below w.heap.size w w' := by
  cases h
  exact few1_calls _ _ _ _ w (isTm_of_c hc0 hr0)
def elenchusref05_Few.f (l0 : List TS) : Option Bool := some (fewS (ofSL l0))
theorem elenchusref05_Few.calls (A0 : Option Addr) (c0 : Nat) (l0 : List TS) (r : Bool) (w : World) (hr0 : Kd.C kT w A0 l0.length l0) (hc0 : l0.length ≤ c0) (h : elenchusref05_Few.f l0 = some r) :
    Calls Try.prog 41 #[.slice A0 l0.length c0] w fun e w' => e = .returned (.bool r) ∧ Below w.heap.size w w' := by
  cases h
  exact few5_calls _ _ _ w (terms_of_c hc0 hr0)
def elenchusref03_Few.f (l0 : List BS) : Option Bool := some (fewBs (ofBL l0))
theorem elenchusref03_Few.calls (A0 : Option Addr) (c0 : Nat) (l0 : List BS) (r : Bool) (w : World) (hr0 : Kd.C kB w A0 l0.length l0) (hc0 : l0.length ≤ c0) (h : elenchusref03_Few.f l0 = some r) :
    Calls Try.prog 25 #[.slice A0 l0.length c0] w fun e w' => e = .returned (.bool r) ∧ Below w.heap.size w w' := by
  cases h
  exact few3_calls _ _ _ w (binds_of_c hc0 hr0)
def elenchusref01_Same.f (a0 : Int) (l0 : List TS) (a1 : Int) (l1 : List TS) : Option Bool := if (ofS ⟨a0, l0⟩).size ≤ 1000000000 ∧ (ofS ⟨a1, l1⟩).size ≤ 1000000000 then some (sameB (ofS ⟨a0, l0⟩) (ofS ⟨a1, l1⟩)) else none
theorem elenchusref01_Same.calls (a0 : Int) (A0 : Option Addr) (c0 : Nat) (l0 : List TS) (a1 : Int) (A1 : Option Addr) (c1 : Nat) (l1 : List TS) (r : Bool) (w : World) (hr0 : Kd.C kT w A0 l0.length l0) (hc0 : l0.length ≤ c0) (hr1 : Kd.C kT w A1 l1.length l1) (hc1 : l1.length ≤ c1) (h : elenchusref01_Same.f a0 l0 a1 l1 = some r) :
    Calls Try.prog 34 #[.agg #[.int .i64 a0, .slice A0 l0.length c0], .agg #[.int .i64 a1, .slice A1 l1.length c1]] w fun e w' => e = .returned (.bool r) ∧ Below w.heap.size w w' := by
  unfold elenchusref01_Same.f at h
  split at h
  · rename_i hs
    cases h
    exact same_calls _ _ _ _ _ _ _ _ w hs.1 hs.2 (isTm_of_c hc0 hr0) (isTm_of_c hc1 hr1)
  · cases h
/-- Of two rows that are the same. -/
def elenchusref03_Same.f (l0 : List BS) (l1 : List BS) : Option Bool := if eqBL (ofBL l0) (ofBL l1) = true ∧ (ofBL l0).all (fun b => decide (b.t.size ≤ 1000000000)) = true then some true else none
theorem elenchusref03_Same.calls (A0 : Option Addr) (c0 : Nat) (l0 : List BS) (A1 : Option Addr) (c1 : Nat) (l1 : List BS) (r : Bool) (w : World) (hr0 : Kd.C kB w A0 l0.length l0) (hc0 : l0.length ≤ c0) (hr1 : Kd.C kB w A1 l1.length l1) (hc1 : l1.length ≤ c1) (h : elenchusref03_Same.f l0 l1 = some r) :
    Calls Try.prog 45 #[.slice A0 l0.length c0, .slice A1 l1.length c1] w fun e w' => e = .returned (.bool r) ∧ Below w.heap.size w w' := by
  unfold elenchusref03_Same.f at h
  split at h
  · rename_i hs
    cases h
    have h1 := binds_of_c hc1 hr1
    rw [← eqBL_iff.1 hs.1] at h1
    exact same3_calls _ _ _ _ _ w (fun b hb => by have := List.all_eq_true.1 hs.2 b hb; simpa using this) (binds_of_c hc0 hr0) h1
  · cases h
def elenchusref01_In.f (a0 : Int) (l0 : List Int) : Option Bool := some (hasB a0 l0)
theorem elenchusref01_In.calls (a0 : Int) (A1 : Option Addr) (c1 : Nat) (l1 : List Int) (r : Bool) (w : World) (hr1 : Kd.C (Kd.int .i64) w A1 l1.length l1) (hc1 : l1.length ≤ c1) (h : elenchusref01_In.f a0 l1 = some r) :
    Calls Try.prog 40 #[.int .i64 a0, .slice A1 l1.length c1] w fun e w' => e = .returned (.bool r) ∧ Below w.heap.size w w' := by
  cases h
  exact in_calls _ _ _ _ w (ints_of_c hc1 hr1)
end PA
end Go.Proofs.Ythplndalbfcbbaa
/- Functions' machine side, turned out by program. -/
namespace Go.Proofs.Ythplndalbfcbbaa.PA
open Go.RowKit Go.Proofs.YthplndalbfcbbaaW.PrintWords Go.Proofs.YthplndalbfcbbaaW.PrintLast Go.Proofs.YthplndalbfcbbaaW.PrintMore
attribute [local go_sem] max2_int min2_int max_two min_two max_three min_three max_four min_four   -- for this text's walks alone
set_option linter.unusedVariables false
set_option linter.unusedSimpArgs false

/-! ### elenchuslaw05_MatchSolves: function 14 -/
mutual
def elenchuslaw05_MatchSolves.j0 : Nat → List (S60) → Bool → Int → List (S25) → Option (Bool)
  | 0, _, _, _, _ => none
  | k + 1, x1, x22, x277000, x277001 => if x22 = true then (some true) else ((subst_Apply.f x1 x277000 x277001).bind fun bt279 => (if bt279.2.2 = 0 then ((match_Match.f x277000 x277001 bt279.1 bt279.2.1).bind fun bt286 => ((subst_Apply.f bt286.1 x277000 x277001).bind fun bt291 => (if bt286.2.1 = true then (if bt286.2.2 = 0 then (if bt291.2.2 = 0 then ((elenchusref01_Same.f bt291.1 bt291.2.1 bt279.1 bt279.2.1).bind fun t297 => (elenchuslaw05_MatchSolves.j1 k x1 bt286.1 (!t297) x277000 x277001)) else (elenchuslaw05_MatchSolves.j1 k x1 bt286.1 true x277000 x277001)) else (elenchuslaw05_MatchSolves.j1 k x1 bt286.1 true x277000 x277001)) else (elenchuslaw05_MatchSolves.j1 k x1 bt286.1 true x277000 x277001)))) else ((elenchuslaw05_awake.f).bind fun t285 => (some t285))))
def elenchuslaw05_MatchSolves.j1 : Nat → List (S60) → List (S60) → Bool → Int → List (S25) → Option (Bool)
  | 0, _, _, _, _, _ => none
  | k + 1, x1, x7, x60, x277000, x277001 => if x60 = true then (some false) else ((term_Vars.f x277000 x277001).bind fun t298 => (elenchuslaw05_MatchSolves.l0 k x1 x7 t298 0))
def elenchuslaw05_MatchSolves.l0 : Nat → List (S60) → List (S60) → List Int → Int → Option (Bool)
  | 0, _, _, _, _ => none
  | k + 1, x1, x7, x12, x13 => if x13 < (x12.length : Int) then (if 0 ≤ x13 then ((subst_Of.f x7 (rd x12 x13)).bind fun bt302 => ((subst_Of.f x1 (rd x12 x13)).bind fun bt307 => ((term_Same.f bt302.1 bt302.2 bt307.1 bt307.2).bind fun t311 => (if t311 = true then (elenchuslaw05_MatchSolves.l0 k x1 x7 x12 (wrap64 (x13 + 1))) else (some false))))) else (none)) else (elenchuslaw05_MatchSolves.l1 k x7 x12 0)
def elenchuslaw05_MatchSolves.l1 : Nat → List (S60) → List Int → Int → Option (Bool)
  | 0, _, _, _ => none
  | k + 1, x7, x12, x14 => if x14 < (x7.length : Int) then (if 0 ≤ x14 then ((elenchusref01_In.f ((rd_T60 x7 x14).f0) x12).bind fun t313 => (if t313 = true then (elenchuslaw05_MatchSolves.l1 k x7 x12 (wrap64 (x14 + 1))) else (some false))) else (none)) else ((elenchuslaw05_awake.f).bind fun t314 => (if t314 = true then ((subst_Check.f x7).bind fun t315 => (some (t315 == 0))) else (some false)))
end
def elenchuslaw05_MatchSolves.f (k : Nat) (a0_0 : Int) (l0_1 : List (S25)) (l1 : List (S60)) : Option (Bool) := (elenchusref01_Few.f a0_0 l0_1).bind fun t277 => (if t277 = true then ((elenchusref03_Few.f l1).bind fun t278 => (elenchuslaw05_MatchSolves.j0 k l1 (!t278) a0_0 l0_1)) else (elenchuslaw05_MatchSolves.j0 k l1 true a0_0 l0_1))
theorem elenchuslaw05_MatchSolves.mono_l : ∀ k, (∀ y0 y1 y2 y3, LeO (elenchuslaw05_MatchSolves.j0 k y0 y1 y2 y3) (elenchuslaw05_MatchSolves.j0 (k + 1) y0 y1 y2 y3)) ∧ (∀ y0 y1 y2 y3 y4, LeO (elenchuslaw05_MatchSolves.j1 k y0 y1 y2 y3 y4) (elenchuslaw05_MatchSolves.j1 (k + 1) y0 y1 y2 y3 y4)) ∧ (∀ y0 y1 y2 y3, LeO (elenchuslaw05_MatchSolves.l0 k y0 y1 y2 y3) (elenchuslaw05_MatchSolves.l0 (k + 1) y0 y1 y2 y3)) ∧ (∀ y0 y1 y2, LeO (elenchuslaw05_MatchSolves.l1 k y0 y1 y2) (elenchuslaw05_MatchSolves.l1 (k + 1) y0 y1 y2))
  | 0 => ⟨fun _ _ _ _ r h => by simp [elenchuslaw05_MatchSolves.j0] at h, fun _ _ _ _ _ r h => by simp [elenchuslaw05_MatchSolves.j1] at h, fun _ _ _ _ r h => by simp [elenchuslaw05_MatchSolves.l0] at h, fun _ _ _ r h => by simp [elenchuslaw05_MatchSolves.l1] at h⟩
  | k + 1 => by
    obtain ⟨ih0, ih1, ih2, ih3⟩ := elenchuslaw05_MatchSolves.mono_l k
    refine ⟨?_, ?_, ?_, ?_⟩
    · intro y0 y1 y2 y3
      unfold elenchuslaw05_MatchSolves.j0
      repeat' first
      | (with_reducible exact ih0 _ _ _ _)
      | (with_reducible exact ih1 _ _ _ _ _)
      | (with_reducible exact ih2 _ _ _ _)
      | (with_reducible exact ih3 _ _ _)
      | (with_reducible exact LeO.refl _)
      | (with_reducible exact LeO.none _)
      | (with_reducible refine LeO.ite ?_ ?_)
      | (with_reducible refine LeO.bind ?_ (fun _ => ?_))
      | exact ih0 _ _ _ _
      | exact ih1 _ _ _ _ _
      | exact ih2 _ _ _ _
      | exact ih3 _ _ _
      | exact LeO.none _
      | refine LeO.ite ?_ ?_
      | refine LeO.bind ?_ (fun _ => ?_)
    · intro y0 y1 y2 y3 y4
      unfold elenchuslaw05_MatchSolves.j1
      repeat' first
      | (with_reducible exact ih0 _ _ _ _)
      | (with_reducible exact ih1 _ _ _ _ _)
      | (with_reducible exact ih2 _ _ _ _)
      | (with_reducible exact ih3 _ _ _)
      | (with_reducible exact LeO.refl _)
      | (with_reducible exact LeO.none _)
      | (with_reducible refine LeO.ite ?_ ?_)
      | (with_reducible refine LeO.bind ?_ (fun _ => ?_))
      | exact ih0 _ _ _ _
      | exact ih1 _ _ _ _ _
      | exact ih2 _ _ _ _
      | exact ih3 _ _ _
      | exact LeO.none _
      | refine LeO.ite ?_ ?_
      | refine LeO.bind ?_ (fun _ => ?_)
    · intro y0 y1 y2 y3
      unfold elenchuslaw05_MatchSolves.l0
      repeat' first
      | (with_reducible exact ih0 _ _ _ _)
      | (with_reducible exact ih1 _ _ _ _ _)
      | (with_reducible exact ih2 _ _ _ _)
      | (with_reducible exact ih3 _ _ _)
      | (with_reducible exact LeO.refl _)
      | (with_reducible exact LeO.none _)
      | (with_reducible refine LeO.ite ?_ ?_)
      | (with_reducible refine LeO.bind ?_ (fun _ => ?_))
      | exact ih0 _ _ _ _
      | exact ih1 _ _ _ _ _
      | exact ih2 _ _ _ _
      | exact ih3 _ _ _
      | exact LeO.none _
      | refine LeO.ite ?_ ?_
      | refine LeO.bind ?_ (fun _ => ?_)
    · intro y0 y1 y2
      unfold elenchuslaw05_MatchSolves.l1
      repeat' first
      | (with_reducible exact ih0 _ _ _ _)
      | (with_reducible exact ih1 _ _ _ _ _)
      | (with_reducible exact ih2 _ _ _ _)
      | (with_reducible exact ih3 _ _ _)
      | (with_reducible exact LeO.refl _)
      | (with_reducible exact LeO.none _)
      | (with_reducible refine LeO.ite ?_ ?_)
      | (with_reducible refine LeO.bind ?_ (fun _ => ?_))
      | exact ih0 _ _ _ _
      | exact ih1 _ _ _ _ _
      | exact ih2 _ _ _ _
      | exact ih3 _ _ _
      | exact LeO.none _
      | refine LeO.ite ?_ ?_
      | refine LeO.bind ?_ (fun _ => ?_)
theorem elenchuslaw05_MatchSolves.mono : ∀ a0 a1 a2 k, LeO (elenchuslaw05_MatchSolves.f k a0 a1 a2) (elenchuslaw05_MatchSolves.f (k + 1) a0 a1 a2) := by
  intro a0 a1 a2 k
  obtain ⟨ih0, ih1, ih2, ih3⟩ := elenchuslaw05_MatchSolves.mono_l k
  unfold elenchuslaw05_MatchSolves.f
  repeat' first
      | (with_reducible exact ih0 _ _ _ _)
      | (with_reducible exact ih1 _ _ _ _ _)
      | (with_reducible exact ih2 _ _ _ _)
      | (with_reducible exact ih3 _ _ _)
      | (with_reducible exact LeO.refl _)
      | (with_reducible exact LeO.none _)
      | (with_reducible refine LeO.ite ?_ ?_)
      | (with_reducible refine LeO.bind ?_ (fun _ => ?_))
      | exact ih0 _ _ _ _
      | exact ih1 _ _ _ _ _
      | exact ih2 _ _ _ _
      | exact ih3 _ _ _
      | exact LeO.none _
      | refine LeO.ite ?_ ?_
      | refine LeO.bind ?_ (fun _ => ?_)
def elenchuslaw05_MatchSolves.T14 : Bool × List (List Nat × List Nat) := (true, [([], []), ([], []), ([], []), ([1, 2], [1, 2]), ([3], [3]), ([0, 4], [0, 4]), ([], []), ([], []), ([], []), ([7, 8], [7, 8]), ([9], [9]), ([6, 10, 5], [6, 10]), ([5, 11, 11], [5, 11]), ([12], [12])])
def elenchuslaw05_MatchSolves.B14 : List Nat := [0, 0, 0, 6, 14, 31, 0, 0, 0, 384, 896, 2047, 4095, 8191]
theorem elenchuslaw05_MatchSolves.tab14 : rtab .any (opsOf Try.f14 14) = elenchuslaw05_MatchSolves.T14 := by kernel_rfl
theorem elenchuslaw05_MatchSolves.bits14 : waitsOk elenchuslaw05_MatchSolves.T14.2 elenchuslaw05_MatchSolves.B14 = true := by kernel_rfl
set_option maxHeartbeats 8000000 in
set_option maxRecDepth 100000 in
theorem elenchuslaw05_MatchSolves.calls (k : Nat) (a0_0 : Int) (A0_1 : Option Addr) (c0_1 : Nat) (l0_1 : List (S25)) (A1 : Option Addr) (c1 : Nat) (l1 : List (S60)) (r : Bool) (w : World) (hr0_1 : Kd.C k25 w A0_1 l0_1.length l0_1) (hc0_1 : l0_1.length ≤ c0_1) (hr1 : Kd.C k60 w A1 l1.length l1) (hc1 : l1.length ≤ c1) (h : elenchuslaw05_MatchSolves.f k a0_0 l0_1 l1 = some r) :
    Calls Try.prog 14 #[.agg #[.int .i64 a0_0, .slice A0_1 l0_1.length c0_1], .slice A1 l1.length c1] w fun e w' => e = .returned (.bool r) ∧ Below w.heap.size w w' := by
  have hu25 := Try.underlying25
  have HR0_1 := Aside0.mk hr0_1
  have HC0_1 := Aside0.mk hc0_1
  clear hr0_1 hc0_1
  have HR1 := Aside0.mk hr1
  have HC1 := Aside0.mk hc1
  clear hr1 hc1
  have HB := Aside0.mk (Below.refl w.heap.size w)
  have H : ((elenchusref01_Few.f a0_0 l0_1).bind fun t277 => (if t277 = true then ((elenchusref03_Few.f l1).bind fun t278 => (elenchuslaw05_MatchSolves.j0 k l1 (!t278) a0_0 l0_1)) else (elenchuslaw05_MatchSolves.j0 k l1 true a0_0 l0_1))) = some r := h
  clear h
  have HC3 := Aside0.mk H
  clear H
  go_enter Try.func14, Try.ntmps14
  go_upto_region 1 with (first | ((with_reducible refine gate_dst (N := 2) rfl ?_); refine box_event ?hg (N := 2) ?hd (cs := #[.int .i64 a0_0, .slice A0_1 l0_1.length c0_1]) (t := 25) ?hr ?_; (case hd => rfl); (case hg => rfl); (case hr => first | (go_simp; done) | (go_simp; rfl)); intro gb276 hg w4 hbox hb; have n0_ := Aside0.mk (below_step (by repeat (first | (with_reducible first | exact HB.out | apply below_alloc | apply pw_below_drewN | apply below_drew1) | exact HB.out)) hb); have n1_ := Aside0.mk (hbox); have n2_ := Aside0.mk ((by rw [hg]; exact (below_size (by repeat (first | (with_reducible first | exact HB.out | apply below_alloc | apply pw_below_drewN | apply below_drew1) | exact HB.out))) : w.heap.size ≤ gb276)); have n3_ := Aside0.mk ((by rw [hg]; exact (below_size (by repeat (first | (with_reducible first | exact HB.out | apply below_alloc | apply pw_below_drewN | apply below_drew1) | exact HB.out))) : w.heap.size ≤ gb276)); clear HB; have HB := n0_; have BK276 := n1_; have GW276 := n2_; have GE276 := n3_; clear n0_ n1_ n2_ n3_; clear hb hbox hg))
  (try simp only [Act.put, List.setIfInBounds_toArray, List.set_cons_zero, List.set_cons_succ])
  go_cut [22] (fun v22 wc => ∃ (kq : Nat) (x22_2 : Bool), v22 = .bool x22_2 ∧ Aside0 (elenchuslaw05_MatchSolves.j0 kq l1 x22_2 a0_0 l0_1 = some r) ∧ Aside0 (kq ≤ k) ∧ Aside0 (wc.heap[gb276]? = some (.cells #[.int .i64 a0_0, (.slice A0_1 l0_1.length c0_1)] 25 (0, 0))) ∧ Aside0 (Below w.heap.size w wc))
  case first =>
    have H := HC3.out
    clear HC3
    replace H := Option.bind_eq_some_iff.mp H
    obtain ⟨t277, A50, H⟩ := H
    replace H : (if t277 = true then ((elenchusref03_Few.f l1).bind fun t278 => (elenchuslaw05_MatchSolves.j0 k l1 (!t278) a0_0 l0_1)) else (elenchuslaw05_MatchSolves.j0 k l1 true a0_0 l0_1)) = some r := H
    have A5 := Aside0.mk A50
    clear A50
    by_cases c6 : t277 = true
    · subst c6
      have H1 : ((elenchusref03_Few.f l1).bind fun t278 => (elenchuslaw05_MatchSolves.j0 k l1 (!t278) a0_0 l0_1)) = some r := by rw [if_pos rfl] at H; exact H
      clear H
      have H := H1
      clear H1
      replace H := Option.bind_eq_some_iff.mp H
      obtain ⟨t278, A70, H⟩ := H
      replace H : (elenchuslaw05_MatchSolves.j0 k l1 (!t278) a0_0 l0_1) = some r := H
      have A7 := Aside0.mk A70
      clear A70
      have H' := Aside0.mk H
      clear H
      have hcz8_0 : w4.cell? ⟨gb276, 0, none⟩ = some (.int .i64 a0_0) := (blk_cell BK276.out 0).trans rfl
      have hcz8_1 : w4.cell? ⟨gb276, 1, none⟩ = some (.slice A0_1 l0_1.length c0_1) := (blk_cell BK276.out 1).trans rfl
      have hfz8_0 := blk_frozen BK276.out 0
      have hfz8_1 := blk_frozen BK276.out 1
      go_wp2_with (first | ((with_reducible refine gate_callee (f := 26) rfl ?_); refine goesL_ (some 16) rfl rfl Try.func26 (by kernel_rfl) rfl #[.agg #[.int .i64 a0_0, .slice A0_1 l0_1.length c0_1]] rfl (by (try simp only [List.map_toArray, List.map_cons, List.map_nil]); first | done | rfl | (simp only [List.length_drop, List.length_take]; rfl)) ?_; (with_reducible refine (elenchusref01_Few.calls a0_0 _ _ l0_1 true _ ?side1 ?side2 A5.out).mono ?_); (case side1 => repeat (first | exact (Kd.C_below HR0_1.out HB.out) | (with_reducible refine Kd.C_alloc ?_ _) | (with_reducible refine Kd.C_drewN ?_ _) | (with_reducible refine Kd.C_drew ?_))); (case side2 => exact HC0_1.out); rintro e w9 ⟨rfl, hb⟩; refine ⟨_, rfl, ?_⟩; have n0_ := Aside0.mk (blk_below (g := gb276) (o := .cells #[.int .i64 a0_0, .slice A0_1 l0_1.length c0_1] 25 (0, 0)) (by (with_reducible repeat (first | refine blk_drewN ?_ _ | refine blk_drew ?_ | refine blk_alloc ?_ _)); exact BK276.out) hb); have n1_ := Aside0.mk (below_step (by repeat (first | (with_reducible first | exact HB.out | apply below_alloc | apply pw_below_drewN | apply below_drew1 | refine below_set ?_ GE276.out) | exact HB.out)) hb); clear BK276; clear HB; have BK276 := n0_; have HB := n1_; clear n0_ n1_; (try clear hb); (try clear hb2); (try clear hk); (try clear hi)) | (go_at_call 25; (with_reducible refine (elenchusref03_Few.calls _ _ l1 t278 _ ?side1 ?side2 A7.out).mono ?_); (case side1 => repeat (first | exact (Kd.C_below HR1.out HB.out) | (with_reducible refine Kd.C_alloc ?_ _) | (with_reducible refine Kd.C_drewN ?_ _) | (with_reducible refine Kd.C_drew ?_))); (case side2 => exact HC1.out); rintro e w10 ⟨rfl, hb⟩; have n0_ := Aside0.mk (blk_below (g := gb276) (o := .cells #[.int .i64 a0_0, .slice A0_1 l0_1.length c0_1] 25 (0, 0)) (by (with_reducible repeat (first | refine blk_drewN ?_ _ | refine blk_drew ?_ | refine blk_alloc ?_ _)); exact BK276.out) hb); have n1_ := Aside0.mk (below_step (by repeat (first | (with_reducible first | exact HB.out | apply below_alloc | apply pw_below_drewN | apply below_drew1 | refine below_set ?_ GE276.out) | exact HB.out)) hb); clear BK276; clear HB; have BK276 := n0_; have HB := n1_; clear n0_ n1_; (try clear hb); (try clear hb2); (try clear hk); (try clear hi)))
      go_meet
      case rel => exact ⟨_, (!t278), (by first | rfl | (simp; done) | (simp [*]; done)), H', ⟨by first | omega | exact Nat.le_refl _⟩, ⟨by (with_reducible repeat (first | refine blk_drewN ?_ _ | refine blk_drew ?_ | refine blk_alloc ?_ _)); exact BK276.out⟩, ⟨by repeat (first | (with_reducible first | exact HB.out | apply below_alloc | apply pw_below_drewN | apply below_drew1 | refine below_set ?_ GE276.out) | exact HB.out)⟩⟩
    · replace c6 := Bool.eq_false_iff.mpr c6
      subst c6
      have H1 : (elenchuslaw05_MatchSolves.j0 k l1 true a0_0 l0_1) = some r := by rw [if_neg (show ¬ (false = true) by decide)] at H; exact H
      clear H
      have H := H1
      clear H1
      have H' := Aside0.mk H
      clear H
      have hcz11_0 : w4.cell? ⟨gb276, 0, none⟩ = some (.int .i64 a0_0) := (blk_cell BK276.out 0).trans rfl
      have hcz11_1 : w4.cell? ⟨gb276, 1, none⟩ = some (.slice A0_1 l0_1.length c0_1) := (blk_cell BK276.out 1).trans rfl
      have hfz11_0 := blk_frozen BK276.out 0
      have hfz11_1 := blk_frozen BK276.out 1
      go_wp2_with (first | ((with_reducible refine gate_callee (f := 26) rfl ?_); refine goesL_ (some 16) rfl rfl Try.func26 (by kernel_rfl) rfl #[.agg #[.int .i64 a0_0, .slice A0_1 l0_1.length c0_1]] rfl (by (try simp only [List.map_toArray, List.map_cons, List.map_nil]); first | done | rfl | (simp only [List.length_drop, List.length_take]; rfl)) ?_; (with_reducible refine (elenchusref01_Few.calls a0_0 _ _ l0_1 false _ ?side1 ?side2 A5.out).mono ?_); (case side1 => repeat (first | exact (Kd.C_below HR0_1.out HB.out) | (with_reducible refine Kd.C_alloc ?_ _) | (with_reducible refine Kd.C_drewN ?_ _) | (with_reducible refine Kd.C_drew ?_))); (case side2 => exact HC0_1.out); rintro e w12 ⟨rfl, hb⟩; refine ⟨_, rfl, ?_⟩; have n0_ := Aside0.mk (blk_below (g := gb276) (o := .cells #[.int .i64 a0_0, .slice A0_1 l0_1.length c0_1] 25 (0, 0)) (by (with_reducible repeat (first | refine blk_drewN ?_ _ | refine blk_drew ?_ | refine blk_alloc ?_ _)); exact BK276.out) hb); have n1_ := Aside0.mk (below_step (by repeat (first | (with_reducible first | exact HB.out | apply below_alloc | apply pw_below_drewN | apply below_drew1 | refine below_set ?_ GE276.out) | exact HB.out)) hb); clear BK276; clear HB; have BK276 := n0_; have HB := n1_; clear n0_ n1_; (try clear hb); (try clear hb2); (try clear hk); (try clear hi)))
      go_meet
      case rel => exact ⟨_, (true), (by first | rfl | (simp; done) | (simp [*]; done)), H', ⟨by first | omega | exact Nat.le_refl _⟩, ⟨by (with_reducible repeat (first | refine blk_drewN ?_ _ | refine blk_drew ?_ | refine blk_alloc ?_ _)); exact BK276.out⟩, ⟨by repeat (first | (with_reducible first | exact HB.out | apply below_alloc | apply pw_below_drewN | apply below_drew1 | refine below_set ?_ GE276.out) | exact HB.out)⟩⟩
  case rest =>
    clear HC3
    try clear c1
    try clear c2
    try clear p2
    try clear c6
    try clear hcz11_0
    try clear hcz11_1
    try clear hcz8_0
    try clear hcz8_1
    try clear hfz11_0
    try clear hfz11_1
    try clear hfz8_0
    try clear hfz8_1
    obtain ⟨kq, x22_2, rfl, HA, HJ2, BK276, HB⟩ := hcut
    cases kq with
    | zero => exact absurd HA.out (by simp [elenchuslaw05_MatchSolves.j0])
    | succ kj2 =>
      have H := HA.out
      clear HA
      simp only [elenchuslaw05_MatchSolves.j0] at H
      by_cases c13 : x22_2 = true
      · subst c13
        have H1 : (some true) = some r := by rw [if_pos rfl] at H; exact H
        clear H
        have H := H1
        clear H1
        obtain rfl := Option.some.inj H
        go_wp2
        go_ret
        exact ⟨by first | rfl | (simp [errW_none, errW_some] <;> rfl) | (simp [*, errW_none, errW_some] <;> rfl), by repeat (first | (with_reducible first | exact HB.out | apply below_alloc | apply pw_below_drewN | apply below_drew1 | refine below_set ?_ GE276.out) | exact HB.out)⟩
      · replace c13 := Bool.eq_false_iff.mpr c13
        subst c13
        have H1 : ((subst_Apply.f l1 a0_0 l0_1).bind fun bt279 => (if bt279.2.2 = 0 then ((match_Match.f a0_0 l0_1 bt279.1 bt279.2.1).bind fun bt286 => ((subst_Apply.f bt286.1 a0_0 l0_1).bind fun bt291 => (if bt286.2.1 = true then (if bt286.2.2 = 0 then (if bt291.2.2 = 0 then ((elenchusref01_Same.f bt291.1 bt291.2.1 bt279.1 bt279.2.1).bind fun t297 => (elenchuslaw05_MatchSolves.j1 kj2 l1 bt286.1 (!t297) a0_0 l0_1)) else (elenchuslaw05_MatchSolves.j1 kj2 l1 bt286.1 true a0_0 l0_1)) else (elenchuslaw05_MatchSolves.j1 kj2 l1 bt286.1 true a0_0 l0_1)) else (elenchuslaw05_MatchSolves.j1 kj2 l1 bt286.1 true a0_0 l0_1)))) else ((elenchuslaw05_awake.f).bind fun t285 => (some t285)))) = some r := by rw [if_neg (show ¬ (false = true) by decide)] at H; exact H
        clear H
        have H := H1
        clear H1
        replace H := Option.bind_eq_some_iff.mp H
        obtain ⟨⟨t279, t280, t283⟩, A140, H⟩ := H
        replace H : (if t283 = 0 then ((match_Match.f a0_0 l0_1 t279 t280).bind fun bt286 => ((subst_Apply.f bt286.1 a0_0 l0_1).bind fun bt291 => (if bt286.2.1 = true then (if bt286.2.2 = 0 then (if bt291.2.2 = 0 then ((elenchusref01_Same.f bt291.1 bt291.2.1 t279 t280).bind fun t297 => (elenchuslaw05_MatchSolves.j1 kj2 l1 bt286.1 (!t297) a0_0 l0_1)) else (elenchuslaw05_MatchSolves.j1 kj2 l1 bt286.1 true a0_0 l0_1)) else (elenchuslaw05_MatchSolves.j1 kj2 l1 bt286.1 true a0_0 l0_1)) else (elenchuslaw05_MatchSolves.j1 kj2 l1 bt286.1 true a0_0 l0_1)))) else ((elenchuslaw05_awake.f).bind fun t285 => (some t285))) = some r := H
        have A14 := Aside0.mk A140
        clear A140
        by_cases c15 : t283 = 0
        · rw [if_pos c15] at H
          have c15b0 : (t283 == 0) = true := beq_iff_eq.mpr c15
          have c15b1 : (t283 != 0) = false := bne_eq_false_iff_eq.mpr c15
          clear c15
          replace H := Option.bind_eq_some_iff.mp H
          obtain ⟨⟨t286, t289, t290⟩, A160, H⟩ := H
          replace H : ((subst_Apply.f t286 a0_0 l0_1).bind fun bt291 => (if t289 = true then (if t290 = 0 then (if bt291.2.2 = 0 then ((elenchusref01_Same.f bt291.1 bt291.2.1 t279 t280).bind fun t297 => (elenchuslaw05_MatchSolves.j1 kj2 l1 t286 (!t297) a0_0 l0_1)) else (elenchuslaw05_MatchSolves.j1 kj2 l1 t286 true a0_0 l0_1)) else (elenchuslaw05_MatchSolves.j1 kj2 l1 t286 true a0_0 l0_1)) else (elenchuslaw05_MatchSolves.j1 kj2 l1 t286 true a0_0 l0_1))) = some r := H
          have A16 := Aside0.mk A160
          clear A160
          replace H := Option.bind_eq_some_iff.mp H
          obtain ⟨⟨t291, t292, t295⟩, A170, H⟩ := H
          replace H : (if t289 = true then (if t290 = 0 then (if t295 = 0 then ((elenchusref01_Same.f t291 t292 t279 t280).bind fun t297 => (elenchuslaw05_MatchSolves.j1 kj2 l1 t286 (!t297) a0_0 l0_1)) else (elenchuslaw05_MatchSolves.j1 kj2 l1 t286 true a0_0 l0_1)) else (elenchuslaw05_MatchSolves.j1 kj2 l1 t286 true a0_0 l0_1)) else (elenchuslaw05_MatchSolves.j1 kj2 l1 t286 true a0_0 l0_1)) = some r := H
          have A17 := Aside0.mk A170
          clear A170
          have HC18 := Aside0.mk H
          clear H
          have hcz19_0 : wc.cell? ⟨gb276, 0, none⟩ = some (.int .i64 a0_0) := (blk_cell BK276.out 0).trans rfl
          have hcz19_1 : wc.cell? ⟨gb276, 1, none⟩ = some (.slice A0_1 l0_1.length c0_1) := (blk_cell BK276.out 1).trans rfl
          have hfz19_0 := blk_frozen BK276.out 0
          have hfz19_1 := blk_frozen BK276.out 1
          go_upto_region 8 with (first | ((with_reducible refine gate_callee (f := 27) rfl ?_); refine goesL_ (some 26) rfl rfl Try.func27 (by kernel_rfl) rfl #[.slice A1 l1.length c1, .agg #[.int .i64 a0_0, .slice A0_1 l0_1.length c0_1]] rfl (by (try simp only [List.map_toArray, List.map_cons, List.map_nil]); first | done | rfl | (simp only [List.length_drop, List.length_take]; rfl)) ?_; (with_reducible refine (subst_Apply.calls (fun k_ => k_ < w.heap.size) _ _ l1 a0_0 (fun k_ => k_ < w.heap.size) _ _ l0_1 t279 t280 t283 _ ?side1 ?side2 A14.out).mono ?_); (case side1 => exact Kd.V_mk HC1.out (Kd.F_below (Kd.C_F k60_heap HR1.out) (by repeat (first | (with_reducible first | exact HB.out | apply below_alloc | apply pw_below_drewN | apply below_drew1 | refine below_set ?_ GE276.out) | exact HB.out)))); (case side2 => exact Kd.V_mk HC0_1.out (Kd.F_below (Kd.C_F k25_heap HR0_1.out) (by repeat (first | (with_reducible first | exact HB.out | apply below_alloc | apply pw_below_drewN | apply below_drew1 | refine below_set ?_ GE276.out) | exact HB.out)))); rintro e w20 ⟨v281, rfl, ho0, hb⟩; refine ⟨_, rfl, ?_⟩; have n0_ := Aside0.mk (Kd.V_lower (Kd.V_mono (ok' := fun k_ => k_ ≠ gb276) ho0 (fun k_ hk_ => Or.elim hk_ (fun hs_ => Or.elim hs_ (fun hs_ => fun e_ => Nat.not_le.2 hs_ (by rw [e_]; exact GW276.out)) (fun hs_ => fun e_ => Nat.not_le.2 hs_ (by rw [e_]; exact GW276.out))) (fun hn_ => (Kd.freshB (g := gb276) (o := .cells #[.int .i64 a0_0, .slice A0_1 l0_1.length c0_1] 25 (0, 0)) (by (with_reducible repeat (first | refine blk_drewN ?_ _ | refine blk_drew ?_ | refine blk_alloc ?_ _)); exact BK276.out) k_ hn_)))) (below_size (by repeat (first | (with_reducible first | exact HB.out | apply below_alloc | apply pw_below_drewN | apply below_drew1 | refine below_set ?_ GE276.out) | exact HB.out)))); have n1_ := Aside0.mk (blk_below (g := gb276) (o := .cells #[.int .i64 a0_0, .slice A0_1 l0_1.length c0_1] 25 (0, 0)) (by (with_reducible repeat (first | refine blk_drewN ?_ _ | refine blk_drew ?_ | refine blk_alloc ?_ _)); exact BK276.out) hb); have n2_ := Aside0.mk (below_step (by repeat (first | (with_reducible first | exact HB.out | apply below_alloc | apply pw_below_drewN | apply below_drew1 | refine below_set ?_ GE276.out) | exact HB.out)) hb); clear BK276; clear HB; have HO282 := n0_; have BK276 := n1_; have HB := n2_; clear n0_ n1_ n2_; (try clear hb); (try clear hb2); (try clear hk); (try clear hi); (try clear ho0)) | ((with_reducible refine gate_dst (N := 5) rfl ?_); refine box_event ?hg (N := 5) ?hd (cs := #[.int .i64 0, .slice none 0 0]) (t := 25) ?hr ?_; (case hd => rfl); (case hg => rfl); (case hr => first | (go_simp; done) | (go_simp; rfl)); intro gb284 hg w21 hbox hb; have n0_ := Aside0.mk (Kd.V_below (Kd.V_elderB (by (with_reducible repeat (first | apply Kd.V_alloc | apply Kd.V_drewN | apply Kd.V_drew)); exact HO282.out) gb284 (Nat.le_of_eq hg.symm)) hb); have n1_ := Aside0.mk (blk_below (g := gb276) (o := .cells #[.int .i64 a0_0, .slice A0_1 l0_1.length c0_1] 25 (0, 0)) (by (with_reducible repeat (first | refine blk_drewN ?_ _ | refine blk_drew ?_ | refine blk_alloc ?_ _)); exact BK276.out) hb); have n2_ := Aside0.mk (below_step (by repeat (first | (with_reducible first | exact HB.out | apply below_alloc | apply pw_below_drewN | apply below_drew1 | refine below_set ?_ GE276.out) | exact HB.out)) hb); have n3_ := Aside0.mk (hbox); have n4_ := Aside0.mk ((by rw [hg]; exact (below_size (by repeat (first | (with_reducible first | exact HB.out | apply below_alloc | apply pw_below_drewN | apply below_drew1 | refine below_set ?_ GE276.out) | exact HB.out))) : w.heap.size ≤ gb284)); have n5_ := Aside0.mk ((by rw [hg]; exact (below_size (by repeat (first | (with_reducible first | exact HB.out | apply below_alloc | apply pw_below_drewN | apply below_drew1 | refine below_set ?_ GE276.out) | exact HB.out))) : w.heap.size ≤ gb284)); have n6_ := Aside0.mk ((by rw [hg]; exact Nat.ne_of_lt (blk_lt (g := gb276) (o := .cells #[.int .i64 a0_0, .slice A0_1 l0_1.length c0_1] 25 (0, 0)) (by (with_reducible repeat (first | refine blk_drewN ?_ _ | refine blk_drew ?_ | refine blk_alloc ?_ _)); exact BK276.out)) : gb276 ≠ gb284)); have n7_ := Aside0.mk ((by rw [hg]; exact Nat.ne_of_gt (blk_lt (g := gb276) (o := .cells #[.int .i64 a0_0, .slice A0_1 l0_1.length c0_1] 25 (0, 0)) (by (with_reducible repeat (first | refine blk_drewN ?_ _ | refine blk_drew ?_ | refine blk_alloc ?_ _)); exact BK276.out)) : gb284 ≠ gb276)); clear HO282; clear BK276; clear HB; have HO282 := n0_; have BK276 := n1_; have HB := n2_; have BK284 := n3_; have GW284 := n4_; have GE284 := n5_; have NB276_284 := n6_; have NB284_276 := n7_; clear n0_ n1_ n2_ n3_ n4_ n5_ n6_ n7_; clear hb hbox hg; have hnb22 := NB284_276.out; have hnc22 := NB276_284.out; have hcz23_0 : w21.cell? ⟨gb284, 0, none⟩ = some (.int .i64 0) := (blk_cell BK284.out 0).trans rfl; have hcz23_1 : w21.cell? ⟨gb284, 1, none⟩ = some (.slice none 0 0) := (blk_cell BK284.out 1).trans rfl; have hfz23_0 := blk_frozen BK284.out 0; have hfz23_1 := blk_frozen BK284.out 1; obtain ⟨Ao24, co24, eo24⟩ := Kd.V_slice HO282.out; subst eo24) | ((with_reducible refine gate_store (t := 25) (p := 5) rfl ?_); refine store_event (t := 25) (p := 5) (v := ?vo_w25) (w1 := ((w21.setCell ⟨gb284, 0, none⟩ (.int .i64 t279)).setCell ⟨gb284, 1, none⟩ (.slice Ao24 t280.length co24))) ?hg ?ho ?hn ?hr ?_; (case ho => rfl); (case hg => rfl); (case hn => rfl); (case hr => first | (go_simp; done) | (go_simp; rfl)); intro w25 hw; have n0_ : Aside0 (Kd.V k25 25 w25 w.heap.size (fun k_ => k_ ≠ gb276 ∧ k_ ≠ gb284) (.slice Ao24 t280.length co24) t280) := ⟨(by rw [hw]; exact (by (with_reducible repeat (first | apply Kd.V_alloc | apply Kd.V_drewN | apply Kd.V_drew)); exact Kd.V_mono (Kd.V_far (p := ⟨gb284, 1, none⟩) (Kd.V_far (p := ⟨gb284, 0, none⟩) (Kd.V_mono HO282.out (fun k_ hk => (⟨hk, hk.2⟩ : _ ∧ k_ ≠ gb284))) (fun _ hk => hk.2) (.int .i64 t279)) (fun _ hk => hk.2) (.slice Ao24 t280.length co24)) (fun _ hk => ⟨hk.1.1, hk.1.2⟩)))⟩; have n1_ : Aside0 (w25.heap[gb276]? = some (.cells #[.int .i64 a0_0, .slice A0_1 l0_1.length c0_1] 25 (0, 0))) := ⟨(by rw [hw]; exact (by (with_reducible repeat (first | refine blk_drewN ?_ _ | refine blk_drew ?_ | refine blk_alloc ?_ _)); refine blk_far ?_ NB276_284.out _; (with_reducible repeat (first | refine blk_drewN ?_ _ | refine blk_drew ?_ | refine blk_alloc ?_ _)); refine blk_far ?_ NB276_284.out _; (with_reducible repeat (first | refine blk_drewN ?_ _ | refine blk_drew ?_ | refine blk_alloc ?_ _)); exact BK276.out))⟩; have n2_ : Aside0 (w25.heap[gb284]? = some (.cells #[.int .i64 t279, .slice Ao24 t280.length co24] 25 (0, 0))) := ⟨(by rw [hw]; exact (by (with_reducible repeat (first | refine blk_drewN ?_ _ | refine blk_drew ?_ | refine blk_alloc ?_ _)); refine blk_put (cs := #[.int .i64 t279, .slice none 0 0]) ?_ 1 _ rfl; (with_reducible repeat (first | refine blk_drewN ?_ _ | refine blk_drew ?_ | refine blk_alloc ?_ _)); refine blk_put (cs := #[.int .i64 0, .slice none 0 0]) ?_ 0 _ rfl; (with_reducible repeat (first | refine blk_drewN ?_ _ | refine blk_drew ?_ | refine blk_alloc ?_ _)); exact BK284.out))⟩; have n3_ : Aside0 (Below w.heap.size w w25) := ⟨(by rw [hw]; exact (by repeat (first | (with_reducible first | exact HB.out | apply below_alloc | apply pw_below_drewN | apply below_drew1 | refine below_set ?_ GE276.out | refine below_set ?_ GE284.out) | exact HB.out)))⟩; clear hw; clear HO282; clear BK276; clear BK284; clear HB; have HO282 := n0_; have BK276 := n1_; have BK284 := n2_; have HB := n3_; clear n0_ n1_ n2_ n3_; have hcz26_0 : w25.cell? ⟨gb276, 0, none⟩ = some (.int .i64 a0_0) := (blk_cell BK276.out 0).trans rfl; have hcz26_1 : w25.cell? ⟨gb276, 1, none⟩ = some (.slice A0_1 l0_1.length c0_1) := (blk_cell BK276.out 1).trans rfl; have hfz26_0 := blk_frozen BK276.out 0; have hfz26_1 := blk_frozen BK276.out 1; have hcz27_0 : w25.cell? ⟨gb284, 0, none⟩ = some (.int .i64 t279) := (blk_cell BK284.out 0).trans rfl; have hcz27_1 : w25.cell? ⟨gb284, 1, none⟩ = some (.slice Ao24 t280.length co24) := (blk_cell BK284.out 1).trans rfl; have hfz27_0 := blk_frozen BK284.out 0; have hfz27_1 := blk_frozen BK284.out 1) | ((with_reducible refine gate_callee (f := 46) rfl ?_); refine goesL_ (some 35) rfl rfl Try.func46 (by kernel_rfl) rfl #[.agg #[.int .i64 a0_0, .slice A0_1 l0_1.length c0_1], .agg #[.int .i64 t279, .slice Ao24 t280.length co24]] rfl (by (try simp only [List.map_toArray, List.map_cons, List.map_nil]); first | done | rfl | (simp only [List.length_drop, List.length_take]; rfl)) ?_; (with_reducible refine (match_Match.calls a0_0 (fun k_ => k_ < w.heap.size) _ _ l0_1 t279 (fun k_ => (k_ ≠ gb276 ∧ k_ ≠ gb284)) _ _ t280 t286 t289 t290 _ ?side1 ?side2 A16.out).mono ?_); (case side1 => exact Kd.V_mk HC0_1.out (Kd.F_below (Kd.C_F k25_heap HR0_1.out) (by repeat (first | (with_reducible first | exact HB.out | apply below_alloc | apply pw_below_drewN | apply below_drew1 | refine below_set ?_ GE276.out | refine below_set ?_ GE284.out) | exact HB.out)))); (case side2 => exact HO282.out); rintro e w28 ⟨v287, rfl, ho0, hb⟩; refine ⟨_, rfl, ?_⟩; have n0_ := Aside0.mk (Kd.V_below (by (with_reducible repeat (first | apply Kd.V_alloc | apply Kd.V_drewN | apply Kd.V_drew)); exact HO282.out) hb); have n1_ := Aside0.mk (Kd.V_lower (Kd.V_mono (ok' := fun k_ => k_ ≠ gb276 ∧ k_ ≠ gb284) ho0 (fun k_ hk_ => ⟨Or.elim hk_ (fun hs_ => Or.elim hs_ (fun hs_ => fun e_ => Nat.not_le.2 hs_ (by rw [e_]; exact GW276.out)) (fun hs_ => hs_.1)) (fun hn_ => (Kd.freshB (g := gb276) (o := .cells #[.int .i64 a0_0, .slice A0_1 l0_1.length c0_1] 25 (0, 0)) (by (with_reducible repeat (first | refine blk_drewN ?_ _ | refine blk_drew ?_ | refine blk_alloc ?_ _)); exact BK276.out) k_ hn_)), Or.elim hk_ (fun hs_ => Or.elim hs_ (fun hs_ => fun e_ => Nat.not_le.2 hs_ (by rw [e_]; exact GW284.out)) (fun hs_ => hs_.2)) (fun hn_ => (Kd.freshB (g := gb284) (o := .cells #[.int .i64 t279, .slice Ao24 t280.length co24] 25 (0, 0)) (by (with_reducible repeat (first | refine blk_drewN ?_ _ | refine blk_drew ?_ | refine blk_alloc ?_ _)); exact BK284.out) k_ hn_))⟩)) (below_size (by repeat (first | (with_reducible first | exact HB.out | apply below_alloc | apply pw_below_drewN | apply below_drew1 | refine below_set ?_ GE276.out | refine below_set ?_ GE284.out) | exact HB.out)))); have n2_ := Aside0.mk (blk_below (g := gb276) (o := .cells #[.int .i64 a0_0, .slice A0_1 l0_1.length c0_1] 25 (0, 0)) (by (with_reducible repeat (first | refine blk_drewN ?_ _ | refine blk_drew ?_ | refine blk_alloc ?_ _)); exact BK276.out) hb); have n3_ := Aside0.mk (blk_below (g := gb284) (o := .cells #[.int .i64 t279, .slice Ao24 t280.length co24] 25 (0, 0)) (by (with_reducible repeat (first | refine blk_drewN ?_ _ | refine blk_drew ?_ | refine blk_alloc ?_ _)); exact BK284.out) hb); have n4_ := Aside0.mk (below_step (by repeat (first | (with_reducible first | exact HB.out | apply below_alloc | apply pw_below_drewN | apply below_drew1 | refine below_set ?_ GE276.out | refine below_set ?_ GE284.out) | exact HB.out)) hb); clear HO282; clear BK276; clear BK284; clear HB; have HO282 := n0_; have HO288 := n1_; have BK276 := n2_; have BK284 := n3_; have HB := n4_; clear n0_ n1_ n2_ n3_ n4_; (try clear hb); (try clear hb2); (try clear hk); (try clear hi); (try clear ho0); have hcz29_0 : w28.cell? ⟨gb276, 0, none⟩ = some (.int .i64 a0_0) := (blk_cell BK276.out 0).trans rfl; have hcz29_1 : w28.cell? ⟨gb276, 1, none⟩ = some (.slice A0_1 l0_1.length c0_1) := (blk_cell BK276.out 1).trans rfl; have hfz29_0 := blk_frozen BK276.out 0; have hfz29_1 := blk_frozen BK276.out 1; obtain ⟨Ao30, co30, eo30⟩ := Kd.V_slice HO288.out; subst eo30) | ((with_reducible refine gate_callee (f := 27) rfl ?_); refine goesL_ (some 42) rfl rfl Try.func27 (by kernel_rfl) rfl #[.slice Ao30 t286.length co30, .agg #[.int .i64 a0_0, .slice A0_1 l0_1.length c0_1]] rfl (by (try simp only [List.map_toArray, List.map_cons, List.map_nil]); first | done | rfl | (simp only [List.length_drop, List.length_take]; rfl)) ?_; (with_reducible refine (subst_Apply.calls (fun k_ => (k_ ≠ gb276 ∧ k_ ≠ gb284)) _ _ t286 a0_0 (fun k_ => k_ < w.heap.size) _ _ l0_1 t291 t292 t295 _ ?side1 ?side2 A17.out).mono ?_); (case side1 => exact HO288.out); (case side2 => exact Kd.V_mk HC0_1.out (Kd.F_below (Kd.C_F k25_heap HR0_1.out) (by repeat (first | (with_reducible first | exact HB.out | apply below_alloc | apply pw_below_drewN | apply below_drew1 | refine below_set ?_ GE276.out | refine below_set ?_ GE284.out) | exact HB.out)))); rintro e w31 ⟨v293, rfl, ho0, hb⟩; refine ⟨_, rfl, ?_⟩; have n0_ := Aside0.mk (Kd.V_below (by (with_reducible repeat (first | apply Kd.V_alloc | apply Kd.V_drewN | apply Kd.V_drew)); exact HO282.out) hb); have n1_ := Aside0.mk (Kd.V_below (by (with_reducible repeat (first | apply Kd.V_alloc | apply Kd.V_drewN | apply Kd.V_drew)); exact HO288.out) hb); have n2_ := Aside0.mk (Kd.V_lower (Kd.V_mono (ok' := fun k_ => k_ ≠ gb276 ∧ k_ ≠ gb284) ho0 (fun k_ hk_ => ⟨Or.elim hk_ (fun hs_ => Or.elim hs_ (fun hs_ => hs_.1) (fun hs_ => fun e_ => Nat.not_le.2 hs_ (by rw [e_]; exact GW276.out))) (fun hn_ => (Kd.freshB (g := gb276) (o := .cells #[.int .i64 a0_0, .slice A0_1 l0_1.length c0_1] 25 (0, 0)) (by (with_reducible repeat (first | refine blk_drewN ?_ _ | refine blk_drew ?_ | refine blk_alloc ?_ _)); exact BK276.out) k_ hn_)), Or.elim hk_ (fun hs_ => Or.elim hs_ (fun hs_ => hs_.2) (fun hs_ => fun e_ => Nat.not_le.2 hs_ (by rw [e_]; exact GW284.out))) (fun hn_ => (Kd.freshB (g := gb284) (o := .cells #[.int .i64 t279, .slice Ao24 t280.length co24] 25 (0, 0)) (by (with_reducible repeat (first | refine blk_drewN ?_ _ | refine blk_drew ?_ | refine blk_alloc ?_ _)); exact BK284.out) k_ hn_))⟩)) (below_size (by repeat (first | (with_reducible first | exact HB.out | apply below_alloc | apply pw_below_drewN | apply below_drew1 | refine below_set ?_ GE276.out | refine below_set ?_ GE284.out) | exact HB.out)))); have n3_ := Aside0.mk (blk_below (g := gb276) (o := .cells #[.int .i64 a0_0, .slice A0_1 l0_1.length c0_1] 25 (0, 0)) (by (with_reducible repeat (first | refine blk_drewN ?_ _ | refine blk_drew ?_ | refine blk_alloc ?_ _)); exact BK276.out) hb); have n4_ := Aside0.mk (blk_below (g := gb284) (o := .cells #[.int .i64 t279, .slice Ao24 t280.length co24] 25 (0, 0)) (by (with_reducible repeat (first | refine blk_drewN ?_ _ | refine blk_drew ?_ | refine blk_alloc ?_ _)); exact BK284.out) hb); have n5_ := Aside0.mk (below_step (by repeat (first | (with_reducible first | exact HB.out | apply below_alloc | apply pw_below_drewN | apply below_drew1 | refine below_set ?_ GE276.out | refine below_set ?_ GE284.out) | exact HB.out)) hb); clear HO282; clear HO288; clear BK276; clear BK284; clear HB; have HO282 := n0_; have HO288 := n1_; have HO294 := n2_; have BK276 := n3_; have BK284 := n4_; have HB := n5_; clear n0_ n1_ n2_ n3_ n4_ n5_; (try clear hb); (try clear hb2); (try clear hk); (try clear hi); (try clear ho0)) | ((with_reducible refine gate_dst (N := 10) rfl ?_); refine box_event ?hg (N := 10) ?hd (cs := #[.int .i64 0, .slice none 0 0]) (t := 25) ?hr ?_; (case hd => rfl); (case hg => rfl); (case hr => first | (go_simp; done) | (go_simp; rfl)); intro gb296 hg w32 hbox hb; have n0_ := Aside0.mk (Kd.V_below (Kd.V_elderB (by (with_reducible repeat (first | apply Kd.V_alloc | apply Kd.V_drewN | apply Kd.V_drew)); exact HO282.out) gb296 (Nat.le_of_eq hg.symm)) hb); have n1_ := Aside0.mk (Kd.V_below (Kd.V_elderB (by (with_reducible repeat (first | apply Kd.V_alloc | apply Kd.V_drewN | apply Kd.V_drew)); exact HO288.out) gb296 (Nat.le_of_eq hg.symm)) hb); have n2_ := Aside0.mk (Kd.V_below (Kd.V_elderB (by (with_reducible repeat (first | apply Kd.V_alloc | apply Kd.V_drewN | apply Kd.V_drew)); exact HO294.out) gb296 (Nat.le_of_eq hg.symm)) hb); have n3_ := Aside0.mk (blk_below (g := gb276) (o := .cells #[.int .i64 a0_0, .slice A0_1 l0_1.length c0_1] 25 (0, 0)) (by (with_reducible repeat (first | refine blk_drewN ?_ _ | refine blk_drew ?_ | refine blk_alloc ?_ _)); exact BK276.out) hb); have n4_ := Aside0.mk (blk_below (g := gb284) (o := .cells #[.int .i64 t279, .slice Ao24 t280.length co24] 25 (0, 0)) (by (with_reducible repeat (first | refine blk_drewN ?_ _ | refine blk_drew ?_ | refine blk_alloc ?_ _)); exact BK284.out) hb); have n5_ := Aside0.mk (below_step (by repeat (first | (with_reducible first | exact HB.out | apply below_alloc | apply pw_below_drewN | apply below_drew1 | refine below_set ?_ GE276.out | refine below_set ?_ GE284.out) | exact HB.out)) hb); have n6_ := Aside0.mk (hbox); have n7_ := Aside0.mk ((by rw [hg]; exact (below_size (by repeat (first | (with_reducible first | exact HB.out | apply below_alloc | apply pw_below_drewN | apply below_drew1 | refine below_set ?_ GE276.out | refine below_set ?_ GE284.out) | exact HB.out))) : w.heap.size ≤ gb296)); have n8_ := Aside0.mk ((by rw [hg]; exact (below_size (by repeat (first | (with_reducible first | exact HB.out | apply below_alloc | apply pw_below_drewN | apply below_drew1 | refine below_set ?_ GE276.out | refine below_set ?_ GE284.out) | exact HB.out))) : w.heap.size ≤ gb296)); have n9_ := Aside0.mk ((by rw [hg]; exact Nat.ne_of_lt (blk_lt (g := gb276) (o := .cells #[.int .i64 a0_0, .slice A0_1 l0_1.length c0_1] 25 (0, 0)) (by (with_reducible repeat (first | refine blk_drewN ?_ _ | refine blk_drew ?_ | refine blk_alloc ?_ _)); exact BK276.out)) : gb276 ≠ gb296)); have n10_ := Aside0.mk ((by rw [hg]; exact Nat.ne_of_gt (blk_lt (g := gb276) (o := .cells #[.int .i64 a0_0, .slice A0_1 l0_1.length c0_1] 25 (0, 0)) (by (with_reducible repeat (first | refine blk_drewN ?_ _ | refine blk_drew ?_ | refine blk_alloc ?_ _)); exact BK276.out)) : gb296 ≠ gb276)); have n11_ := Aside0.mk ((by rw [hg]; exact Nat.ne_of_lt (blk_lt (g := gb284) (o := .cells #[.int .i64 t279, .slice Ao24 t280.length co24] 25 (0, 0)) (by (with_reducible repeat (first | refine blk_drewN ?_ _ | refine blk_drew ?_ | refine blk_alloc ?_ _)); exact BK284.out)) : gb284 ≠ gb296)); have n12_ := Aside0.mk ((by rw [hg]; exact Nat.ne_of_gt (blk_lt (g := gb284) (o := .cells #[.int .i64 t279, .slice Ao24 t280.length co24] 25 (0, 0)) (by (with_reducible repeat (first | refine blk_drewN ?_ _ | refine blk_drew ?_ | refine blk_alloc ?_ _)); exact BK284.out)) : gb296 ≠ gb284)); clear HO282; clear HO288; clear HO294; clear BK276; clear BK284; clear HB; have HO282 := n0_; have HO288 := n1_; have HO294 := n2_; have BK276 := n3_; have BK284 := n4_; have HB := n5_; have BK296 := n6_; have GW296 := n7_; have GE296 := n8_; have NB276_296 := n9_; have NB296_276 := n10_; have NB284_296 := n11_; have NB296_284 := n12_; clear n0_ n1_ n2_ n3_ n4_ n5_ n6_ n7_ n8_ n9_ n10_ n11_ n12_; clear hb hbox hg; have hnb33 := NB296_276.out; have hnc33 := NB276_296.out; have hnb34 := NB296_284.out; have hnc34 := NB284_296.out; have hcz35_0 : w32.cell? ⟨gb296, 0, none⟩ = some (.int .i64 0) := (blk_cell BK296.out 0).trans rfl; have hcz35_1 : w32.cell? ⟨gb296, 1, none⟩ = some (.slice none 0 0) := (blk_cell BK296.out 1).trans rfl; have hfz35_0 := blk_frozen BK296.out 0; have hfz35_1 := blk_frozen BK296.out 1; obtain ⟨Ao36, co36, eo36⟩ := Kd.V_slice HO294.out; subst eo36))
          (try simp only [Act.put, List.setIfInBounds_toArray, List.set_cons_zero, List.set_cons_succ])
          go_cut [60] (fun v60 wc => ∃ (kq : Nat) (x60_17 : Bool), v60 = .bool x60_17 ∧ Aside0 (elenchuslaw05_MatchSolves.j1 kq l1 t286 x60_17 a0_0 l0_1 = some r) ∧ Aside0 (kq ≤ kj2) ∧ Aside0 (Kd.V k60 60 wc w.heap.size (fun k_ => k_ ≠ gb276 ∧ k_ ≠ gb284 ∧ k_ ≠ gb296) (.slice Ao30 t286.length co30) t286) ∧ Aside0 (Kd.V k25 25 wc w.heap.size (fun k_ => k_ ≠ gb276 ∧ k_ ≠ gb284 ∧ k_ ≠ gb296) (.slice Ao24 t280.length co24) t280) ∧ Aside0 (Kd.V k25 25 wc w.heap.size (fun k_ => k_ ≠ gb276 ∧ k_ ≠ gb284 ∧ k_ ≠ gb296) (.slice Ao36 t292.length co36) t292) ∧ Aside0 (wc.heap[gb276]? = some (.cells #[.int .i64 a0_0, (.slice A0_1 l0_1.length c0_1)] 25 (0, 0))) ∧ Aside0 (wc.heap[gb284]? = some (.cells #[.int .i64 t279, (.slice Ao24 t280.length co24)] 25 (0, 0))) ∧ Aside0 (wc.heap[gb296]? = some (.cells #[.int .i64 t291, (.slice Ao36 t292.length co36)] 25 (0, 0))) ∧ Aside0 (Below w.heap.size w wc))
          case first =>
            have H := HC18.out
            clear HC18
            by_cases c37 : t289 = true
            · subst c37
              have H1 : (if t290 = 0 then (if t295 = 0 then ((elenchusref01_Same.f t291 t292 t279 t280).bind fun t297 => (elenchuslaw05_MatchSolves.j1 kj2 l1 t286 (!t297) a0_0 l0_1)) else (elenchuslaw05_MatchSolves.j1 kj2 l1 t286 true a0_0 l0_1)) else (elenchuslaw05_MatchSolves.j1 kj2 l1 t286 true a0_0 l0_1)) = some r := by rw [if_pos rfl] at H; exact H
              clear H
              have H := H1
              clear H1
              by_cases c38 : t290 = 0
              · rw [if_pos c38] at H
                have c38b0 : (t290 == 0) = true := beq_iff_eq.mpr c38
                have c38b1 : (t290 != 0) = false := bne_eq_false_iff_eq.mpr c38
                clear c38
                (first | rw [c38b0] | (simp only [i64_w, i32_w]; rw [c38b0]) | skip)
                by_cases c39 : t295 = 0
                · rw [if_pos c39] at H
                  have c39b0 : (t295 == 0) = true := beq_iff_eq.mpr c39
                  have c39b1 : (t295 != 0) = false := bne_eq_false_iff_eq.mpr c39
                  clear c39
                  replace H := Option.bind_eq_some_iff.mp H
                  obtain ⟨t297, A400, H⟩ := H
                  replace H : (elenchuslaw05_MatchSolves.j1 kj2 l1 t286 (!t297) a0_0 l0_1) = some r := H
                  have A40 := Aside0.mk A400
                  clear A400
                  have H' := Aside0.mk H
                  clear H
                  have hnb41 := NB296_276.out
                  have hnc41 := NB276_296.out
                  have hnb42 := NB296_284.out
                  have hnc42 := NB284_296.out
                  have hcz43_0 : w32.cell? ⟨gb296, 0, none⟩ = some (.int .i64 0) := (blk_cell BK296.out 0).trans rfl
                  have hcz43_1 : w32.cell? ⟨gb296, 1, none⟩ = some (.slice none 0 0) := (blk_cell BK296.out 1).trans rfl
                  have hfz43_0 := blk_frozen BK296.out 0
                  have hfz43_1 := blk_frozen BK296.out 1
                  have hnb44 := NB284_276.out
                  have hnc44 := NB276_284.out
                  have hcz45_0 : w32.cell? ⟨gb284, 0, none⟩ = some (.int .i64 t279) := (blk_cell BK284.out 0).trans rfl
                  have hcz45_1 : w32.cell? ⟨gb284, 1, none⟩ = some (.slice Ao24 t280.length co24) := (blk_cell BK284.out 1).trans rfl
                  have hfz45_0 := blk_frozen BK284.out 0
                  have hfz45_1 := blk_frozen BK284.out 1
                  go_wp2_with (first | (go_at_call 34; (with_reducible refine (elenchusref01_Same.calls t291 _ _ t292 t279 _ _ t280 t297 _ ?side1 ?side2 ?side3 ?side4 A40.out).mono ?_); (case side1 => refine (Kd.V_reads' (e := 25) (base := w.heap.size) (ok := fun k_ => ((k_ ≠ gb276 ∧ k_ ≠ gb284) ∧ k_ ≠ gb296)) (n := t292.length) (c := co36) ?_).2.2; exact (by (with_reducible repeat (first | apply Kd.V_alloc | apply Kd.V_drewN | apply Kd.V_drew)); exact (Kd.V_mono (Kd.V_far (p := ⟨gb296, 1, none⟩) (Kd.V_far (p := ⟨gb296, 0, none⟩) (Kd.V_mono HO294.out (fun k_ hk => (⟨hk, hk.2⟩ : _ ∧ k_ ≠ gb296))) (fun _ hk => hk.2) (.int .i64 t291)) (fun _ hk => hk.2) (.slice Ao36 t292.length co36)) (fun _ h_ => h_.1)))); (case side2 => exact (Kd.V_reads' HO294.out).2.1); (case side3 => refine (Kd.V_reads' (e := 25) (base := w.heap.size) (ok := fun k_ => ((k_ ≠ gb276 ∧ k_ ≠ gb284) ∧ k_ ≠ gb296)) (n := t280.length) (c := co24) ?_).2.2; exact (by (with_reducible repeat (first | apply Kd.V_alloc | apply Kd.V_drewN | apply Kd.V_drew)); exact (Kd.V_mono (Kd.V_far (p := ⟨gb296, 1, none⟩) (Kd.V_far (p := ⟨gb296, 0, none⟩) (Kd.V_mono HO282.out (fun k_ hk => (⟨hk, hk.2⟩ : _ ∧ k_ ≠ gb296))) (fun _ hk => hk.2) (.int .i64 t291)) (fun _ hk => hk.2) (.slice Ao36 t292.length co36)) (fun _ h_ => h_.1)))); (case side4 => exact (Kd.V_reads' HO282.out).2.1); rintro e w46 ⟨rfl, hb⟩; have n0_ := Aside0.mk (Kd.V_below (by (with_reducible repeat (first | apply Kd.V_alloc | apply Kd.V_drewN | apply Kd.V_drew)); exact (Kd.V_mono (Kd.V_far (p := ⟨gb296, 1, none⟩) (Kd.V_far (p := ⟨gb296, 0, none⟩) (Kd.V_mono HO282.out (fun k_ hk => (⟨hk, hk.2⟩ : _ ∧ k_ ≠ gb296))) (fun _ hk => hk.2) (.int .i64 t291)) (fun _ hk => hk.2) (.slice Ao36 t292.length co36)) (fun _ h_ => h_.1))) hb); have n1_ := Aside0.mk (Kd.V_below (by (with_reducible repeat (first | apply Kd.V_alloc | apply Kd.V_drewN | apply Kd.V_drew)); exact (Kd.V_mono (Kd.V_far (p := ⟨gb296, 1, none⟩) (Kd.V_far (p := ⟨gb296, 0, none⟩) (Kd.V_mono HO288.out (fun k_ hk => (⟨hk, hk.2⟩ : _ ∧ k_ ≠ gb296))) (fun _ hk => hk.2) (.int .i64 t291)) (fun _ hk => hk.2) (.slice Ao36 t292.length co36)) (fun _ h_ => h_.1))) hb); have n2_ := Aside0.mk (Kd.V_below (by (with_reducible repeat (first | apply Kd.V_alloc | apply Kd.V_drewN | apply Kd.V_drew)); exact (Kd.V_mono (Kd.V_far (p := ⟨gb296, 1, none⟩) (Kd.V_far (p := ⟨gb296, 0, none⟩) (Kd.V_mono HO294.out (fun k_ hk => (⟨hk, hk.2⟩ : _ ∧ k_ ≠ gb296))) (fun _ hk => hk.2) (.int .i64 t291)) (fun _ hk => hk.2) (.slice Ao36 t292.length co36)) (fun _ h_ => h_.1))) hb); have n3_ := Aside0.mk (blk_below (g := gb276) (o := .cells #[.int .i64 a0_0, .slice A0_1 l0_1.length c0_1] 25 (0, 0)) (by (with_reducible repeat (first | refine blk_drewN ?_ _ | refine blk_drew ?_ | refine blk_alloc ?_ _)); refine blk_far ?_ NB276_296.out _; (with_reducible repeat (first | refine blk_drewN ?_ _ | refine blk_drew ?_ | refine blk_alloc ?_ _)); refine blk_far ?_ NB276_296.out _; (with_reducible repeat (first | refine blk_drewN ?_ _ | refine blk_drew ?_ | refine blk_alloc ?_ _)); exact BK276.out) hb); have n4_ := Aside0.mk (blk_below (g := gb284) (o := .cells #[.int .i64 t279, .slice Ao24 t280.length co24] 25 (0, 0)) (by (with_reducible repeat (first | refine blk_drewN ?_ _ | refine blk_drew ?_ | refine blk_alloc ?_ _)); refine blk_far ?_ NB284_296.out _; (with_reducible repeat (first | refine blk_drewN ?_ _ | refine blk_drew ?_ | refine blk_alloc ?_ _)); refine blk_far ?_ NB284_296.out _; (with_reducible repeat (first | refine blk_drewN ?_ _ | refine blk_drew ?_ | refine blk_alloc ?_ _)); exact BK284.out) hb); have n5_ := Aside0.mk (blk_below (g := gb296) (o := .cells #[.int .i64 t291, .slice Ao36 t292.length co36] 25 (0, 0)) (by (with_reducible repeat (first | refine blk_drewN ?_ _ | refine blk_drew ?_ | refine blk_alloc ?_ _)); refine blk_put (cs := #[.int .i64 t291, .slice none 0 0]) ?_ 1 _ rfl; (with_reducible repeat (first | refine blk_drewN ?_ _ | refine blk_drew ?_ | refine blk_alloc ?_ _)); refine blk_put (cs := #[.int .i64 0, .slice none 0 0]) ?_ 0 _ rfl; (with_reducible repeat (first | refine blk_drewN ?_ _ | refine blk_drew ?_ | refine blk_alloc ?_ _)); exact BK296.out) hb); have n6_ := Aside0.mk (below_step (by repeat (first | (with_reducible first | exact HB.out | apply below_alloc | apply pw_below_drewN | apply below_drew1 | refine below_set ?_ GE276.out | refine below_set ?_ GE284.out | refine below_set ?_ GE296.out) | exact HB.out)) hb); clear HO282; clear HO288; clear HO294; clear BK276; clear BK284; clear BK296; clear HB; have HO282 := n0_; have HO288 := n1_; have HO294 := n2_; have BK276 := n3_; have BK284 := n4_; have BK296 := n5_; have HB := n6_; clear n0_ n1_ n2_ n3_ n4_ n5_ n6_; (try clear hb); (try clear hb2); (try clear hk); (try clear hi)))
                  go_meet
                  case rel => exact ⟨_, (!t297), (by first | rfl | (simp; done) | (simp [*]; done)), H', ⟨by have := HJ2.out; first | omega | exact Nat.le_refl _⟩, ⟨by (with_reducible repeat (first | apply Kd.V_alloc | apply Kd.V_drewN | apply Kd.V_drew)); exact Kd.V_mono HO288.out (fun _ hk => ⟨hk.1.1, ⟨hk.1.2, hk.2⟩⟩)⟩, ⟨by (with_reducible repeat (first | apply Kd.V_alloc | apply Kd.V_drewN | apply Kd.V_drew)); exact Kd.V_mono HO282.out (fun _ hk => ⟨hk.1.1, ⟨hk.1.2, hk.2⟩⟩)⟩, ⟨by (with_reducible repeat (first | apply Kd.V_alloc | apply Kd.V_drewN | apply Kd.V_drew)); exact Kd.V_mono HO294.out (fun _ hk => ⟨hk.1.1, ⟨hk.1.2, hk.2⟩⟩)⟩, ⟨by (with_reducible repeat (first | refine blk_drewN ?_ _ | refine blk_drew ?_ | refine blk_alloc ?_ _)); exact BK276.out⟩, ⟨by (with_reducible repeat (first | refine blk_drewN ?_ _ | refine blk_drew ?_ | refine blk_alloc ?_ _)); exact BK284.out⟩, ⟨by (with_reducible repeat (first | refine blk_drewN ?_ _ | refine blk_drew ?_ | refine blk_alloc ?_ _)); exact BK296.out⟩, ⟨by repeat (first | (with_reducible first | exact HB.out | apply below_alloc | apply pw_below_drewN | apply below_drew1 | refine below_set ?_ GE276.out | refine below_set ?_ GE284.out | refine below_set ?_ GE296.out) | exact HB.out)⟩⟩
                · rw [if_neg c39] at H
                  have c39b0 : (t295 == 0) = false := beq_eq_false_iff_ne.mpr c39
                  have c39b1 : (t295 != 0) = true := bne_iff_ne.mpr c39
                  have H' := Aside0.mk H
                  clear H
                  go_wp2
                  go_meet
                  case rel => exact ⟨_, (true), (by first | rfl | (simp; done) | (simp [*]; done)), H', ⟨by have := HJ2.out; first | omega | exact Nat.le_refl _⟩, ⟨by (with_reducible repeat (first | apply Kd.V_alloc | apply Kd.V_drewN | apply Kd.V_drew)); exact Kd.V_mono (Kd.V_far (p := ⟨gb296, 1, none⟩) (Kd.V_far (p := ⟨gb296, 0, none⟩) (Kd.V_mono HO288.out (fun k_ hk => (⟨hk, hk.2⟩ : _ ∧ k_ ≠ gb296))) (fun _ hk => hk.2) (.int .i64 t291)) (fun _ hk => hk.2) (.slice Ao36 t292.length co36)) (fun _ hk => ⟨hk.1.1.1, ⟨hk.1.1.2, hk.1.2⟩⟩)⟩, ⟨by (with_reducible repeat (first | apply Kd.V_alloc | apply Kd.V_drewN | apply Kd.V_drew)); exact Kd.V_mono (Kd.V_far (p := ⟨gb296, 1, none⟩) (Kd.V_far (p := ⟨gb296, 0, none⟩) (Kd.V_mono HO282.out (fun k_ hk => (⟨hk, hk.2⟩ : _ ∧ k_ ≠ gb296))) (fun _ hk => hk.2) (.int .i64 t291)) (fun _ hk => hk.2) (.slice Ao36 t292.length co36)) (fun _ hk => ⟨hk.1.1.1, ⟨hk.1.1.2, hk.1.2⟩⟩)⟩, ⟨by (with_reducible repeat (first | apply Kd.V_alloc | apply Kd.V_drewN | apply Kd.V_drew)); exact Kd.V_mono (Kd.V_far (p := ⟨gb296, 1, none⟩) (Kd.V_far (p := ⟨gb296, 0, none⟩) (Kd.V_mono HO294.out (fun k_ hk => (⟨hk, hk.2⟩ : _ ∧ k_ ≠ gb296))) (fun _ hk => hk.2) (.int .i64 t291)) (fun _ hk => hk.2) (.slice Ao36 t292.length co36)) (fun _ hk => ⟨hk.1.1.1, ⟨hk.1.1.2, hk.1.2⟩⟩)⟩, ⟨by (with_reducible repeat (first | refine blk_drewN ?_ _ | refine blk_drew ?_ | refine blk_alloc ?_ _)); refine blk_far ?_ NB276_296.out _; (with_reducible repeat (first | refine blk_drewN ?_ _ | refine blk_drew ?_ | refine blk_alloc ?_ _)); refine blk_far ?_ NB276_296.out _; (with_reducible repeat (first | refine blk_drewN ?_ _ | refine blk_drew ?_ | refine blk_alloc ?_ _)); exact BK276.out⟩, ⟨by (with_reducible repeat (first | refine blk_drewN ?_ _ | refine blk_drew ?_ | refine blk_alloc ?_ _)); refine blk_far ?_ NB284_296.out _; (with_reducible repeat (first | refine blk_drewN ?_ _ | refine blk_drew ?_ | refine blk_alloc ?_ _)); refine blk_far ?_ NB284_296.out _; (with_reducible repeat (first | refine blk_drewN ?_ _ | refine blk_drew ?_ | refine blk_alloc ?_ _)); exact BK284.out⟩, ⟨by (with_reducible repeat (first | refine blk_drewN ?_ _ | refine blk_drew ?_ | refine blk_alloc ?_ _)); refine blk_put (cs := #[.int .i64 t291, .slice none 0 0]) ?_ 1 _ rfl; (with_reducible repeat (first | refine blk_drewN ?_ _ | refine blk_drew ?_ | refine blk_alloc ?_ _)); refine blk_put (cs := #[.int .i64 0, .slice none 0 0]) ?_ 0 _ rfl; (with_reducible repeat (first | refine blk_drewN ?_ _ | refine blk_drew ?_ | refine blk_alloc ?_ _)); exact BK296.out⟩, ⟨by repeat (first | (with_reducible first | exact HB.out | apply below_alloc | apply pw_below_drewN | apply below_drew1 | refine below_set ?_ GE276.out | refine below_set ?_ GE284.out | refine below_set ?_ GE296.out) | exact HB.out)⟩⟩
              · rw [if_neg c38] at H
                have c38b0 : (t290 == 0) = false := beq_eq_false_iff_ne.mpr c38
                have c38b1 : (t290 != 0) = true := bne_iff_ne.mpr c38
                (first | rw [c38b0] | (simp only [i64_w, i32_w]; rw [c38b0]) | skip)
                have H' := Aside0.mk H
                clear H
                go_wp2
                go_meet
                case rel => exact ⟨_, (true), (by first | rfl | (simp; done) | (simp [*]; done)), H', ⟨by have := HJ2.out; first | omega | exact Nat.le_refl _⟩, ⟨by (with_reducible repeat (first | apply Kd.V_alloc | apply Kd.V_drewN | apply Kd.V_drew)); exact Kd.V_mono (Kd.V_far (p := ⟨gb296, 1, none⟩) (Kd.V_far (p := ⟨gb296, 0, none⟩) (Kd.V_mono HO288.out (fun k_ hk => (⟨hk, hk.2⟩ : _ ∧ k_ ≠ gb296))) (fun _ hk => hk.2) (.int .i64 t291)) (fun _ hk => hk.2) (.slice Ao36 t292.length co36)) (fun _ hk => ⟨hk.1.1.1, ⟨hk.1.1.2, hk.1.2⟩⟩)⟩, ⟨by (with_reducible repeat (first | apply Kd.V_alloc | apply Kd.V_drewN | apply Kd.V_drew)); exact Kd.V_mono (Kd.V_far (p := ⟨gb296, 1, none⟩) (Kd.V_far (p := ⟨gb296, 0, none⟩) (Kd.V_mono HO282.out (fun k_ hk => (⟨hk, hk.2⟩ : _ ∧ k_ ≠ gb296))) (fun _ hk => hk.2) (.int .i64 t291)) (fun _ hk => hk.2) (.slice Ao36 t292.length co36)) (fun _ hk => ⟨hk.1.1.1, ⟨hk.1.1.2, hk.1.2⟩⟩)⟩, ⟨by (with_reducible repeat (first | apply Kd.V_alloc | apply Kd.V_drewN | apply Kd.V_drew)); exact Kd.V_mono (Kd.V_far (p := ⟨gb296, 1, none⟩) (Kd.V_far (p := ⟨gb296, 0, none⟩) (Kd.V_mono HO294.out (fun k_ hk => (⟨hk, hk.2⟩ : _ ∧ k_ ≠ gb296))) (fun _ hk => hk.2) (.int .i64 t291)) (fun _ hk => hk.2) (.slice Ao36 t292.length co36)) (fun _ hk => ⟨hk.1.1.1, ⟨hk.1.1.2, hk.1.2⟩⟩)⟩, ⟨by (with_reducible repeat (first | refine blk_drewN ?_ _ | refine blk_drew ?_ | refine blk_alloc ?_ _)); refine blk_far ?_ NB276_296.out _; (with_reducible repeat (first | refine blk_drewN ?_ _ | refine blk_drew ?_ | refine blk_alloc ?_ _)); refine blk_far ?_ NB276_296.out _; (with_reducible repeat (first | refine blk_drewN ?_ _ | refine blk_drew ?_ | refine blk_alloc ?_ _)); exact BK276.out⟩, ⟨by (with_reducible repeat (first | refine blk_drewN ?_ _ | refine blk_drew ?_ | refine blk_alloc ?_ _)); refine blk_far ?_ NB284_296.out _; (with_reducible repeat (first | refine blk_drewN ?_ _ | refine blk_drew ?_ | refine blk_alloc ?_ _)); refine blk_far ?_ NB284_296.out _; (with_reducible repeat (first | refine blk_drewN ?_ _ | refine blk_drew ?_ | refine blk_alloc ?_ _)); exact BK284.out⟩, ⟨by (with_reducible repeat (first | refine blk_drewN ?_ _ | refine blk_drew ?_ | refine blk_alloc ?_ _)); refine blk_put (cs := #[.int .i64 t291, .slice none 0 0]) ?_ 1 _ rfl; (with_reducible repeat (first | refine blk_drewN ?_ _ | refine blk_drew ?_ | refine blk_alloc ?_ _)); refine blk_put (cs := #[.int .i64 0, .slice none 0 0]) ?_ 0 _ rfl; (with_reducible repeat (first | refine blk_drewN ?_ _ | refine blk_drew ?_ | refine blk_alloc ?_ _)); exact BK296.out⟩, ⟨by repeat (first | (with_reducible first | exact HB.out | apply below_alloc | apply pw_below_drewN | apply below_drew1 | refine below_set ?_ GE276.out | refine below_set ?_ GE284.out | refine below_set ?_ GE296.out) | exact HB.out)⟩⟩
            · replace c37 := Bool.eq_false_iff.mpr c37
              subst c37
              have H1 : (elenchuslaw05_MatchSolves.j1 kj2 l1 t286 true a0_0 l0_1) = some r := by rw [if_neg (show ¬ (false = true) by decide)] at H; exact H
              clear H
              have H := H1
              clear H1
              have H' := Aside0.mk H
              clear H
              go_wp2
              go_meet
              case rel => exact ⟨_, (true), (by first | rfl | (simp; done) | (simp [*]; done)), H', ⟨by have := HJ2.out; first | omega | exact Nat.le_refl _⟩, ⟨by (with_reducible repeat (first | apply Kd.V_alloc | apply Kd.V_drewN | apply Kd.V_drew)); exact Kd.V_mono (Kd.V_far (p := ⟨gb296, 1, none⟩) (Kd.V_far (p := ⟨gb296, 0, none⟩) (Kd.V_mono HO288.out (fun k_ hk => (⟨hk, hk.2⟩ : _ ∧ k_ ≠ gb296))) (fun _ hk => hk.2) (.int .i64 t291)) (fun _ hk => hk.2) (.slice Ao36 t292.length co36)) (fun _ hk => ⟨hk.1.1.1, ⟨hk.1.1.2, hk.1.2⟩⟩)⟩, ⟨by (with_reducible repeat (first | apply Kd.V_alloc | apply Kd.V_drewN | apply Kd.V_drew)); exact Kd.V_mono (Kd.V_far (p := ⟨gb296, 1, none⟩) (Kd.V_far (p := ⟨gb296, 0, none⟩) (Kd.V_mono HO282.out (fun k_ hk => (⟨hk, hk.2⟩ : _ ∧ k_ ≠ gb296))) (fun _ hk => hk.2) (.int .i64 t291)) (fun _ hk => hk.2) (.slice Ao36 t292.length co36)) (fun _ hk => ⟨hk.1.1.1, ⟨hk.1.1.2, hk.1.2⟩⟩)⟩, ⟨by (with_reducible repeat (first | apply Kd.V_alloc | apply Kd.V_drewN | apply Kd.V_drew)); exact Kd.V_mono (Kd.V_far (p := ⟨gb296, 1, none⟩) (Kd.V_far (p := ⟨gb296, 0, none⟩) (Kd.V_mono HO294.out (fun k_ hk => (⟨hk, hk.2⟩ : _ ∧ k_ ≠ gb296))) (fun _ hk => hk.2) (.int .i64 t291)) (fun _ hk => hk.2) (.slice Ao36 t292.length co36)) (fun _ hk => ⟨hk.1.1.1, ⟨hk.1.1.2, hk.1.2⟩⟩)⟩, ⟨by (with_reducible repeat (first | refine blk_drewN ?_ _ | refine blk_drew ?_ | refine blk_alloc ?_ _)); refine blk_far ?_ NB276_296.out _; (with_reducible repeat (first | refine blk_drewN ?_ _ | refine blk_drew ?_ | refine blk_alloc ?_ _)); refine blk_far ?_ NB276_296.out _; (with_reducible repeat (first | refine blk_drewN ?_ _ | refine blk_drew ?_ | refine blk_alloc ?_ _)); exact BK276.out⟩, ⟨by (with_reducible repeat (first | refine blk_drewN ?_ _ | refine blk_drew ?_ | refine blk_alloc ?_ _)); refine blk_far ?_ NB284_296.out _; (with_reducible repeat (first | refine blk_drewN ?_ _ | refine blk_drew ?_ | refine blk_alloc ?_ _)); refine blk_far ?_ NB284_296.out _; (with_reducible repeat (first | refine blk_drewN ?_ _ | refine blk_drew ?_ | refine blk_alloc ?_ _)); exact BK284.out⟩, ⟨by (with_reducible repeat (first | refine blk_drewN ?_ _ | refine blk_drew ?_ | refine blk_alloc ?_ _)); refine blk_put (cs := #[.int .i64 t291, .slice none 0 0]) ?_ 1 _ rfl; (with_reducible repeat (first | refine blk_drewN ?_ _ | refine blk_drew ?_ | refine blk_alloc ?_ _)); refine blk_put (cs := #[.int .i64 0, .slice none 0 0]) ?_ 0 _ rfl; (with_reducible repeat (first | refine blk_drewN ?_ _ | refine blk_drew ?_ | refine blk_alloc ?_ _)); exact BK296.out⟩, ⟨by repeat (first | (with_reducible first | exact HB.out | apply below_alloc | apply pw_below_drewN | apply below_drew1 | refine below_set ?_ GE276.out | refine below_set ?_ GE284.out | refine below_set ?_ GE296.out) | exact HB.out)⟩⟩
          case rest =>
            clear HC18
            try clear c1
            try clear c2
            try clear p2
            try clear c3
            try clear c4
            try clear c6
            try clear c13
            try clear c14
            try clear c15
            try clear c15b0
            try clear c15b1
            try clear c22
            try clear c26
            try clear c27
            try clear c33
            try clear c34
            try clear c37
            try clear c38
            try clear c38b0
            try clear c38b1
            try clear c39
            try clear c39b0
            try clear c39b1
            try clear c41
            try clear c42
            try clear c44
            try clear c46
            try clear hcz11_0
            try clear hcz11_1
            try clear hcz19_0
            try clear hcz19_1
            try clear hcz23_0
            try clear hcz23_1
            try clear hcz26_0
            try clear hcz26_1
            try clear hcz27_0
            try clear hcz27_1
            try clear hcz29_0
            try clear hcz29_1
            try clear hcz35_0
            try clear hcz35_1
            try clear hcz43_0
            try clear hcz43_1
            try clear hcz45_0
            try clear hcz45_1
            try clear hcz8_0
            try clear hcz8_1
            try clear hfz11_0
            try clear hfz11_1
            try clear hfz19_0
            try clear hfz19_1
            try clear hfz23_0
            try clear hfz23_1
            try clear hfz26_0
            try clear hfz26_1
            try clear hfz27_0
            try clear hfz27_1
            try clear hfz29_0
            try clear hfz29_1
            try clear hfz35_0
            try clear hfz35_1
            try clear hfz43_0
            try clear hfz43_1
            try clear hfz45_0
            try clear hfz45_1
            try clear hfz8_0
            try clear hfz8_1
            try clear p2
            obtain ⟨kq, x60_17, rfl, HA, HJ17, HO_7, HO_285001, HO_297001, BK276, BK284, BK296, HB⟩ := hcut
            cases kq with
            | zero => exact absurd HA.out (by simp [elenchuslaw05_MatchSolves.j1])
            | succ kj17 =>
              have H := HA.out
              clear HA
              simp only [elenchuslaw05_MatchSolves.j1] at H
              by_cases c47 : x60_17 = true
              · subst c47
                have H1 : (some false) = some r := by rw [if_pos rfl] at H; exact H
                clear H
                have H := H1
                clear H1
                obtain rfl := Option.some.inj H
                go_wp2
                go_ret
                exact ⟨by first | rfl | (simp [errW_none, errW_some] <;> rfl) | (simp [*, errW_none, errW_some] <;> rfl), by repeat (first | (with_reducible first | exact HB.out | apply below_alloc | apply pw_below_drewN | apply below_drew1 | refine below_set ?_ GE276.out | refine below_set ?_ GE284.out | refine below_set ?_ GE296.out) | exact HB.out)⟩
              · replace c47 := Bool.eq_false_iff.mpr c47
                subst c47
                have H1 : ((term_Vars.f a0_0 l0_1).bind fun t298 => (elenchuslaw05_MatchSolves.l0 kj17 l1 t286 t298 0)) = some r := by rw [if_neg (show ¬ (false = true) by decide)] at H; exact H
                clear H
                have H := H1
                clear H1
                replace H := Option.bind_eq_some_iff.mp H
                obtain ⟨t298, A480, H⟩ := H
                replace H : (elenchuslaw05_MatchSolves.l0 kj17 l1 t286 t298 0) = some r := H
                have A48 := Aside0.mk A480
                clear A480
                have H' := Aside0.mk H
                clear H
                have hnb49 := NB276_284.out
                have hnc49 := NB284_276.out
                have hnb50 := NB276_296.out
                have hnc50 := NB296_276.out
                have hcz51_0 : wc.cell? ⟨gb276, 0, none⟩ = some (.int .i64 a0_0) := (blk_cell BK276.out 0).trans rfl
                have hcz51_1 : wc.cell? ⟨gb276, 1, none⟩ = some (.slice A0_1 l0_1.length c0_1) := (blk_cell BK276.out 1).trans rfl
                have hfz51_0 := blk_frozen BK276.out 0
                have hfz51_1 := blk_frozen BK276.out 1
                go_wp2_with (first | ((with_reducible refine gate_callee (f := 37) rfl ?_); refine goesL_ (some 62) rfl rfl Try.func37 (by kernel_rfl) rfl #[.agg #[.int .i64 a0_0, .slice A0_1 l0_1.length c0_1]] rfl (by (try simp only [List.map_toArray, List.map_cons, List.map_nil]); first | done | rfl | (simp only [List.length_drop, List.length_take]; rfl)) ?_; (with_reducible refine (term_Vars.calls a0_0 _ _ l0_1 t298 _ ?side1 ?side2 A48.out).mono ?_); (case side1 => repeat (first | exact (Kd.C_below HR0_1.out HB.out) | (with_reducible refine Kd.C_alloc ?_ _) | (with_reducible refine Kd.C_drewN ?_ _) | (with_reducible refine Kd.C_drew ?_))); (case side2 => exact HC0_1.out); rintro e w52 ⟨v299, rfl, ho0, hb⟩; refine ⟨_, rfl, ?_⟩; have n0_ := Aside0.mk (Kd.V_below (by (with_reducible repeat (first | apply Kd.V_alloc | apply Kd.V_drewN | apply Kd.V_drew)); exact HO_7.out) hb); have n1_ := Aside0.mk (Kd.V_below (by (with_reducible repeat (first | apply Kd.V_alloc | apply Kd.V_drewN | apply Kd.V_drew)); exact HO_285001.out) hb); have n2_ := Aside0.mk (Kd.V_below (by (with_reducible repeat (first | apply Kd.V_alloc | apply Kd.V_drewN | apply Kd.V_drew)); exact HO_297001.out) hb); have n3_ := Aside0.mk (Kd.V_lower (Kd.V_mono (ok' := fun k_ => k_ ≠ gb276 ∧ k_ ≠ gb284 ∧ k_ ≠ gb296) ho0 (fun k_ hk_ => ⟨(Kd.freshB (g := gb276) (o := .cells #[.int .i64 a0_0, .slice A0_1 l0_1.length c0_1] 25 (0, 0)) (by (with_reducible repeat (first | refine blk_drewN ?_ _ | refine blk_drew ?_ | refine blk_alloc ?_ _)); exact BK276.out) k_ hk_), (Kd.freshB (g := gb284) (o := .cells #[.int .i64 t279, .slice Ao24 t280.length co24] 25 (0, 0)) (by (with_reducible repeat (first | refine blk_drewN ?_ _ | refine blk_drew ?_ | refine blk_alloc ?_ _)); exact BK284.out) k_ hk_), (Kd.freshB (g := gb296) (o := .cells #[.int .i64 t291, .slice Ao36 t292.length co36] 25 (0, 0)) (by (with_reducible repeat (first | refine blk_drewN ?_ _ | refine blk_drew ?_ | refine blk_alloc ?_ _)); exact BK296.out) k_ hk_)⟩)) (below_size (by repeat (first | (with_reducible first | exact HB.out | apply below_alloc | apply pw_below_drewN | apply below_drew1 | refine below_set ?_ GE276.out | refine below_set ?_ GE284.out | refine below_set ?_ GE296.out) | exact HB.out)))); have n4_ := Aside0.mk (blk_below (g := gb276) (o := .cells #[.int .i64 a0_0, .slice A0_1 l0_1.length c0_1] 25 (0, 0)) (by (with_reducible repeat (first | refine blk_drewN ?_ _ | refine blk_drew ?_ | refine blk_alloc ?_ _)); exact BK276.out) hb); have n5_ := Aside0.mk (blk_below (g := gb284) (o := .cells #[.int .i64 t279, .slice Ao24 t280.length co24] 25 (0, 0)) (by (with_reducible repeat (first | refine blk_drewN ?_ _ | refine blk_drew ?_ | refine blk_alloc ?_ _)); exact BK284.out) hb); have n6_ := Aside0.mk (blk_below (g := gb296) (o := .cells #[.int .i64 t291, .slice Ao36 t292.length co36] 25 (0, 0)) (by (with_reducible repeat (first | refine blk_drewN ?_ _ | refine blk_drew ?_ | refine blk_alloc ?_ _)); exact BK296.out) hb); have n7_ := Aside0.mk (below_step (by repeat (first | (with_reducible first | exact HB.out | apply below_alloc | apply pw_below_drewN | apply below_drew1 | refine below_set ?_ GE276.out | refine below_set ?_ GE284.out | refine below_set ?_ GE296.out) | exact HB.out)) hb); clear HO_7; clear HO_285001; clear HO_297001; clear BK276; clear BK284; clear BK296; clear HB; have HO_7 := n0_; have HO_285001 := n1_; have HO_297001 := n2_; have HO300 := n3_; have BK276 := n4_; have BK284 := n5_; have BK296 := n6_; have HB := n7_; clear n0_ n1_ n2_ n3_ n4_ n5_ n6_ n7_; (try clear hb); (try clear hb2); (try clear hk); (try clear hi); (try clear ho0)))
                go_loopg [13] kj17 (fun kq v13 w' => ∃ (x13_3 : Int), v13 = .int .i64 x13_3 ∧ Aside0 (elenchuslaw05_MatchSolves.l0 kq l1 t286 t298 x13_3 = some r) ∧ Aside0 (kq ≤ kj17) ∧ Aside0 (Kd.V k60 60 w' w.heap.size (fun k_ => k_ ≠ gb276 ∧ k_ ≠ gb284 ∧ k_ ≠ gb296) (.slice Ao30 t286.length co30) t286) ∧ Aside0 (Kd.V (Kd.int .i64) 3 w' w.heap.size (fun k_ => k_ ≠ gb276 ∧ k_ ≠ gb284 ∧ k_ ≠ gb296) v299 t298) ∧ Aside0 (Kd.V k25 25 w' w.heap.size (fun k_ => k_ ≠ gb276 ∧ k_ ≠ gb284 ∧ k_ ≠ gb296) (.slice Ao24 t280.length co24) t280) ∧ Aside0 (Kd.V k25 25 w' w.heap.size (fun k_ => k_ ≠ gb276 ∧ k_ ≠ gb284 ∧ k_ ≠ gb296) (.slice Ao36 t292.length co36) t292) ∧ Aside0 (w'.heap[gb276]? = some (.cells #[.int .i64 a0_0, (.slice A0_1 l0_1.length c0_1)] 25 (0, 0))) ∧ Aside0 (w'.heap[gb284]? = some (.cells #[.int .i64 t279, (.slice Ao24 t280.length co24)] 25 (0, 0))) ∧ Aside0 (w'.heap[gb296]? = some (.cells #[.int .i64 t291, (.slice Ao36 t292.length co36)] 25 (0, 0))) ∧ Aside0 (Below w.heap.size w w'))
                case atStart => exact ⟨(0), (by first | rfl | (simp; done) | (simp [*]; done)), H', ⟨Nat.le_refl _⟩, ⟨by (with_reducible repeat (first | apply Kd.V_alloc | apply Kd.V_drewN | apply Kd.V_drew)); exact HO_7.out⟩, ⟨by (with_reducible repeat (first | apply Kd.V_alloc | apply Kd.V_drewN | apply Kd.V_drew)); exact HO300.out⟩, ⟨by (with_reducible repeat (first | apply Kd.V_alloc | apply Kd.V_drewN | apply Kd.V_drew)); exact HO_285001.out⟩, ⟨by (with_reducible repeat (first | apply Kd.V_alloc | apply Kd.V_drewN | apply Kd.V_drew)); exact HO_297001.out⟩, ⟨by (with_reducible repeat (first | refine blk_drewN ?_ _ | refine blk_drew ?_ | refine blk_alloc ?_ _)); exact BK276.out⟩, ⟨by (with_reducible repeat (first | refine blk_drewN ?_ _ | refine blk_drew ?_ | refine blk_alloc ?_ _)); exact BK284.out⟩, ⟨by (with_reducible repeat (first | refine blk_drewN ?_ _ | refine blk_drew ?_ | refine blk_alloc ?_ _)); exact BK296.out⟩, ⟨by repeat (first | (with_reducible first | exact HB.out | apply below_alloc | apply pw_below_drewN | apply below_drew1 | refine below_set ?_ GE276.out | refine below_set ?_ GE284.out | refine below_set ?_ GE296.out) | exact HB.out)⟩⟩
                case round =>
                  clear H'
                  try clear c1
                  try clear c2
                  try clear p2
                  try clear c3
                  try clear c4
                  try clear c5
                  try clear c6
                  try clear c13
                  try clear c14
                  try clear c15
                  try clear c15b0
                  try clear c15b1
                  try clear c22
                  try clear c26
                  try clear c27
                  try clear c33
                  try clear c34
                  try clear c37
                  try clear c38
                  try clear c38b0
                  try clear c38b1
                  try clear c39
                  try clear c39b0
                  try clear c39b1
                  try clear c41
                  try clear c42
                  try clear c44
                  try clear c46
                  try clear c47
                  try clear c49
                  try clear c50
                  try clear hcz11_0
                  try clear hcz11_1
                  try clear hcz19_0
                  try clear hcz19_1
                  try clear hcz23_0
                  try clear hcz23_1
                  try clear hcz26_0
                  try clear hcz26_1
                  try clear hcz27_0
                  try clear hcz27_1
                  try clear hcz29_0
                  try clear hcz29_1
                  try clear hcz35_0
                  try clear hcz35_1
                  try clear hcz43_0
                  try clear hcz43_1
                  try clear hcz45_0
                  try clear hcz45_1
                  try clear hcz51_0
                  try clear hcz51_1
                  try clear hcz8_0
                  try clear hcz8_1
                  try clear hfz11_0
                  try clear hfz11_1
                  try clear hfz19_0
                  try clear hfz19_1
                  try clear hfz23_0
                  try clear hfz23_1
                  try clear hfz26_0
                  try clear hfz26_1
                  try clear hfz27_0
                  try clear hfz27_1
                  try clear hfz29_0
                  try clear hfz29_1
                  try clear hfz35_0
                  try clear hfz35_1
                  try clear hfz43_0
                  try clear hfz43_1
                  try clear hfz45_0
                  try clear hfz45_1
                  try clear hfz51_0
                  try clear hfz51_1
                  try clear hfz8_0
                  try clear hfz8_1
                  try clear p2
                  obtain ⟨x13_3, rfl, HA, HK3, HO_7, HO_12, HO_285001, HO_297001, BK276, BK284, BK296, HB⟩ := hrel
                  cases gk with
                  | zero => exact absurd HA.out (by simp [elenchuslaw05_MatchSolves.l0])
                  | succ k3 =>
                    have H := HA.out
                    clear HA
                    simp only [elenchuslaw05_MatchSolves.l0] at H
                    by_cases c53 : x13_3 < (t298.length : Int)
                    · rw [if_pos c53] at H
                      have c53b0 : decide (x13_3 < (t298.length : Int)) = true := decide_eq_true c53
                      clear c53
                      by_cases c54 : 0 ≤ x13_3
                      · rw [if_pos c54] at H
                        have c54b0 : decide (0 ≤ x13_3) = true := decide_eq_true c54
                        clear c54
                        replace H := Option.bind_eq_some_iff.mp H
                        obtain ⟨⟨t302, t303⟩, A550, H⟩ := H
                        replace H : ((subst_Of.f l1 (rd t298 x13_3)).bind fun bt307 => ((term_Same.f t302 t303 bt307.1 bt307.2).bind fun t311 => (if t311 = true then (elenchuslaw05_MatchSolves.l0 k3 l1 t286 t298 (wrap64 (x13_3 + 1))) else (some false)))) = some r := H
                        have A55 := Aside0.mk A550
                        clear A550
                        replace H := Option.bind_eq_some_iff.mp H
                        obtain ⟨⟨t307, t308⟩, A560, H⟩ := H
                        replace H : ((term_Same.f t302 t303 t307 t308).bind fun t311 => (if t311 = true then (elenchuslaw05_MatchSolves.l0 k3 l1 t286 t298 (wrap64 (x13_3 + 1))) else (some false))) = some r := H
                        have A56 := Aside0.mk A560
                        clear A560
                        replace H := Option.bind_eq_some_iff.mp H
                        obtain ⟨t311, A570, H⟩ := H
                        replace H : (if t311 = true then (elenchuslaw05_MatchSolves.l0 k3 l1 t286 t298 (wrap64 (x13_3 + 1))) else (some false)) = some r := H
                        have A57 := Aside0.mk A570
                        clear A570
                        by_cases c58 : t311 = true
                        · subst c58
                          have H1 : (elenchuslaw05_MatchSolves.l0 k3 l1 t286 t298 (wrap64 (x13_3 + 1))) = some r := by rw [if_pos rfl] at H; exact H
                          clear H
                          have H := H1
                          clear H1
                          have H' := Aside0.mk H
                          clear H
                          obtain ⟨Ao59, co59, eo59⟩ := Kd.V_slice HO_12.out
                          subst eo59
                          try go_wp2
                          have n0_ := Aside0.mk (Kd.V_drew HO_7.out)
                          have n1_ := Aside0.mk (Kd.V_drew HO_12.out)
                          have n2_ := Aside0.mk (Kd.V_drew HO_285001.out)
                          have n3_ := Aside0.mk (Kd.V_drew HO_297001.out)
                          have n4_ := Aside0.mk (blk_drew BK276.out)
                          have n5_ := Aside0.mk (blk_drew BK284.out)
                          have n6_ := Aside0.mk (blk_drew BK296.out)
                          have n7_ := Aside0.mk (below_drew1 HB.out)
                          clear HO_7
                          clear HO_12
                          clear HO_285001
                          clear HO_297001
                          clear BK276
                          clear BK284
                          clear BK296
                          clear HB
                          have HO_7 := n0_
                          have HO_12 := n1_
                          have HO_285001 := n2_
                          have HO_297001 := n3_
                          have BK276 := n4_
                          have BK284 := n5_
                          have BK296 := n6_
                          have HB := n7_
                          clear n0_ n1_ n2_ n3_ n4_ n5_ n6_ n7_
                          have p301 : 0 ≤ (x13_3 : Int) := of_decide_eq_true (by first | (with_reducible assumption) | assumption)
                          have q301 : x13_3 < (t298.length : Int) := of_decide_eq_true (by first | (with_reducible assumption) | assumption)
                          obtain ⟨ad301, e301, hx301_0⟩ := Kd.at_int (Kd.V_reads' HO_12.out).2.2 x13_3 p301 q301
                          cases e301
                          replace p301 := eq_true p301
                          replace q301 := eq_true q301
                          have p306 : 0 ≤ (x13_3 : Int) := of_decide_eq_true (by first | (with_reducible assumption) | assumption)
                          have q306 : x13_3 < (t298.length : Int) := of_decide_eq_true (by first | (with_reducible assumption) | assumption)
                          obtain ⟨ad306, e306, hx306_0⟩ := Kd.at_int (Kd.V_reads' HO_12.out).2.2 x13_3 p306 q306
                          obtain rfl : ad301 = ad306 := (by injection e306)
                          replace p306 := eq_true p306
                          replace q306 := eq_true q306
                          refine start_ (n := 14) (S := fun w' => w'.cell? (ad301.add (x13_3).toNat) = some (.int .i64 (rd t298 x13_3)) ∧ w'.cell? (ad301.add (x13_3).toNat) = some (.int .i64 (rd t298 x13_3))) (ds := []) #[false, false, false, false, false, false, false, false, false, false, false, false, false, false] (by kernel_rfl) rfl rfl ⟨hx301_0, hx306_0⟩ (fun hHeld => ?_); refine with_tabW elenchuslaw05_MatchSolves.tab14 elenchuslaw05_MatchSolves.bits14 (fun HT_ HW_ => ?_)
                          generalize wr.drew = w60 at HO_7 HO_12 HO_285001 HO_297001 BK276 BK284 BK296 HB hx301_0 hx306_0 hHeld ⊢
                          refine pure_ (i := 0) (N := some 69) (v := ?_) (a' := ?_) #[true, false, false, false, false, false, false, false, false, false, false, false, false, false] rfl rfl (any_of HT_.out (by kernel_rfl)) (fun _ _ _ h => h) (Or.inl ⟨by rfl, ?_⟩) ?_ ?_
                          rotate_left
                          · intro w'
                            go_simp
                            with_reducible rfl
                          rotate_left
                          · simp only [Act.put, List.setIfInBounds_toArray, List.set_cons_zero, List.set_cons_succ, i64_w, i32_w]
                            rfl
                          refine pure_ (i := 1) (N := some 70) (v := ?_) (a' := ?_) #[true, true, false, false, false, false, false, false, false, false, false, false, false, false] rfl rfl (any_of HT_.out (by kernel_rfl)) (fun _ _ _ h => h) (Or.inl ⟨by rfl, ?_⟩) ?_ ?_
                          rotate_left
                          · intro w'
                            go_simp
                            with_reducible rfl
                          rotate_left
                          · simp only [Act.put, List.setIfInBounds_toArray, List.set_cons_zero, List.set_cons_succ, i64_w, i32_w]
                            rfl
                          refine pure_ (i := 2) (N := some 71) (v := ?_) (a' := ?_) #[true, true, true, false, false, false, false, false, false, false, false, false, false, false] rfl rfl (any_of HT_.out (by kernel_rfl)) (fun _ _ _ h => h) (Or.inl ⟨by rfl, ?_⟩) ?_ ?_
                          rotate_left
                          · intro w'
                            go_simp
                            with_reducible rfl
                          rotate_left
                          · simp only [Act.put, List.setIfInBounds_toArray, List.set_cons_zero, List.set_cons_succ, i64_w, i32_w]
                            rfl
                          refine pure_ (i := 3) (N := some 72) (v := ?_) (a' := ?_) #[true, true, true, true, false, false, false, false, false, false, false, false, false, false] rfl rfl (any_of HT_.out (by kernel_rfl)) (fun _ _ _ h => h) (Or.inl ⟨by rfl, ?_⟩) ?_ ?_
                          rotate_left
                          · intro w'
                            go_simp
                            with_reducible rfl
                          rotate_left
                          · simp only [Act.put, List.setIfInBounds_toArray, List.set_cons_zero, List.set_cons_succ, i64_w, i32_w]
                            rfl
                          refine pure_ (i := 6) (N := some 75) (v := ?_) (a' := ?_) #[true, true, true, true, false, false, true, false, false, false, false, false, false, false] rfl rfl (any_of HT_.out (by kernel_rfl)) (fun _ _ _ h => h) (Or.inl ⟨by rfl, ?_⟩) ?_ ?_
                          rotate_left
                          · intro w'
                            go_simp
                            with_reducible rfl
                          rotate_left
                          · simp only [Act.put, List.setIfInBounds_toArray, List.set_cons_zero, List.set_cons_succ, i64_w, i32_w]
                            rfl
                          refine pure_ (i := 7) (N := some 76) (v := ?_) (a' := ?_) #[true, true, true, true, false, false, true, true, false, false, false, false, false, false] rfl rfl (any_of HT_.out (by kernel_rfl)) (fun _ _ _ h => h) (Or.inl ⟨by rfl, ?_⟩) ?_ ?_
                          rotate_left
                          · intro w'
                            go_simp
                            with_reducible rfl
                          rotate_left
                          · simp only [Act.put, List.setIfInBounds_toArray, List.set_cons_zero, List.set_cons_succ, i64_w, i32_w]
                            rfl
                          refine pure_ (i := 8) (N := some 77) (v := ?_) (a' := ?_) #[true, true, true, true, false, false, true, true, true, false, false, false, false, false] rfl rfl (any_of HT_.out (by kernel_rfl)) (fun _ _ _ h => h) (Or.inl ⟨by rfl, ?_⟩) ?_ ?_
                          rotate_left
                          · intro w'
                            go_simp
                            with_reducible rfl
                          rotate_left
                          · simp only [Act.put, List.setIfInBounds_toArray, List.set_cons_zero, List.set_cons_succ, i64_w, i32_w]
                            rfl
                          refine pure_ (i := 9) (N := some 78) (v := ?_) (a' := ?_) #[true, true, true, true, false, false, true, true, true, true, false, false, false, false] rfl rfl (any_of HT_.out (by kernel_rfl)) (fun _ _ _ h => h) (Or.inl ⟨by rfl, ?_⟩) ?_ ?_
                          rotate_left
                          · intro w'
                            go_simp
                            with_reducible rfl
                          rotate_left
                          · simp only [Act.put, List.setIfInBounds_toArray, List.set_cons_zero, List.set_cons_succ, i64_w, i32_w]
                            rfl
                          refine take_ (i := 4) (N := some 73) (v := ?_) (a' := ?_) #[true, true, true, true, true, false, true, true, true, true, false, false, false, false] rfl rfl (take_ofW HT_.out HW_.out (by kernel_rfl)) (fun _ _ _ h => h) (Or.inl ⟨by rfl, ?_⟩) hHeld ?_ ?_
                          rotate_left
                          · rintro w' ⟨s0, s1⟩
                            go_simp
                            with_reducible rfl
                          rotate_left
                          · simp only [Act.put, List.setIfInBounds_toArray, List.set_cons_zero, List.set_cons_succ, i64_w, i32_w]
                            rfl
                          refine take_ (i := 10) (N := some 79) (v := ?_) (a' := ?_) #[true, true, true, true, true, false, true, true, true, true, true, false, false, false] rfl rfl (take_ofW HT_.out HW_.out (by kernel_rfl)) (fun _ _ _ h => h) (Or.inl ⟨by rfl, ?_⟩) hHeld ?_ ?_
                          rotate_left
                          · rintro w' ⟨s0, s1⟩
                            go_simp
                            with_reducible rfl
                          rotate_left
                          · simp only [Act.put, List.setIfInBounds_toArray, List.set_cons_zero, List.set_cons_succ, i64_w, i32_w]
                            rfl
                          refine one_ (i := 5) (N := some 74) #[true, true, true, true, true, true, true, true, true, true, true, false, false, false] rfl rfl (one_of HT_.out (by kernel_rfl)) (by decide) (fun K hK => ?_)
                          refine goes_ Try.func35 (by kernel_rfl) rfl #[.slice Ao30 t286.length co30, .int .i64 (rd t298 x13_3)] (by rfl) rfl rfl (by (try simp only [List.map_toArray, List.map_cons, List.map_nil]); first | done | rfl | (simp only [List.length_drop, List.length_take]; rfl)) ?_
                          with_reducible refine (subst_Of.calls (fun k_ => (k_ ≠ gb276 ∧ (k_ ≠ gb284 ∧ k_ ≠ gb296))) _ _ t286 (rd t298 x13_3) t302 t303 _ ?side1 A55.out).mono ?_
                          (case side1 => exact HO_7.out)
                          rintro e w61 ⟨v304, rfl, ho0, hb⟩
                          have HS0_ := (hb.cell (World.block_lt_of_cell? _ _ (hHeld.1))).trans (hHeld.1)
                          have HS1_ := (hb.cell (World.block_lt_of_cell? _ _ (hHeld.2))).trans (hHeld.2)
                          refine ⟨_, rfl, ?_⟩
                          have n0_ := Aside0.mk (Kd.V_below (by (with_reducible repeat (first | apply Kd.V_alloc | apply Kd.V_drewN | apply Kd.V_drew)); exact HO_7.out) hb)
                          have n1_ := Aside0.mk (Kd.V_below (by (with_reducible repeat (first | apply Kd.V_alloc | apply Kd.V_drewN | apply Kd.V_drew)); exact HO_12.out) hb)
                          have n2_ := Aside0.mk (Kd.V_below (by (with_reducible repeat (first | apply Kd.V_alloc | apply Kd.V_drewN | apply Kd.V_drew)); exact HO_285001.out) hb)
                          have n3_ := Aside0.mk (Kd.V_below (by (with_reducible repeat (first | apply Kd.V_alloc | apply Kd.V_drewN | apply Kd.V_drew)); exact HO_297001.out) hb)
                          have n4_ := Aside0.mk (Kd.V_lower (Kd.V_mono (ok' := fun k_ => k_ ≠ gb276 ∧ k_ ≠ gb284 ∧ k_ ≠ gb296) ho0 (fun k_ hk_ => ⟨Or.elim hk_ (fun hs_ => hs_.1) (fun hn_ => (Kd.freshB (g := gb276) (o := .cells #[.int .i64 a0_0, .slice A0_1 l0_1.length c0_1] 25 (0, 0)) (by (with_reducible repeat (first | refine blk_drewN ?_ _ | refine blk_drew ?_ | refine blk_alloc ?_ _)); exact BK276.out) k_ hn_)), Or.elim hk_ (fun hs_ => hs_.2.1) (fun hn_ => (Kd.freshB (g := gb284) (o := .cells #[.int .i64 t279, .slice Ao24 t280.length co24] 25 (0, 0)) (by (with_reducible repeat (first | refine blk_drewN ?_ _ | refine blk_drew ?_ | refine blk_alloc ?_ _)); exact BK284.out) k_ hn_)), Or.elim hk_ (fun hs_ => hs_.2.2) (fun hn_ => (Kd.freshB (g := gb296) (o := .cells #[.int .i64 t291, .slice Ao36 t292.length co36] 25 (0, 0)) (by (with_reducible repeat (first | refine blk_drewN ?_ _ | refine blk_drew ?_ | refine blk_alloc ?_ _)); exact BK296.out) k_ hn_))⟩)) (below_size (by repeat (first | (with_reducible first | exact HB.out | apply below_alloc | apply pw_below_drewN | apply below_drew1 | refine below_set ?_ GE276.out | refine below_set ?_ GE284.out | refine below_set ?_ GE296.out) | exact HB.out))))
                          have n5_ := Aside0.mk (blk_below (g := gb276) (o := .cells #[.int .i64 a0_0, .slice A0_1 l0_1.length c0_1] 25 (0, 0)) (by (with_reducible repeat (first | refine blk_drewN ?_ _ | refine blk_drew ?_ | refine blk_alloc ?_ _)); exact BK276.out) hb)
                          have n6_ := Aside0.mk (blk_below (g := gb284) (o := .cells #[.int .i64 t279, .slice Ao24 t280.length co24] 25 (0, 0)) (by (with_reducible repeat (first | refine blk_drewN ?_ _ | refine blk_drew ?_ | refine blk_alloc ?_ _)); exact BK284.out) hb)
                          have n7_ := Aside0.mk (blk_below (g := gb296) (o := .cells #[.int .i64 t291, .slice Ao36 t292.length co36] 25 (0, 0)) (by (with_reducible repeat (first | refine blk_drewN ?_ _ | refine blk_drew ?_ | refine blk_alloc ?_ _)); exact BK296.out) hb)
                          have n8_ := Aside0.mk (below_step (by repeat (first | (with_reducible first | exact HB.out | apply below_alloc | apply pw_below_drewN | apply below_drew1 | refine below_set ?_ GE276.out | refine below_set ?_ GE284.out | refine below_set ?_ GE296.out) | exact HB.out)) hb)
                          clear HO_7
                          clear HO_12
                          clear HO_285001
                          clear HO_297001
                          clear BK276
                          clear BK284
                          clear BK296
                          clear HB
                          have HO_7 := n0_
                          have HO_12 := n1_
                          have HO_285001 := n2_
                          have HO_297001 := n3_
                          have HO305 := n4_
                          have BK276 := n5_
                          have BK284 := n6_
                          have BK296 := n7_
                          have HB := n8_
                          clear n0_ n1_ n2_ n3_ n4_ n5_ n6_ n7_ n8_
                          (try clear hb)
                          (try clear hb2)
                          (try clear hk)
                          (try clear hi)
                          (try clear ho0)
                          refine hK.out _ _ ⟨HS0_, HS1_⟩ (fun hHeld => ?_)
                          clear hK K
                          refine norm_ (a' := ?_) ?_ ?_
                          rotate_left
                          · show Act.put _ (some 74) _ = _
                            simp only [Act.put, List.setIfInBounds_toArray, List.set_cons_zero, List.set_cons_succ, i64_w, i32_w]
                            rfl
                          refine one_ (i := 11) (N := some 80) #[true, true, true, true, true, true, true, true, true, true, true, true, false, false] rfl rfl (one_of HT_.out (by kernel_rfl)) (by decide) (fun K hK => ?_)
                          refine goes_ Try.func35 (by kernel_rfl) rfl #[.slice A1 l1.length c1, .int .i64 (rd t298 x13_3)] (by rfl) rfl rfl (by (try simp only [List.map_toArray, List.map_cons, List.map_nil]); first | done | rfl | (simp only [List.length_drop, List.length_take]; rfl)) ?_
                          with_reducible refine (subst_Of.calls (fun k_ => k_ < w.heap.size) _ _ l1 (rd t298 x13_3) t307 t308 _ ?side1 A56.out).mono ?_
                          (case side1 => exact Kd.V_mk HC1.out (Kd.F_below (Kd.C_F k60_heap HR1.out) (by repeat (first | (with_reducible first | exact HB.out | apply below_alloc | apply pw_below_drewN | apply below_drew1 | refine below_set ?_ GE276.out | refine below_set ?_ GE284.out | refine below_set ?_ GE296.out) | exact HB.out))))
                          rintro e w62 ⟨v309, rfl, ho0, hb⟩
                          have HS0_ := (hb.cell (World.block_lt_of_cell? _ _ (hHeld.1))).trans (hHeld.1)
                          have HS1_ := (hb.cell (World.block_lt_of_cell? _ _ (hHeld.2))).trans (hHeld.2)
                          refine ⟨_, rfl, ?_⟩
                          have n0_ := Aside0.mk (Kd.V_below (by (with_reducible repeat (first | apply Kd.V_alloc | apply Kd.V_drewN | apply Kd.V_drew)); exact HO_7.out) hb)
                          have n1_ := Aside0.mk (Kd.V_below (by (with_reducible repeat (first | apply Kd.V_alloc | apply Kd.V_drewN | apply Kd.V_drew)); exact HO_12.out) hb)
                          have n2_ := Aside0.mk (Kd.V_below (by (with_reducible repeat (first | apply Kd.V_alloc | apply Kd.V_drewN | apply Kd.V_drew)); exact HO_285001.out) hb)
                          have n3_ := Aside0.mk (Kd.V_below (by (with_reducible repeat (first | apply Kd.V_alloc | apply Kd.V_drewN | apply Kd.V_drew)); exact HO_297001.out) hb)
                          have n4_ := Aside0.mk (Kd.V_below (by (with_reducible repeat (first | apply Kd.V_alloc | apply Kd.V_drewN | apply Kd.V_drew)); exact HO305.out) hb)
                          have n5_ := Aside0.mk (Kd.V_lower (Kd.V_mono (ok' := fun k_ => k_ ≠ gb276 ∧ k_ ≠ gb284 ∧ k_ ≠ gb296) ho0 (fun k_ hk_ => ⟨Or.elim hk_ (fun hs_ => fun e_ => Nat.not_le.2 hs_ (by rw [e_]; exact GW276.out)) (fun hn_ => (Kd.freshB (g := gb276) (o := .cells #[.int .i64 a0_0, .slice A0_1 l0_1.length c0_1] 25 (0, 0)) (by (with_reducible repeat (first | refine blk_drewN ?_ _ | refine blk_drew ?_ | refine blk_alloc ?_ _)); exact BK276.out) k_ hn_)), Or.elim hk_ (fun hs_ => fun e_ => Nat.not_le.2 hs_ (by rw [e_]; exact GW284.out)) (fun hn_ => (Kd.freshB (g := gb284) (o := .cells #[.int .i64 t279, .slice Ao24 t280.length co24] 25 (0, 0)) (by (with_reducible repeat (first | refine blk_drewN ?_ _ | refine blk_drew ?_ | refine blk_alloc ?_ _)); exact BK284.out) k_ hn_)), Or.elim hk_ (fun hs_ => fun e_ => Nat.not_le.2 hs_ (by rw [e_]; exact GW296.out)) (fun hn_ => (Kd.freshB (g := gb296) (o := .cells #[.int .i64 t291, .slice Ao36 t292.length co36] 25 (0, 0)) (by (with_reducible repeat (first | refine blk_drewN ?_ _ | refine blk_drew ?_ | refine blk_alloc ?_ _)); exact BK296.out) k_ hn_))⟩)) (below_size (by repeat (first | (with_reducible first | exact HB.out | apply below_alloc | apply pw_below_drewN | apply below_drew1 | refine below_set ?_ GE276.out | refine below_set ?_ GE284.out | refine below_set ?_ GE296.out) | exact HB.out))))
                          have n6_ := Aside0.mk (blk_below (g := gb276) (o := .cells #[.int .i64 a0_0, .slice A0_1 l0_1.length c0_1] 25 (0, 0)) (by (with_reducible repeat (first | refine blk_drewN ?_ _ | refine blk_drew ?_ | refine blk_alloc ?_ _)); exact BK276.out) hb)
                          have n7_ := Aside0.mk (blk_below (g := gb284) (o := .cells #[.int .i64 t279, .slice Ao24 t280.length co24] 25 (0, 0)) (by (with_reducible repeat (first | refine blk_drewN ?_ _ | refine blk_drew ?_ | refine blk_alloc ?_ _)); exact BK284.out) hb)
                          have n8_ := Aside0.mk (blk_below (g := gb296) (o := .cells #[.int .i64 t291, .slice Ao36 t292.length co36] 25 (0, 0)) (by (with_reducible repeat (first | refine blk_drewN ?_ _ | refine blk_drew ?_ | refine blk_alloc ?_ _)); exact BK296.out) hb)
                          have n9_ := Aside0.mk (below_step (by repeat (first | (with_reducible first | exact HB.out | apply below_alloc | apply pw_below_drewN | apply below_drew1 | refine below_set ?_ GE276.out | refine below_set ?_ GE284.out | refine below_set ?_ GE296.out) | exact HB.out)) hb)
                          clear HO_7
                          clear HO_12
                          clear HO_285001
                          clear HO_297001
                          clear HO305
                          clear BK276
                          clear BK284
                          clear BK296
                          clear HB
                          have HO_7 := n0_
                          have HO_12 := n1_
                          have HO_285001 := n2_
                          have HO_297001 := n3_
                          have HO305 := n4_
                          have HO310 := n5_
                          have BK276 := n6_
                          have BK284 := n7_
                          have BK296 := n8_
                          have HB := n9_
                          clear n0_ n1_ n2_ n3_ n4_ n5_ n6_ n7_ n8_ n9_
                          (try clear hb)
                          (try clear hb2)
                          (try clear hk)
                          (try clear hi)
                          (try clear ho0)
                          obtain ⟨Ao63, co63, eo63⟩ := Kd.V_slice HO305.out
                          (first | subst eo63 | (injection eo63 with f1_ f2_ f3_; have f4_ := f1_.symm; have f5_ := f3_.symm; clear f1_ f2_ f3_; subst f4_; subst f5_))
                          obtain ⟨Ao64, co64, eo64⟩ := Kd.V_slice HO310.out
                          (first | subst eo64 | (injection eo64 with f1_ f2_ f3_; have f4_ := f1_.symm; have f5_ := f3_.symm; clear f1_ f2_ f3_; subst f4_; subst f5_))
                          refine hK.out _ _ ⟨HS0_, HS1_⟩ (fun hHeld => ?_)
                          clear hK K
                          refine norm_ (a' := ?_) ?_ ?_
                          rotate_left
                          · show Act.put _ (some 80) _ = _
                            simp only [Act.put, List.setIfInBounds_toArray, List.set_cons_zero, List.set_cons_succ, i64_w, i32_w]
                            rfl
                          refine one_ (i := 12) (N := some 81) #[true, true, true, true, true, true, true, true, true, true, true, true, true, false] rfl rfl (one_of HT_.out (by kernel_rfl)) (by decide) (fun K hK => ?_)
                          refine goes_ Try.func38 (by kernel_rfl) rfl #[.agg #[.int .i64 t302, .slice Ao63 t303.length co63], .agg #[.int .i64 t307, .slice Ao64 t308.length co64]] (by rfl) rfl rfl (by (try simp only [List.map_toArray, List.map_cons, List.map_nil]); first | done | rfl | (simp only [List.length_drop, List.length_take]; rfl)) ?_
                          with_reducible refine (term_Same.calls t302 _ _ t303 t307 _ _ t308 true _ ?side1 ?side2 ?side3 ?side4 A57.out).mono ?_
                          (case side1 => repeat (first | exact (Kd.V_reads' HO305.out).2.2 | (with_reducible refine Kd.C_alloc ?_ _) | (with_reducible refine Kd.C_drewN ?_ _) | (with_reducible refine Kd.C_drew ?_)))
                          (case side2 => exact (Kd.V_reads' HO305.out).2.1)
                          (case side3 => repeat (first | exact (Kd.V_reads' HO310.out).2.2 | (with_reducible refine Kd.C_alloc ?_ _) | (with_reducible refine Kd.C_drewN ?_ _) | (with_reducible refine Kd.C_drew ?_)))
                          (case side4 => exact (Kd.V_reads' HO310.out).2.1)
                          rintro e w65 ⟨rfl, hb⟩
                          have HS0_ := (hb.cell (World.block_lt_of_cell? _ _ (hHeld.1))).trans (hHeld.1)
                          have HS1_ := (hb.cell (World.block_lt_of_cell? _ _ (hHeld.2))).trans (hHeld.2)
                          refine ⟨_, rfl, ?_⟩
                          have n0_ := Aside0.mk (Kd.V_below (by (with_reducible repeat (first | apply Kd.V_alloc | apply Kd.V_drewN | apply Kd.V_drew)); exact HO_7.out) hb)
                          have n1_ := Aside0.mk (Kd.V_below (by (with_reducible repeat (first | apply Kd.V_alloc | apply Kd.V_drewN | apply Kd.V_drew)); exact HO_12.out) hb)
                          have n2_ := Aside0.mk (Kd.V_below (by (with_reducible repeat (first | apply Kd.V_alloc | apply Kd.V_drewN | apply Kd.V_drew)); exact HO_285001.out) hb)
                          have n3_ := Aside0.mk (Kd.V_below (by (with_reducible repeat (first | apply Kd.V_alloc | apply Kd.V_drewN | apply Kd.V_drew)); exact HO_297001.out) hb)
                          have n4_ := Aside0.mk (Kd.V_below (by (with_reducible repeat (first | apply Kd.V_alloc | apply Kd.V_drewN | apply Kd.V_drew)); exact HO305.out) hb)
                          have n5_ := Aside0.mk (Kd.V_below (by (with_reducible repeat (first | apply Kd.V_alloc | apply Kd.V_drewN | apply Kd.V_drew)); exact HO310.out) hb)
                          have n6_ := Aside0.mk (blk_below (g := gb276) (o := .cells #[.int .i64 a0_0, .slice A0_1 l0_1.length c0_1] 25 (0, 0)) (by (with_reducible repeat (first | refine blk_drewN ?_ _ | refine blk_drew ?_ | refine blk_alloc ?_ _)); exact BK276.out) hb)
                          have n7_ := Aside0.mk (blk_below (g := gb284) (o := .cells #[.int .i64 t279, .slice Ao24 t280.length co24] 25 (0, 0)) (by (with_reducible repeat (first | refine blk_drewN ?_ _ | refine blk_drew ?_ | refine blk_alloc ?_ _)); exact BK284.out) hb)
                          have n8_ := Aside0.mk (blk_below (g := gb296) (o := .cells #[.int .i64 t291, .slice Ao36 t292.length co36] 25 (0, 0)) (by (with_reducible repeat (first | refine blk_drewN ?_ _ | refine blk_drew ?_ | refine blk_alloc ?_ _)); exact BK296.out) hb)
                          have n9_ := Aside0.mk (below_step (by repeat (first | (with_reducible first | exact HB.out | apply below_alloc | apply pw_below_drewN | apply below_drew1 | refine below_set ?_ GE276.out | refine below_set ?_ GE284.out | refine below_set ?_ GE296.out) | exact HB.out)) hb)
                          clear HO_7
                          clear HO_12
                          clear HO_285001
                          clear HO_297001
                          clear HO305
                          clear HO310
                          clear BK276
                          clear BK284
                          clear BK296
                          clear HB
                          have HO_7 := n0_
                          have HO_12 := n1_
                          have HO_285001 := n2_
                          have HO_297001 := n3_
                          have HO305 := n4_
                          have HO310 := n5_
                          have BK276 := n6_
                          have BK284 := n7_
                          have BK296 := n8_
                          have HB := n9_
                          clear n0_ n1_ n2_ n3_ n4_ n5_ n6_ n7_ n8_ n9_
                          (try clear hb)
                          (try clear hb2)
                          (try clear hk)
                          (try clear hi)
                          refine hK.out _ _ ⟨HS0_, HS1_⟩ (fun hHeld => ?_)
                          clear hK K
                          refine norm_ (a' := ?_) ?_ ?_
                          rotate_left
                          · show Act.put _ (some 81) _ = _
                            simp only [Act.put, List.setIfInBounds_toArray, List.set_cons_zero, List.set_cons_succ, i64_w, i32_w]
                            rfl
                          refine pure_ (i := 13) (N := some 82) (v := ?_) (a' := ?_) #[true, true, true, true, true, true, true, true, true, true, true, true, true, true] rfl rfl (any_of HT_.out (by kernel_rfl)) (fun _ _ _ h => h) (Or.inl ⟨by rfl, ?_⟩) ?_ ?_
                          rotate_left
                          · intro w'
                            go_simp
                            with_reducible rfl
                          rotate_left
                          · simp only [Act.put, List.setIfInBounds_toArray, List.set_cons_zero, List.set_cons_succ, i64_w, i32_w]
                            rfl
                          refine done_ (done_of HT_.out (by kernel_rfl)) ?_
                          try go_wp2
                          go_roundg k3
                          case measure => have := HJ2.out; have := HJ17.out; have := HK3.out; omega
                          case rel => exact ⟨(wrap64 (x13_3 + 1)), (by first | rfl | (simp; done) | (simp [*]; done)), H', ⟨by have := HJ2.out; have := HJ17.out; have := HK3.out; omega⟩, ⟨by (with_reducible repeat (first | apply Kd.V_alloc | apply Kd.V_drewN | apply Kd.V_drew)); exact HO_7.out⟩, ⟨by (with_reducible repeat (first | apply Kd.V_alloc | apply Kd.V_drewN | apply Kd.V_drew)); exact HO_12.out⟩, ⟨by (with_reducible repeat (first | apply Kd.V_alloc | apply Kd.V_drewN | apply Kd.V_drew)); exact HO_285001.out⟩, ⟨by (with_reducible repeat (first | apply Kd.V_alloc | apply Kd.V_drewN | apply Kd.V_drew)); exact HO_297001.out⟩, ⟨by (with_reducible repeat (first | refine blk_drewN ?_ _ | refine blk_drew ?_ | refine blk_alloc ?_ _)); exact BK276.out⟩, ⟨by (with_reducible repeat (first | refine blk_drewN ?_ _ | refine blk_drew ?_ | refine blk_alloc ?_ _)); exact BK284.out⟩, ⟨by (with_reducible repeat (first | refine blk_drewN ?_ _ | refine blk_drew ?_ | refine blk_alloc ?_ _)); exact BK296.out⟩, ⟨by repeat (first | (with_reducible first | exact HB.out | apply below_alloc | apply pw_below_drewN | apply below_drew1 | refine below_set ?_ GE276.out | refine below_set ?_ GE284.out | refine below_set ?_ GE296.out) | exact HB.out)⟩⟩
                        · replace c58 := Bool.eq_false_iff.mpr c58
                          subst c58
                          have H1 : (some false) = some r := by rw [if_neg (show ¬ (false = true) by decide)] at H; exact H
                          clear H
                          have H := H1
                          clear H1
                          obtain rfl := Option.some.inj H
                          obtain ⟨Ao66, co66, eo66⟩ := Kd.V_slice HO_12.out
                          subst eo66
                          try go_wp2
                          have n0_ := Aside0.mk (Kd.V_drew HO_7.out)
                          have n1_ := Aside0.mk (Kd.V_drew HO_12.out)
                          have n2_ := Aside0.mk (Kd.V_drew HO_285001.out)
                          have n3_ := Aside0.mk (Kd.V_drew HO_297001.out)
                          have n4_ := Aside0.mk (blk_drew BK276.out)
                          have n5_ := Aside0.mk (blk_drew BK284.out)
                          have n6_ := Aside0.mk (blk_drew BK296.out)
                          have n7_ := Aside0.mk (below_drew1 HB.out)
                          clear HO_7
                          clear HO_12
                          clear HO_285001
                          clear HO_297001
                          clear BK276
                          clear BK284
                          clear BK296
                          clear HB
                          have HO_7 := n0_
                          have HO_12 := n1_
                          have HO_285001 := n2_
                          have HO_297001 := n3_
                          have BK276 := n4_
                          have BK284 := n5_
                          have BK296 := n6_
                          have HB := n7_
                          clear n0_ n1_ n2_ n3_ n4_ n5_ n6_ n7_
                          have p301 : 0 ≤ (x13_3 : Int) := of_decide_eq_true (by first | (with_reducible assumption) | assumption)
                          have q301 : x13_3 < (t298.length : Int) := of_decide_eq_true (by first | (with_reducible assumption) | assumption)
                          obtain ⟨ad301, e301, hx301_0⟩ := Kd.at_int (Kd.V_reads' HO_12.out).2.2 x13_3 p301 q301
                          cases e301
                          replace p301 := eq_true p301
                          replace q301 := eq_true q301
                          have p306 : 0 ≤ (x13_3 : Int) := of_decide_eq_true (by first | (with_reducible assumption) | assumption)
                          have q306 : x13_3 < (t298.length : Int) := of_decide_eq_true (by first | (with_reducible assumption) | assumption)
                          obtain ⟨ad306, e306, hx306_0⟩ := Kd.at_int (Kd.V_reads' HO_12.out).2.2 x13_3 p306 q306
                          obtain rfl : ad301 = ad306 := (by injection e306)
                          replace p306 := eq_true p306
                          replace q306 := eq_true q306
                          refine start_ (n := 14) (S := fun w' => w'.cell? (ad301.add (x13_3).toNat) = some (.int .i64 (rd t298 x13_3)) ∧ w'.cell? (ad301.add (x13_3).toNat) = some (.int .i64 (rd t298 x13_3))) (ds := []) #[false, false, false, false, false, false, false, false, false, false, false, false, false, false] (by kernel_rfl) rfl rfl ⟨hx301_0, hx306_0⟩ (fun hHeld => ?_); refine with_tabW elenchuslaw05_MatchSolves.tab14 elenchuslaw05_MatchSolves.bits14 (fun HT_ HW_ => ?_)
                          generalize wr.drew = w67 at HO_7 HO_12 HO_285001 HO_297001 BK276 BK284 BK296 HB hx301_0 hx306_0 hHeld ⊢
                          refine pure_ (i := 0) (N := some 69) (v := ?_) (a' := ?_) #[true, false, false, false, false, false, false, false, false, false, false, false, false, false] rfl rfl (any_of HT_.out (by kernel_rfl)) (fun _ _ _ h => h) (Or.inl ⟨by rfl, ?_⟩) ?_ ?_
                          rotate_left
                          · intro w'
                            go_simp
                            with_reducible rfl
                          rotate_left
                          · simp only [Act.put, List.setIfInBounds_toArray, List.set_cons_zero, List.set_cons_succ, i64_w, i32_w]
                            rfl
                          refine pure_ (i := 1) (N := some 70) (v := ?_) (a' := ?_) #[true, true, false, false, false, false, false, false, false, false, false, false, false, false] rfl rfl (any_of HT_.out (by kernel_rfl)) (fun _ _ _ h => h) (Or.inl ⟨by rfl, ?_⟩) ?_ ?_
                          rotate_left
                          · intro w'
                            go_simp
                            with_reducible rfl
                          rotate_left
                          · simp only [Act.put, List.setIfInBounds_toArray, List.set_cons_zero, List.set_cons_succ, i64_w, i32_w]
                            rfl
                          refine pure_ (i := 2) (N := some 71) (v := ?_) (a' := ?_) #[true, true, true, false, false, false, false, false, false, false, false, false, false, false] rfl rfl (any_of HT_.out (by kernel_rfl)) (fun _ _ _ h => h) (Or.inl ⟨by rfl, ?_⟩) ?_ ?_
                          rotate_left
                          · intro w'
                            go_simp
                            with_reducible rfl
                          rotate_left
                          · simp only [Act.put, List.setIfInBounds_toArray, List.set_cons_zero, List.set_cons_succ, i64_w, i32_w]
                            rfl
                          refine pure_ (i := 3) (N := some 72) (v := ?_) (a' := ?_) #[true, true, true, true, false, false, false, false, false, false, false, false, false, false] rfl rfl (any_of HT_.out (by kernel_rfl)) (fun _ _ _ h => h) (Or.inl ⟨by rfl, ?_⟩) ?_ ?_
                          rotate_left
                          · intro w'
                            go_simp
                            with_reducible rfl
                          rotate_left
                          · simp only [Act.put, List.setIfInBounds_toArray, List.set_cons_zero, List.set_cons_succ, i64_w, i32_w]
                            rfl
                          refine pure_ (i := 6) (N := some 75) (v := ?_) (a' := ?_) #[true, true, true, true, false, false, true, false, false, false, false, false, false, false] rfl rfl (any_of HT_.out (by kernel_rfl)) (fun _ _ _ h => h) (Or.inl ⟨by rfl, ?_⟩) ?_ ?_
                          rotate_left
                          · intro w'
                            go_simp
                            with_reducible rfl
                          rotate_left
                          · simp only [Act.put, List.setIfInBounds_toArray, List.set_cons_zero, List.set_cons_succ, i64_w, i32_w]
                            rfl
                          refine pure_ (i := 7) (N := some 76) (v := ?_) (a' := ?_) #[true, true, true, true, false, false, true, true, false, false, false, false, false, false] rfl rfl (any_of HT_.out (by kernel_rfl)) (fun _ _ _ h => h) (Or.inl ⟨by rfl, ?_⟩) ?_ ?_
                          rotate_left
                          · intro w'
                            go_simp
                            with_reducible rfl
                          rotate_left
                          · simp only [Act.put, List.setIfInBounds_toArray, List.set_cons_zero, List.set_cons_succ, i64_w, i32_w]
                            rfl
                          refine pure_ (i := 8) (N := some 77) (v := ?_) (a' := ?_) #[true, true, true, true, false, false, true, true, true, false, false, false, false, false] rfl rfl (any_of HT_.out (by kernel_rfl)) (fun _ _ _ h => h) (Or.inl ⟨by rfl, ?_⟩) ?_ ?_
                          rotate_left
                          · intro w'
                            go_simp
                            with_reducible rfl
                          rotate_left
                          · simp only [Act.put, List.setIfInBounds_toArray, List.set_cons_zero, List.set_cons_succ, i64_w, i32_w]
                            rfl
                          refine pure_ (i := 9) (N := some 78) (v := ?_) (a' := ?_) #[true, true, true, true, false, false, true, true, true, true, false, false, false, false] rfl rfl (any_of HT_.out (by kernel_rfl)) (fun _ _ _ h => h) (Or.inl ⟨by rfl, ?_⟩) ?_ ?_
                          rotate_left
                          · intro w'
                            go_simp
                            with_reducible rfl
                          rotate_left
                          · simp only [Act.put, List.setIfInBounds_toArray, List.set_cons_zero, List.set_cons_succ, i64_w, i32_w]
                            rfl
                          refine take_ (i := 4) (N := some 73) (v := ?_) (a' := ?_) #[true, true, true, true, true, false, true, true, true, true, false, false, false, false] rfl rfl (take_ofW HT_.out HW_.out (by kernel_rfl)) (fun _ _ _ h => h) (Or.inl ⟨by rfl, ?_⟩) hHeld ?_ ?_
                          rotate_left
                          · rintro w' ⟨s0, s1⟩
                            go_simp
                            with_reducible rfl
                          rotate_left
                          · simp only [Act.put, List.setIfInBounds_toArray, List.set_cons_zero, List.set_cons_succ, i64_w, i32_w]
                            rfl
                          refine take_ (i := 10) (N := some 79) (v := ?_) (a' := ?_) #[true, true, true, true, true, false, true, true, true, true, true, false, false, false] rfl rfl (take_ofW HT_.out HW_.out (by kernel_rfl)) (fun _ _ _ h => h) (Or.inl ⟨by rfl, ?_⟩) hHeld ?_ ?_
                          rotate_left
                          · rintro w' ⟨s0, s1⟩
                            go_simp
                            with_reducible rfl
                          rotate_left
                          · simp only [Act.put, List.setIfInBounds_toArray, List.set_cons_zero, List.set_cons_succ, i64_w, i32_w]
                            rfl
                          refine one_ (i := 5) (N := some 74) #[true, true, true, true, true, true, true, true, true, true, true, false, false, false] rfl rfl (one_of HT_.out (by kernel_rfl)) (by decide) (fun K hK => ?_)
                          refine goes_ Try.func35 (by kernel_rfl) rfl #[.slice Ao30 t286.length co30, .int .i64 (rd t298 x13_3)] (by rfl) rfl rfl (by (try simp only [List.map_toArray, List.map_cons, List.map_nil]); first | done | rfl | (simp only [List.length_drop, List.length_take]; rfl)) ?_
                          with_reducible refine (subst_Of.calls (fun k_ => (k_ ≠ gb276 ∧ (k_ ≠ gb284 ∧ k_ ≠ gb296))) _ _ t286 (rd t298 x13_3) t302 t303 _ ?side1 A55.out).mono ?_
                          (case side1 => exact HO_7.out)
                          rintro e w68 ⟨v304, rfl, ho0, hb⟩
                          have HS0_ := (hb.cell (World.block_lt_of_cell? _ _ (hHeld.1))).trans (hHeld.1)
                          have HS1_ := (hb.cell (World.block_lt_of_cell? _ _ (hHeld.2))).trans (hHeld.2)
                          refine ⟨_, rfl, ?_⟩
                          have n0_ := Aside0.mk (Kd.V_below (by (with_reducible repeat (first | apply Kd.V_alloc | apply Kd.V_drewN | apply Kd.V_drew)); exact HO_7.out) hb)
                          have n1_ := Aside0.mk (Kd.V_below (by (with_reducible repeat (first | apply Kd.V_alloc | apply Kd.V_drewN | apply Kd.V_drew)); exact HO_12.out) hb)
                          have n2_ := Aside0.mk (Kd.V_below (by (with_reducible repeat (first | apply Kd.V_alloc | apply Kd.V_drewN | apply Kd.V_drew)); exact HO_285001.out) hb)
                          have n3_ := Aside0.mk (Kd.V_below (by (with_reducible repeat (first | apply Kd.V_alloc | apply Kd.V_drewN | apply Kd.V_drew)); exact HO_297001.out) hb)
                          have n4_ := Aside0.mk (Kd.V_lower (Kd.V_mono (ok' := fun k_ => k_ ≠ gb276 ∧ k_ ≠ gb284 ∧ k_ ≠ gb296) ho0 (fun k_ hk_ => ⟨Or.elim hk_ (fun hs_ => hs_.1) (fun hn_ => (Kd.freshB (g := gb276) (o := .cells #[.int .i64 a0_0, .slice A0_1 l0_1.length c0_1] 25 (0, 0)) (by (with_reducible repeat (first | refine blk_drewN ?_ _ | refine blk_drew ?_ | refine blk_alloc ?_ _)); exact BK276.out) k_ hn_)), Or.elim hk_ (fun hs_ => hs_.2.1) (fun hn_ => (Kd.freshB (g := gb284) (o := .cells #[.int .i64 t279, .slice Ao24 t280.length co24] 25 (0, 0)) (by (with_reducible repeat (first | refine blk_drewN ?_ _ | refine blk_drew ?_ | refine blk_alloc ?_ _)); exact BK284.out) k_ hn_)), Or.elim hk_ (fun hs_ => hs_.2.2) (fun hn_ => (Kd.freshB (g := gb296) (o := .cells #[.int .i64 t291, .slice Ao36 t292.length co36] 25 (0, 0)) (by (with_reducible repeat (first | refine blk_drewN ?_ _ | refine blk_drew ?_ | refine blk_alloc ?_ _)); exact BK296.out) k_ hn_))⟩)) (below_size (by repeat (first | (with_reducible first | exact HB.out | apply below_alloc | apply pw_below_drewN | apply below_drew1 | refine below_set ?_ GE276.out | refine below_set ?_ GE284.out | refine below_set ?_ GE296.out) | exact HB.out))))
                          have n5_ := Aside0.mk (blk_below (g := gb276) (o := .cells #[.int .i64 a0_0, .slice A0_1 l0_1.length c0_1] 25 (0, 0)) (by (with_reducible repeat (first | refine blk_drewN ?_ _ | refine blk_drew ?_ | refine blk_alloc ?_ _)); exact BK276.out) hb)
                          have n6_ := Aside0.mk (blk_below (g := gb284) (o := .cells #[.int .i64 t279, .slice Ao24 t280.length co24] 25 (0, 0)) (by (with_reducible repeat (first | refine blk_drewN ?_ _ | refine blk_drew ?_ | refine blk_alloc ?_ _)); exact BK284.out) hb)
                          have n7_ := Aside0.mk (blk_below (g := gb296) (o := .cells #[.int .i64 t291, .slice Ao36 t292.length co36] 25 (0, 0)) (by (with_reducible repeat (first | refine blk_drewN ?_ _ | refine blk_drew ?_ | refine blk_alloc ?_ _)); exact BK296.out) hb)
                          have n8_ := Aside0.mk (below_step (by repeat (first | (with_reducible first | exact HB.out | apply below_alloc | apply pw_below_drewN | apply below_drew1 | refine below_set ?_ GE276.out | refine below_set ?_ GE284.out | refine below_set ?_ GE296.out) | exact HB.out)) hb)
                          clear HO_7
                          clear HO_12
                          clear HO_285001
                          clear HO_297001
                          clear BK276
                          clear BK284
                          clear BK296
                          clear HB
                          have HO_7 := n0_
                          have HO_12 := n1_
                          have HO_285001 := n2_
                          have HO_297001 := n3_
                          have HO305 := n4_
                          have BK276 := n5_
                          have BK284 := n6_
                          have BK296 := n7_
                          have HB := n8_
                          clear n0_ n1_ n2_ n3_ n4_ n5_ n6_ n7_ n8_
                          (try clear hb)
                          (try clear hb2)
                          (try clear hk)
                          (try clear hi)
                          (try clear ho0)
                          refine hK.out _ _ ⟨HS0_, HS1_⟩ (fun hHeld => ?_)
                          clear hK K
                          refine norm_ (a' := ?_) ?_ ?_
                          rotate_left
                          · show Act.put _ (some 74) _ = _
                            simp only [Act.put, List.setIfInBounds_toArray, List.set_cons_zero, List.set_cons_succ, i64_w, i32_w]
                            rfl
                          refine one_ (i := 11) (N := some 80) #[true, true, true, true, true, true, true, true, true, true, true, true, false, false] rfl rfl (one_of HT_.out (by kernel_rfl)) (by decide) (fun K hK => ?_)
                          refine goes_ Try.func35 (by kernel_rfl) rfl #[.slice A1 l1.length c1, .int .i64 (rd t298 x13_3)] (by rfl) rfl rfl (by (try simp only [List.map_toArray, List.map_cons, List.map_nil]); first | done | rfl | (simp only [List.length_drop, List.length_take]; rfl)) ?_
                          with_reducible refine (subst_Of.calls (fun k_ => k_ < w.heap.size) _ _ l1 (rd t298 x13_3) t307 t308 _ ?side1 A56.out).mono ?_
                          (case side1 => exact Kd.V_mk HC1.out (Kd.F_below (Kd.C_F k60_heap HR1.out) (by repeat (first | (with_reducible first | exact HB.out | apply below_alloc | apply pw_below_drewN | apply below_drew1 | refine below_set ?_ GE276.out | refine below_set ?_ GE284.out | refine below_set ?_ GE296.out) | exact HB.out))))
                          rintro e w69 ⟨v309, rfl, ho0, hb⟩
                          have HS0_ := (hb.cell (World.block_lt_of_cell? _ _ (hHeld.1))).trans (hHeld.1)
                          have HS1_ := (hb.cell (World.block_lt_of_cell? _ _ (hHeld.2))).trans (hHeld.2)
                          refine ⟨_, rfl, ?_⟩
                          have n0_ := Aside0.mk (Kd.V_below (by (with_reducible repeat (first | apply Kd.V_alloc | apply Kd.V_drewN | apply Kd.V_drew)); exact HO_7.out) hb)
                          have n1_ := Aside0.mk (Kd.V_below (by (with_reducible repeat (first | apply Kd.V_alloc | apply Kd.V_drewN | apply Kd.V_drew)); exact HO_12.out) hb)
                          have n2_ := Aside0.mk (Kd.V_below (by (with_reducible repeat (first | apply Kd.V_alloc | apply Kd.V_drewN | apply Kd.V_drew)); exact HO_285001.out) hb)
                          have n3_ := Aside0.mk (Kd.V_below (by (with_reducible repeat (first | apply Kd.V_alloc | apply Kd.V_drewN | apply Kd.V_drew)); exact HO_297001.out) hb)
                          have n4_ := Aside0.mk (Kd.V_below (by (with_reducible repeat (first | apply Kd.V_alloc | apply Kd.V_drewN | apply Kd.V_drew)); exact HO305.out) hb)
                          have n5_ := Aside0.mk (Kd.V_lower (Kd.V_mono (ok' := fun k_ => k_ ≠ gb276 ∧ k_ ≠ gb284 ∧ k_ ≠ gb296) ho0 (fun k_ hk_ => ⟨Or.elim hk_ (fun hs_ => fun e_ => Nat.not_le.2 hs_ (by rw [e_]; exact GW276.out)) (fun hn_ => (Kd.freshB (g := gb276) (o := .cells #[.int .i64 a0_0, .slice A0_1 l0_1.length c0_1] 25 (0, 0)) (by (with_reducible repeat (first | refine blk_drewN ?_ _ | refine blk_drew ?_ | refine blk_alloc ?_ _)); exact BK276.out) k_ hn_)), Or.elim hk_ (fun hs_ => fun e_ => Nat.not_le.2 hs_ (by rw [e_]; exact GW284.out)) (fun hn_ => (Kd.freshB (g := gb284) (o := .cells #[.int .i64 t279, .slice Ao24 t280.length co24] 25 (0, 0)) (by (with_reducible repeat (first | refine blk_drewN ?_ _ | refine blk_drew ?_ | refine blk_alloc ?_ _)); exact BK284.out) k_ hn_)), Or.elim hk_ (fun hs_ => fun e_ => Nat.not_le.2 hs_ (by rw [e_]; exact GW296.out)) (fun hn_ => (Kd.freshB (g := gb296) (o := .cells #[.int .i64 t291, .slice Ao36 t292.length co36] 25 (0, 0)) (by (with_reducible repeat (first | refine blk_drewN ?_ _ | refine blk_drew ?_ | refine blk_alloc ?_ _)); exact BK296.out) k_ hn_))⟩)) (below_size (by repeat (first | (with_reducible first | exact HB.out | apply below_alloc | apply pw_below_drewN | apply below_drew1 | refine below_set ?_ GE276.out | refine below_set ?_ GE284.out | refine below_set ?_ GE296.out) | exact HB.out))))
                          have n6_ := Aside0.mk (blk_below (g := gb276) (o := .cells #[.int .i64 a0_0, .slice A0_1 l0_1.length c0_1] 25 (0, 0)) (by (with_reducible repeat (first | refine blk_drewN ?_ _ | refine blk_drew ?_ | refine blk_alloc ?_ _)); exact BK276.out) hb)
                          have n7_ := Aside0.mk (blk_below (g := gb284) (o := .cells #[.int .i64 t279, .slice Ao24 t280.length co24] 25 (0, 0)) (by (with_reducible repeat (first | refine blk_drewN ?_ _ | refine blk_drew ?_ | refine blk_alloc ?_ _)); exact BK284.out) hb)
                          have n8_ := Aside0.mk (blk_below (g := gb296) (o := .cells #[.int .i64 t291, .slice Ao36 t292.length co36] 25 (0, 0)) (by (with_reducible repeat (first | refine blk_drewN ?_ _ | refine blk_drew ?_ | refine blk_alloc ?_ _)); exact BK296.out) hb)
                          have n9_ := Aside0.mk (below_step (by repeat (first | (with_reducible first | exact HB.out | apply below_alloc | apply pw_below_drewN | apply below_drew1 | refine below_set ?_ GE276.out | refine below_set ?_ GE284.out | refine below_set ?_ GE296.out) | exact HB.out)) hb)
                          clear HO_7
                          clear HO_12
                          clear HO_285001
                          clear HO_297001
                          clear HO305
                          clear BK276
                          clear BK284
                          clear BK296
                          clear HB
                          have HO_7 := n0_
                          have HO_12 := n1_
                          have HO_285001 := n2_
                          have HO_297001 := n3_
                          have HO305 := n4_
                          have HO310 := n5_
                          have BK276 := n6_
                          have BK284 := n7_
                          have BK296 := n8_
                          have HB := n9_
                          clear n0_ n1_ n2_ n3_ n4_ n5_ n6_ n7_ n8_ n9_
                          (try clear hb)
                          (try clear hb2)
                          (try clear hk)
                          (try clear hi)
                          (try clear ho0)
                          obtain ⟨Ao70, co70, eo70⟩ := Kd.V_slice HO305.out
                          (first | subst eo70 | (injection eo70 with f1_ f2_ f3_; have f4_ := f1_.symm; have f5_ := f3_.symm; clear f1_ f2_ f3_; subst f4_; subst f5_))
                          obtain ⟨Ao71, co71, eo71⟩ := Kd.V_slice HO310.out
                          (first | subst eo71 | (injection eo71 with f1_ f2_ f3_; have f4_ := f1_.symm; have f5_ := f3_.symm; clear f1_ f2_ f3_; subst f4_; subst f5_))
                          refine hK.out _ _ ⟨HS0_, HS1_⟩ (fun hHeld => ?_)
                          clear hK K
                          refine norm_ (a' := ?_) ?_ ?_
                          rotate_left
                          · show Act.put _ (some 80) _ = _
                            simp only [Act.put, List.setIfInBounds_toArray, List.set_cons_zero, List.set_cons_succ, i64_w, i32_w]
                            rfl
                          refine one_ (i := 12) (N := some 81) #[true, true, true, true, true, true, true, true, true, true, true, true, true, false] rfl rfl (one_of HT_.out (by kernel_rfl)) (by decide) (fun K hK => ?_)
                          refine goes_ Try.func38 (by kernel_rfl) rfl #[.agg #[.int .i64 t302, .slice Ao70 t303.length co70], .agg #[.int .i64 t307, .slice Ao71 t308.length co71]] (by rfl) rfl rfl (by (try simp only [List.map_toArray, List.map_cons, List.map_nil]); first | done | rfl | (simp only [List.length_drop, List.length_take]; rfl)) ?_
                          with_reducible refine (term_Same.calls t302 _ _ t303 t307 _ _ t308 false _ ?side1 ?side2 ?side3 ?side4 A57.out).mono ?_
                          (case side1 => repeat (first | exact (Kd.V_reads' HO305.out).2.2 | (with_reducible refine Kd.C_alloc ?_ _) | (with_reducible refine Kd.C_drewN ?_ _) | (with_reducible refine Kd.C_drew ?_)))
                          (case side2 => exact (Kd.V_reads' HO305.out).2.1)
                          (case side3 => repeat (first | exact (Kd.V_reads' HO310.out).2.2 | (with_reducible refine Kd.C_alloc ?_ _) | (with_reducible refine Kd.C_drewN ?_ _) | (with_reducible refine Kd.C_drew ?_)))
                          (case side4 => exact (Kd.V_reads' HO310.out).2.1)
                          rintro e w72 ⟨rfl, hb⟩
                          have HS0_ := (hb.cell (World.block_lt_of_cell? _ _ (hHeld.1))).trans (hHeld.1)
                          have HS1_ := (hb.cell (World.block_lt_of_cell? _ _ (hHeld.2))).trans (hHeld.2)
                          refine ⟨_, rfl, ?_⟩
                          have n0_ := Aside0.mk (Kd.V_below (by (with_reducible repeat (first | apply Kd.V_alloc | apply Kd.V_drewN | apply Kd.V_drew)); exact HO_7.out) hb)
                          have n1_ := Aside0.mk (Kd.V_below (by (with_reducible repeat (first | apply Kd.V_alloc | apply Kd.V_drewN | apply Kd.V_drew)); exact HO_12.out) hb)
                          have n2_ := Aside0.mk (Kd.V_below (by (with_reducible repeat (first | apply Kd.V_alloc | apply Kd.V_drewN | apply Kd.V_drew)); exact HO_285001.out) hb)
                          have n3_ := Aside0.mk (Kd.V_below (by (with_reducible repeat (first | apply Kd.V_alloc | apply Kd.V_drewN | apply Kd.V_drew)); exact HO_297001.out) hb)
                          have n4_ := Aside0.mk (Kd.V_below (by (with_reducible repeat (first | apply Kd.V_alloc | apply Kd.V_drewN | apply Kd.V_drew)); exact HO305.out) hb)
                          have n5_ := Aside0.mk (Kd.V_below (by (with_reducible repeat (first | apply Kd.V_alloc | apply Kd.V_drewN | apply Kd.V_drew)); exact HO310.out) hb)
                          have n6_ := Aside0.mk (blk_below (g := gb276) (o := .cells #[.int .i64 a0_0, .slice A0_1 l0_1.length c0_1] 25 (0, 0)) (by (with_reducible repeat (first | refine blk_drewN ?_ _ | refine blk_drew ?_ | refine blk_alloc ?_ _)); exact BK276.out) hb)
                          have n7_ := Aside0.mk (blk_below (g := gb284) (o := .cells #[.int .i64 t279, .slice Ao24 t280.length co24] 25 (0, 0)) (by (with_reducible repeat (first | refine blk_drewN ?_ _ | refine blk_drew ?_ | refine blk_alloc ?_ _)); exact BK284.out) hb)
                          have n8_ := Aside0.mk (blk_below (g := gb296) (o := .cells #[.int .i64 t291, .slice Ao36 t292.length co36] 25 (0, 0)) (by (with_reducible repeat (first | refine blk_drewN ?_ _ | refine blk_drew ?_ | refine blk_alloc ?_ _)); exact BK296.out) hb)
                          have n9_ := Aside0.mk (below_step (by repeat (first | (with_reducible first | exact HB.out | apply below_alloc | apply pw_below_drewN | apply below_drew1 | refine below_set ?_ GE276.out | refine below_set ?_ GE284.out | refine below_set ?_ GE296.out) | exact HB.out)) hb)
                          clear HO_7
                          clear HO_12
                          clear HO_285001
                          clear HO_297001
                          clear HO305
                          clear HO310
                          clear BK276
                          clear BK284
                          clear BK296
                          clear HB
                          have HO_7 := n0_
                          have HO_12 := n1_
                          have HO_285001 := n2_
                          have HO_297001 := n3_
                          have HO305 := n4_
                          have HO310 := n5_
                          have BK276 := n6_
                          have BK284 := n7_
                          have BK296 := n8_
                          have HB := n9_
                          clear n0_ n1_ n2_ n3_ n4_ n5_ n6_ n7_ n8_ n9_
                          (try clear hb)
                          (try clear hb2)
                          (try clear hk)
                          (try clear hi)
                          refine hK.out _ _ ⟨HS0_, HS1_⟩ (fun hHeld => ?_)
                          clear hK K
                          refine norm_ (a' := ?_) ?_ ?_
                          rotate_left
                          · show Act.put _ (some 81) _ = _
                            simp only [Act.put, List.setIfInBounds_toArray, List.set_cons_zero, List.set_cons_succ, i64_w, i32_w]
                            rfl
                          refine pure_ (i := 13) (N := some 82) (v := ?_) (a' := ?_) #[true, true, true, true, true, true, true, true, true, true, true, true, true, true] rfl rfl (any_of HT_.out (by kernel_rfl)) (fun _ _ _ h => h) (Or.inl ⟨by rfl, ?_⟩) ?_ ?_
                          rotate_left
                          · intro w'
                            go_simp
                            with_reducible rfl
                          rotate_left
                          · simp only [Act.put, List.setIfInBounds_toArray, List.set_cons_zero, List.set_cons_succ, i64_w, i32_w]
                            rfl
                          refine done_ (done_of HT_.out (by kernel_rfl)) ?_
                          try go_wp2
                          go_ret
                          exact ⟨by first | rfl | (simp [errW_none, errW_some] <;> rfl) | (simp [*, errW_none, errW_some] <;> rfl), by repeat (first | (with_reducible first | exact HB.out | apply below_alloc | apply pw_below_drewN | apply below_drew1 | refine below_set ?_ GE276.out | refine below_set ?_ GE284.out | refine below_set ?_ GE296.out) | exact HB.out)⟩
                      · rw [if_neg c54] at H
                        exact absurd H (by simp)
                    · rw [if_neg c53] at H
                      have c53b0 : decide (x13_3 < (t298.length : Int)) = false := decide_eq_false c53
                      clear c53
                      have H' := Aside0.mk H
                      clear H
                      obtain ⟨Ao73, co73, eo73⟩ := Kd.V_slice HO_12.out
                      subst eo73
                      go_wp2
                      go_loopg [14] k3 (fun kq v14 w' => ∃ (x14_4 : Int), v14 = .int .i64 x14_4 ∧ Aside0 (elenchuslaw05_MatchSolves.l1 kq t286 t298 x14_4 = some r) ∧ Aside0 (kq ≤ k3) ∧ Aside0 (Kd.V k60 60 w' w.heap.size (fun k_ => k_ ≠ gb276 ∧ k_ ≠ gb284 ∧ k_ ≠ gb296) (.slice Ao30 t286.length co30) t286) ∧ Aside0 (Kd.V (Kd.int .i64) 3 w' w.heap.size (fun k_ => k_ ≠ gb276 ∧ k_ ≠ gb284 ∧ k_ ≠ gb296) (.slice Ao73 t298.length co73) t298) ∧ Aside0 (Kd.V k25 25 w' w.heap.size (fun k_ => k_ ≠ gb276 ∧ k_ ≠ gb284 ∧ k_ ≠ gb296) (.slice Ao24 t280.length co24) t280) ∧ Aside0 (Kd.V k25 25 w' w.heap.size (fun k_ => k_ ≠ gb276 ∧ k_ ≠ gb284 ∧ k_ ≠ gb296) (.slice Ao36 t292.length co36) t292) ∧ Aside0 (w'.heap[gb276]? = some (.cells #[.int .i64 a0_0, (.slice A0_1 l0_1.length c0_1)] 25 (0, 0))) ∧ Aside0 (w'.heap[gb284]? = some (.cells #[.int .i64 t279, (.slice Ao24 t280.length co24)] 25 (0, 0))) ∧ Aside0 (w'.heap[gb296]? = some (.cells #[.int .i64 t291, (.slice Ao36 t292.length co36)] 25 (0, 0))) ∧ Aside0 (Below w.heap.size w w'))
                      case atStart => exact ⟨(0), (by first | rfl | (simp; done) | (simp [*]; done)), H', ⟨Nat.le_refl _⟩, ⟨by (with_reducible repeat (first | apply Kd.V_alloc | apply Kd.V_drewN | apply Kd.V_drew)); exact HO_7.out⟩, ⟨by (with_reducible repeat (first | apply Kd.V_alloc | apply Kd.V_drewN | apply Kd.V_drew)); exact HO_12.out⟩, ⟨by (with_reducible repeat (first | apply Kd.V_alloc | apply Kd.V_drewN | apply Kd.V_drew)); exact HO_285001.out⟩, ⟨by (with_reducible repeat (first | apply Kd.V_alloc | apply Kd.V_drewN | apply Kd.V_drew)); exact HO_297001.out⟩, ⟨by (with_reducible repeat (first | refine blk_drewN ?_ _ | refine blk_drew ?_ | refine blk_alloc ?_ _)); exact BK276.out⟩, ⟨by (with_reducible repeat (first | refine blk_drewN ?_ _ | refine blk_drew ?_ | refine blk_alloc ?_ _)); exact BK284.out⟩, ⟨by (with_reducible repeat (first | refine blk_drewN ?_ _ | refine blk_drew ?_ | refine blk_alloc ?_ _)); exact BK296.out⟩, ⟨by repeat (first | (with_reducible first | exact HB.out | apply below_alloc | apply pw_below_drewN | apply below_drew1 | refine below_set ?_ GE276.out | refine below_set ?_ GE284.out | refine below_set ?_ GE296.out) | exact HB.out)⟩⟩
                      case round =>
                        clear H'
                        try clear c1
                        try clear p2
                        try clear c3
                        try clear p3
                        try clear q3
                        try clear hx3
                        try clear c5
                        try clear p6
                        try clear p30
                        try clear q30
                        try clear hx30
                        try clear c35
                        try clear c38
                        try clear c53
                        try clear c53b0
                        try clear c54
                        try clear c58
                        try clear p64
                        try clear hx301_0
                        try clear hx306_0
                        try clear p301
                        try clear p306
                        try clear q301
                        try clear q306
                        obtain ⟨x14_4, rfl, HA, HK4, HO_7, HO_12, HO_285001, HO_297001, BK276, BK284, BK296, HB⟩ := hrel
                        cases gk with
                        | zero => exact absurd HA.out (by simp [elenchuslaw05_MatchSolves.l1])
                        | succ k4 =>
                          have H := HA.out
                          clear HA
                          simp only [elenchuslaw05_MatchSolves.l1] at H
                          by_cases c74 : x14_4 < (t286.length : Int)
                          · rw [if_pos c74] at H
                            have c74b0 : decide (x14_4 < (t286.length : Int)) = true := decide_eq_true c74
                            clear c74
                            by_cases c75 : 0 ≤ x14_4
                            · rw [if_pos c75] at H
                              have c75b0 : decide (0 ≤ x14_4) = true := decide_eq_true c75
                              clear c75
                              replace H := Option.bind_eq_some_iff.mp H
                              obtain ⟨t313, A760, H⟩ := H
                              replace H : (if t313 = true then (elenchuslaw05_MatchSolves.l1 k4 t286 t298 (wrap64 (x14_4 + 1))) else (some false)) = some r := H
                              have A76 := Aside0.mk A760
                              clear A760
                              by_cases c77 : t313 = true
                              · subst c77
                                have H1 : (elenchuslaw05_MatchSolves.l1 k4 t286 t298 (wrap64 (x14_4 + 1))) = some r := by rw [if_pos rfl] at H; exact H
                                clear H
                                have H := H1
                                clear H1
                                have H' := Aside0.mk H
                                clear H
                                have p312 : 0 ≤ (x14_4 : Int) := of_decide_eq_true (by first | (with_reducible assumption) | assumption)
                                have q312 : x14_4 < (t286.length : Int) := of_decide_eq_true (by first | (with_reducible assumption) | assumption)
                                obtain ⟨ad312, A312_2, c312_2, e312, hx312_0, hx312_1, hx312_2, hl312_2, hi312_2⟩ := at_T60 (Kd.V_reads' HO_7.out).2.2 x14_4 p312 q312
                                cases e312
                                obtain ⟨ce312, hce312, hMe312, hcc312⟩ := Kd.V_get HO_7.out z60 x14_4 p312 (by first | exact q312 | exact of_decide_eq_true (by first | (with_reducible assumption) | assumption) | (have e_ := (Kd.V_reads' HO_7.out).1; omega))
                                obtain ⟨ua312_2, uc312_2, rfl, ul312_2, ge312_2⟩ := k60_openF hMe312
                                have hv312_2 := hcc312 2 _ rfl
                                rw [add_field _ _ 2 (by omega)] at hv312_2
                                replace hv312_2 := Option.some.inj (hv312_2.symm.trans hx312_2)
                                injection hv312_2 with hva_ hvn_ hvc_
                                rw [hva_] at ge312_2
                                rw [hvc_] at ul312_2
                                have HL312_2 := Aside0.mk (show Kd.V k25 25 _ w.heap.size _ _ ((rd_T60 t286 x14_4).f1.f1) from Kd.V_mk ul312_2 ge312_2)
                                clear hva_ hvn_ hvc_ ge312_2 ul312_2
                                clear hcc312 hce312
                                have HR312_2 := Aside0.mk hi312_2
                                have HC312_2 := Aside0.mk hl312_2
                                clear hi312_2 hl312_2
                                replace p312 := eq_true p312
                                replace q312 := eq_true q312
                                go_wp2_with (first | ((with_reducible refine gate_callee (f := 40) rfl ?_); refine goesL_ (some 95) rfl rfl Try.func40 (by kernel_rfl) rfl #[.int .i64 ((rd_T60 t286 x14_4).f0), .slice Ao73 t298.length co73] rfl (by (try simp only [List.map_toArray, List.map_cons, List.map_nil]); first | done | rfl | (simp only [List.length_drop, List.length_take]; rfl)) ?_; (with_reducible refine (elenchusref01_In.calls ((rd_T60 t286 x14_4).f0) _ _ t298 true _ ?side1 ?side2 A76.out).mono ?_); (case side1 => repeat (first | exact (Kd.V_reads' HO_12.out).2.2 | (with_reducible refine Kd.C_alloc ?_ _) | (with_reducible refine Kd.C_drewN ?_ _) | (with_reducible refine Kd.C_drew ?_))); (case side2 => exact (Kd.V_reads' HO_12.out).2.1); rintro e w78 ⟨rfl, hb⟩; refine ⟨_, rfl, ?_⟩; have n0_ := Aside0.mk (Kd.V_below (by (with_reducible repeat (first | apply Kd.V_alloc | apply Kd.V_drewN | apply Kd.V_drew)); exact HO_7.out) hb); have n1_ := Aside0.mk (Kd.V_below (by (with_reducible repeat (first | apply Kd.V_alloc | apply Kd.V_drewN | apply Kd.V_drew)); exact HO_12.out) hb); have n2_ := Aside0.mk (Kd.V_below (by (with_reducible repeat (first | apply Kd.V_alloc | apply Kd.V_drewN | apply Kd.V_drew)); exact HO_285001.out) hb); have n3_ := Aside0.mk (Kd.V_below (by (with_reducible repeat (first | apply Kd.V_alloc | apply Kd.V_drewN | apply Kd.V_drew)); exact HO_297001.out) hb); have n4_ := Aside0.mk (Kd.V_below (by (with_reducible repeat (first | apply Kd.V_alloc | apply Kd.V_drewN | apply Kd.V_drew)); exact HL312_2.out) hb); have n5_ := Aside0.mk (blk_below (g := gb276) (o := .cells #[.int .i64 a0_0, .slice A0_1 l0_1.length c0_1] 25 (0, 0)) (by (with_reducible repeat (first | refine blk_drewN ?_ _ | refine blk_drew ?_ | refine blk_alloc ?_ _)); exact BK276.out) hb); have n6_ := Aside0.mk (blk_below (g := gb284) (o := .cells #[.int .i64 t279, .slice Ao24 t280.length co24] 25 (0, 0)) (by (with_reducible repeat (first | refine blk_drewN ?_ _ | refine blk_drew ?_ | refine blk_alloc ?_ _)); exact BK284.out) hb); have n7_ := Aside0.mk (blk_below (g := gb296) (o := .cells #[.int .i64 t291, .slice Ao36 t292.length co36] 25 (0, 0)) (by (with_reducible repeat (first | refine blk_drewN ?_ _ | refine blk_drew ?_ | refine blk_alloc ?_ _)); exact BK296.out) hb); have n8_ := Aside0.mk (Kd.C_below (by repeat (first | (with_reducible exact HR312_2.out) | (with_reducible refine Kd.C_alloc ?_ _) | (with_reducible refine Kd.C_drewN ?_ _) | (with_reducible refine Kd.C_drew ?_) | exact HR312_2.out)) hb); have n9_ := Aside0.mk (below_step (by repeat (first | (with_reducible first | exact HB.out | apply below_alloc | apply pw_below_drewN | apply below_drew1 | refine below_set ?_ GE276.out | refine below_set ?_ GE284.out | refine below_set ?_ GE296.out) | exact HB.out)) hb); clear HO_7; clear HO_12; clear HO_285001; clear HO_297001; clear HL312_2; clear BK276; clear BK284; clear BK296; clear HR312_2; clear HB; have HO_7 := n0_; have HO_12 := n1_; have HO_285001 := n2_; have HO_297001 := n3_; have HL312_2 := n4_; have BK276 := n5_; have BK284 := n6_; have BK296 := n7_; have HR312_2 := n8_; have HB := n9_; clear n0_ n1_ n2_ n3_ n4_ n5_ n6_ n7_ n8_ n9_; (try clear hb); (try clear hb2); (try clear hk); (try clear hi)))
                                go_roundg k4
                                case measure => have := HJ2.out; have := HJ17.out; have := HK3.out; have := HK4.out; omega
                                case rel => exact ⟨(wrap64 (x14_4 + 1)), (by first | rfl | (simp; done) | (simp [*]; done)), H', ⟨by have := HJ2.out; have := HJ17.out; have := HK3.out; have := HK4.out; omega⟩, ⟨by (with_reducible repeat (first | apply Kd.V_alloc | apply Kd.V_drewN | apply Kd.V_drew)); exact HO_7.out⟩, ⟨by (with_reducible repeat (first | apply Kd.V_alloc | apply Kd.V_drewN | apply Kd.V_drew)); exact HO_12.out⟩, ⟨by (with_reducible repeat (first | apply Kd.V_alloc | apply Kd.V_drewN | apply Kd.V_drew)); exact HO_285001.out⟩, ⟨by (with_reducible repeat (first | apply Kd.V_alloc | apply Kd.V_drewN | apply Kd.V_drew)); exact HO_297001.out⟩, ⟨by (with_reducible repeat (first | refine blk_drewN ?_ _ | refine blk_drew ?_ | refine blk_alloc ?_ _)); exact BK276.out⟩, ⟨by (with_reducible repeat (first | refine blk_drewN ?_ _ | refine blk_drew ?_ | refine blk_alloc ?_ _)); exact BK284.out⟩, ⟨by (with_reducible repeat (first | refine blk_drewN ?_ _ | refine blk_drew ?_ | refine blk_alloc ?_ _)); exact BK296.out⟩, ⟨by repeat (first | (with_reducible first | exact HB.out | apply below_alloc | apply pw_below_drewN | apply below_drew1 | refine below_set ?_ GE276.out | refine below_set ?_ GE284.out | refine below_set ?_ GE296.out) | exact HB.out)⟩⟩
                              · replace c77 := Bool.eq_false_iff.mpr c77
                                subst c77
                                have H1 : (some false) = some r := by rw [if_neg (show ¬ (false = true) by decide)] at H; exact H
                                clear H
                                have H := H1
                                clear H1
                                obtain rfl := Option.some.inj H
                                have p312 : 0 ≤ (x14_4 : Int) := of_decide_eq_true (by first | (with_reducible assumption) | assumption)
                                have q312 : x14_4 < (t286.length : Int) := of_decide_eq_true (by first | (with_reducible assumption) | assumption)
                                obtain ⟨ad312, A312_2, c312_2, e312, hx312_0, hx312_1, hx312_2, hl312_2, hi312_2⟩ := at_T60 (Kd.V_reads' HO_7.out).2.2 x14_4 p312 q312
                                cases e312
                                obtain ⟨ce312, hce312, hMe312, hcc312⟩ := Kd.V_get HO_7.out z60 x14_4 p312 (by first | exact q312 | exact of_decide_eq_true (by first | (with_reducible assumption) | assumption) | (have e_ := (Kd.V_reads' HO_7.out).1; omega))
                                obtain ⟨ua312_2, uc312_2, rfl, ul312_2, ge312_2⟩ := k60_openF hMe312
                                have hv312_2 := hcc312 2 _ rfl
                                rw [add_field _ _ 2 (by omega)] at hv312_2
                                replace hv312_2 := Option.some.inj (hv312_2.symm.trans hx312_2)
                                injection hv312_2 with hva_ hvn_ hvc_
                                rw [hva_] at ge312_2
                                rw [hvc_] at ul312_2
                                have HL312_2 := Aside0.mk (show Kd.V k25 25 _ w.heap.size _ _ ((rd_T60 t286 x14_4).f1.f1) from Kd.V_mk ul312_2 ge312_2)
                                clear hva_ hvn_ hvc_ ge312_2 ul312_2
                                clear hcc312 hce312
                                have HR312_2 := Aside0.mk hi312_2
                                have HC312_2 := Aside0.mk hl312_2
                                clear hi312_2 hl312_2
                                replace p312 := eq_true p312
                                replace q312 := eq_true q312
                                go_wp2_with (first | ((with_reducible refine gate_callee (f := 40) rfl ?_); refine goesL_ (some 95) rfl rfl Try.func40 (by kernel_rfl) rfl #[.int .i64 ((rd_T60 t286 x14_4).f0), .slice Ao73 t298.length co73] rfl (by (try simp only [List.map_toArray, List.map_cons, List.map_nil]); first | done | rfl | (simp only [List.length_drop, List.length_take]; rfl)) ?_; (with_reducible refine (elenchusref01_In.calls ((rd_T60 t286 x14_4).f0) _ _ t298 false _ ?side1 ?side2 A76.out).mono ?_); (case side1 => repeat (first | exact (Kd.V_reads' HO_12.out).2.2 | (with_reducible refine Kd.C_alloc ?_ _) | (with_reducible refine Kd.C_drewN ?_ _) | (with_reducible refine Kd.C_drew ?_))); (case side2 => exact (Kd.V_reads' HO_12.out).2.1); rintro e w79 ⟨rfl, hb⟩; refine ⟨_, rfl, ?_⟩; have n0_ := Aside0.mk (Kd.V_below (by (with_reducible repeat (first | apply Kd.V_alloc | apply Kd.V_drewN | apply Kd.V_drew)); exact HO_7.out) hb); have n1_ := Aside0.mk (Kd.V_below (by (with_reducible repeat (first | apply Kd.V_alloc | apply Kd.V_drewN | apply Kd.V_drew)); exact HO_12.out) hb); have n2_ := Aside0.mk (Kd.V_below (by (with_reducible repeat (first | apply Kd.V_alloc | apply Kd.V_drewN | apply Kd.V_drew)); exact HO_285001.out) hb); have n3_ := Aside0.mk (Kd.V_below (by (with_reducible repeat (first | apply Kd.V_alloc | apply Kd.V_drewN | apply Kd.V_drew)); exact HO_297001.out) hb); have n4_ := Aside0.mk (Kd.V_below (by (with_reducible repeat (first | apply Kd.V_alloc | apply Kd.V_drewN | apply Kd.V_drew)); exact HL312_2.out) hb); have n5_ := Aside0.mk (blk_below (g := gb276) (o := .cells #[.int .i64 a0_0, .slice A0_1 l0_1.length c0_1] 25 (0, 0)) (by (with_reducible repeat (first | refine blk_drewN ?_ _ | refine blk_drew ?_ | refine blk_alloc ?_ _)); exact BK276.out) hb); have n6_ := Aside0.mk (blk_below (g := gb284) (o := .cells #[.int .i64 t279, .slice Ao24 t280.length co24] 25 (0, 0)) (by (with_reducible repeat (first | refine blk_drewN ?_ _ | refine blk_drew ?_ | refine blk_alloc ?_ _)); exact BK284.out) hb); have n7_ := Aside0.mk (blk_below (g := gb296) (o := .cells #[.int .i64 t291, .slice Ao36 t292.length co36] 25 (0, 0)) (by (with_reducible repeat (first | refine blk_drewN ?_ _ | refine blk_drew ?_ | refine blk_alloc ?_ _)); exact BK296.out) hb); have n8_ := Aside0.mk (Kd.C_below (by repeat (first | (with_reducible exact HR312_2.out) | (with_reducible refine Kd.C_alloc ?_ _) | (with_reducible refine Kd.C_drewN ?_ _) | (with_reducible refine Kd.C_drew ?_) | exact HR312_2.out)) hb); have n9_ := Aside0.mk (below_step (by repeat (first | (with_reducible first | exact HB.out | apply below_alloc | apply pw_below_drewN | apply below_drew1 | refine below_set ?_ GE276.out | refine below_set ?_ GE284.out | refine below_set ?_ GE296.out) | exact HB.out)) hb); clear HO_7; clear HO_12; clear HO_285001; clear HO_297001; clear HL312_2; clear BK276; clear BK284; clear BK296; clear HR312_2; clear HB; have HO_7 := n0_; have HO_12 := n1_; have HO_285001 := n2_; have HO_297001 := n3_; have HL312_2 := n4_; have BK276 := n5_; have BK284 := n6_; have BK296 := n7_; have HR312_2 := n8_; have HB := n9_; clear n0_ n1_ n2_ n3_ n4_ n5_ n6_ n7_ n8_ n9_; (try clear hb); (try clear hb2); (try clear hk); (try clear hi)))
                                go_ret
                                exact ⟨by first | rfl | (simp [errW_none, errW_some] <;> rfl) | (simp [*, errW_none, errW_some] <;> rfl), by repeat (first | (with_reducible first | exact HB.out | apply below_alloc | apply pw_below_drewN | apply below_drew1 | refine below_set ?_ GE276.out | refine below_set ?_ GE284.out | refine below_set ?_ GE296.out) | exact HB.out)⟩
                            · rw [if_neg c75] at H
                              exact absurd H (by simp)
                          · rw [if_neg c74] at H
                            have c74b0 : decide (x14_4 < (t286.length : Int)) = false := decide_eq_false c74
                            clear c74
                            replace H := Option.bind_eq_some_iff.mp H
                            obtain ⟨t314, A800, H⟩ := H
                            replace H : (if t314 = true then ((subst_Check.f t286).bind fun t315 => (some (t315 == 0))) else (some false)) = some r := H
                            have A80 := Aside0.mk A800
                            clear A800
                            by_cases c81 : t314 = true
                            · subst c81
                              have H1 : ((subst_Check.f t286).bind fun t315 => (some (t315 == 0))) = some r := by rw [if_pos rfl] at H; exact H
                              clear H
                              have H := H1
                              clear H1
                              replace H := Option.bind_eq_some_iff.mp H
                              obtain ⟨t315, A820, H⟩ := H
                              replace H : (some (t315 == 0)) = some r := H
                              have A82 := Aside0.mk A820
                              clear A820
                              obtain rfl := Option.some.inj H
                              go_wp2_with (first | ((with_reducible refine gate_callee (f := 44) rfl ?_); refine goesL_ (some 97) rfl rfl Try.func44 (by kernel_rfl) rfl #[] rfl (by (try simp only [List.map_toArray, List.map_cons, List.map_nil]); first | done | rfl | (simp only [List.length_drop, List.length_take]; rfl)) ?_; (with_reducible refine (elenchuslaw05_awake.calls  true _ A80.out).mono ?_); rintro e w83 ⟨rfl, hb⟩; refine ⟨_, rfl, ?_⟩; have n0_ := Aside0.mk (Kd.V_below (by (with_reducible repeat (first | apply Kd.V_alloc | apply Kd.V_drewN | apply Kd.V_drew)); exact HO_7.out) hb); have n1_ := Aside0.mk (Kd.V_below (by (with_reducible repeat (first | apply Kd.V_alloc | apply Kd.V_drewN | apply Kd.V_drew)); exact HO_12.out) hb); have n2_ := Aside0.mk (Kd.V_below (by (with_reducible repeat (first | apply Kd.V_alloc | apply Kd.V_drewN | apply Kd.V_drew)); exact HO_285001.out) hb); have n3_ := Aside0.mk (Kd.V_below (by (with_reducible repeat (first | apply Kd.V_alloc | apply Kd.V_drewN | apply Kd.V_drew)); exact HO_297001.out) hb); have n4_ := Aside0.mk (blk_below (g := gb276) (o := .cells #[.int .i64 a0_0, .slice A0_1 l0_1.length c0_1] 25 (0, 0)) (by (with_reducible repeat (first | refine blk_drewN ?_ _ | refine blk_drew ?_ | refine blk_alloc ?_ _)); exact BK276.out) hb); have n5_ := Aside0.mk (blk_below (g := gb284) (o := .cells #[.int .i64 t279, .slice Ao24 t280.length co24] 25 (0, 0)) (by (with_reducible repeat (first | refine blk_drewN ?_ _ | refine blk_drew ?_ | refine blk_alloc ?_ _)); exact BK284.out) hb); have n6_ := Aside0.mk (blk_below (g := gb296) (o := .cells #[.int .i64 t291, .slice Ao36 t292.length co36] 25 (0, 0)) (by (with_reducible repeat (first | refine blk_drewN ?_ _ | refine blk_drew ?_ | refine blk_alloc ?_ _)); exact BK296.out) hb); have n7_ := Aside0.mk (below_step (by repeat (first | (with_reducible first | exact HB.out | apply below_alloc | apply pw_below_drewN | apply below_drew1 | refine below_set ?_ GE276.out | refine below_set ?_ GE284.out | refine below_set ?_ GE296.out) | exact HB.out)) hb); clear HO_7; clear HO_12; clear HO_285001; clear HO_297001; clear BK276; clear BK284; clear BK296; clear HB; have HO_7 := n0_; have HO_12 := n1_; have HO_285001 := n2_; have HO_297001 := n3_; have BK276 := n4_; have BK284 := n5_; have BK296 := n6_; have HB := n7_; clear n0_ n1_ n2_ n3_ n4_ n5_ n6_ n7_; (try clear hb); (try clear hb2); (try clear hk); (try clear hi)) | (go_at_call 32; (with_reducible refine (subst_Check.calls _ _ t286 t315 _ ?side1 ?side2 A82.out).mono ?_); (case side1 => repeat (first | exact (Kd.V_reads' HO_7.out).2.2 | (with_reducible refine Kd.C_alloc ?_ _) | (with_reducible refine Kd.C_drewN ?_ _) | (with_reducible refine Kd.C_drew ?_))); (case side2 => exact (Kd.V_reads' HO_7.out).2.1); rintro e w84 ⟨rfl, hb⟩; have n0_ := Aside0.mk (Kd.V_below (by (with_reducible repeat (first | apply Kd.V_alloc | apply Kd.V_drewN | apply Kd.V_drew)); exact HO_7.out) hb); have n1_ := Aside0.mk (Kd.V_below (by (with_reducible repeat (first | apply Kd.V_alloc | apply Kd.V_drewN | apply Kd.V_drew)); exact HO_12.out) hb); have n2_ := Aside0.mk (Kd.V_below (by (with_reducible repeat (first | apply Kd.V_alloc | apply Kd.V_drewN | apply Kd.V_drew)); exact HO_285001.out) hb); have n3_ := Aside0.mk (Kd.V_below (by (with_reducible repeat (first | apply Kd.V_alloc | apply Kd.V_drewN | apply Kd.V_drew)); exact HO_297001.out) hb); have n4_ := Aside0.mk (blk_below (g := gb276) (o := .cells #[.int .i64 a0_0, .slice A0_1 l0_1.length c0_1] 25 (0, 0)) (by (with_reducible repeat (first | refine blk_drewN ?_ _ | refine blk_drew ?_ | refine blk_alloc ?_ _)); exact BK276.out) hb); have n5_ := Aside0.mk (blk_below (g := gb284) (o := .cells #[.int .i64 t279, .slice Ao24 t280.length co24] 25 (0, 0)) (by (with_reducible repeat (first | refine blk_drewN ?_ _ | refine blk_drew ?_ | refine blk_alloc ?_ _)); exact BK284.out) hb); have n6_ := Aside0.mk (blk_below (g := gb296) (o := .cells #[.int .i64 t291, .slice Ao36 t292.length co36] 25 (0, 0)) (by (with_reducible repeat (first | refine blk_drewN ?_ _ | refine blk_drew ?_ | refine blk_alloc ?_ _)); exact BK296.out) hb); have n7_ := Aside0.mk (below_step (by repeat (first | (with_reducible first | exact HB.out | apply below_alloc | apply pw_below_drewN | apply below_drew1 | refine below_set ?_ GE276.out | refine below_set ?_ GE284.out | refine below_set ?_ GE296.out) | exact HB.out)) hb); clear HO_7; clear HO_12; clear HO_285001; clear HO_297001; clear BK276; clear BK284; clear BK296; clear HB; have HO_7 := n0_; have HO_12 := n1_; have HO_285001 := n2_; have HO_297001 := n3_; have BK276 := n4_; have BK284 := n5_; have BK296 := n6_; have HB := n7_; clear n0_ n1_ n2_ n3_ n4_ n5_ n6_ n7_; (try clear hb); (try clear hb2); (try clear hk); (try clear hi)))
                              go_ret
                              exact ⟨by first | rfl | (simp [errW_none, errW_some] <;> rfl) | (simp [*, errW_none, errW_some] <;> rfl), by repeat (first | (with_reducible first | exact HB.out | apply below_alloc | apply pw_below_drewN | apply below_drew1 | refine below_set ?_ GE276.out | refine below_set ?_ GE284.out | refine below_set ?_ GE296.out) | exact HB.out)⟩
                            · replace c81 := Bool.eq_false_iff.mpr c81
                              subst c81
                              have H1 : (some false) = some r := by rw [if_neg (show ¬ (false = true) by decide)] at H; exact H
                              clear H
                              have H := H1
                              clear H1
                              obtain rfl := Option.some.inj H
                              go_wp2_with (first | ((with_reducible refine gate_callee (f := 44) rfl ?_); refine goesL_ (some 97) rfl rfl Try.func44 (by kernel_rfl) rfl #[] rfl (by (try simp only [List.map_toArray, List.map_cons, List.map_nil]); first | done | rfl | (simp only [List.length_drop, List.length_take]; rfl)) ?_; (with_reducible refine (elenchuslaw05_awake.calls  false _ A80.out).mono ?_); rintro e w85 ⟨rfl, hb⟩; refine ⟨_, rfl, ?_⟩; have n0_ := Aside0.mk (Kd.V_below (by (with_reducible repeat (first | apply Kd.V_alloc | apply Kd.V_drewN | apply Kd.V_drew)); exact HO_7.out) hb); have n1_ := Aside0.mk (Kd.V_below (by (with_reducible repeat (first | apply Kd.V_alloc | apply Kd.V_drewN | apply Kd.V_drew)); exact HO_12.out) hb); have n2_ := Aside0.mk (Kd.V_below (by (with_reducible repeat (first | apply Kd.V_alloc | apply Kd.V_drewN | apply Kd.V_drew)); exact HO_285001.out) hb); have n3_ := Aside0.mk (Kd.V_below (by (with_reducible repeat (first | apply Kd.V_alloc | apply Kd.V_drewN | apply Kd.V_drew)); exact HO_297001.out) hb); have n4_ := Aside0.mk (blk_below (g := gb276) (o := .cells #[.int .i64 a0_0, .slice A0_1 l0_1.length c0_1] 25 (0, 0)) (by (with_reducible repeat (first | refine blk_drewN ?_ _ | refine blk_drew ?_ | refine blk_alloc ?_ _)); exact BK276.out) hb); have n5_ := Aside0.mk (blk_below (g := gb284) (o := .cells #[.int .i64 t279, .slice Ao24 t280.length co24] 25 (0, 0)) (by (with_reducible repeat (first | refine blk_drewN ?_ _ | refine blk_drew ?_ | refine blk_alloc ?_ _)); exact BK284.out) hb); have n6_ := Aside0.mk (blk_below (g := gb296) (o := .cells #[.int .i64 t291, .slice Ao36 t292.length co36] 25 (0, 0)) (by (with_reducible repeat (first | refine blk_drewN ?_ _ | refine blk_drew ?_ | refine blk_alloc ?_ _)); exact BK296.out) hb); have n7_ := Aside0.mk (below_step (by repeat (first | (with_reducible first | exact HB.out | apply below_alloc | apply pw_below_drewN | apply below_drew1 | refine below_set ?_ GE276.out | refine below_set ?_ GE284.out | refine below_set ?_ GE296.out) | exact HB.out)) hb); clear HO_7; clear HO_12; clear HO_285001; clear HO_297001; clear BK276; clear BK284; clear BK296; clear HB; have HO_7 := n0_; have HO_12 := n1_; have HO_285001 := n2_; have HO_297001 := n3_; have BK276 := n4_; have BK284 := n5_; have BK296 := n6_; have HB := n7_; clear n0_ n1_ n2_ n3_ n4_ n5_ n6_ n7_; (try clear hb); (try clear hb2); (try clear hk); (try clear hi)))
                              go_ret
                              exact ⟨by first | rfl | (simp [errW_none, errW_some] <;> rfl) | (simp [*, errW_none, errW_some] <;> rfl), by repeat (first | (with_reducible first | exact HB.out | apply below_alloc | apply pw_below_drewN | apply below_drew1 | refine below_set ?_ GE276.out | refine below_set ?_ GE284.out | refine below_set ?_ GE296.out) | exact HB.out)⟩
        · rw [if_neg c15] at H
          have c15b0 : (t283 == 0) = false := beq_eq_false_iff_ne.mpr c15
          have c15b1 : (t283 != 0) = true := bne_iff_ne.mpr c15
          replace H := Option.bind_eq_some_iff.mp H
          obtain ⟨t285, A860, H⟩ := H
          replace H : (some t285) = some r := H
          have A86 := Aside0.mk A860
          clear A860
          obtain rfl := Option.some.inj H
          have hcz87_0 : wc.cell? ⟨gb276, 0, none⟩ = some (.int .i64 a0_0) := (blk_cell BK276.out 0).trans rfl
          have hcz87_1 : wc.cell? ⟨gb276, 1, none⟩ = some (.slice A0_1 l0_1.length c0_1) := (blk_cell BK276.out 1).trans rfl
          have hfz87_0 := blk_frozen BK276.out 0
          have hfz87_1 := blk_frozen BK276.out 1
          go_wp2_with (first | ((with_reducible refine gate_callee (f := 27) rfl ?_); refine goesL_ (some 26) rfl rfl Try.func27 (by kernel_rfl) rfl #[.slice A1 l1.length c1, .agg #[.int .i64 a0_0, .slice A0_1 l0_1.length c0_1]] rfl (by (try simp only [List.map_toArray, List.map_cons, List.map_nil]); first | done | rfl | (simp only [List.length_drop, List.length_take]; rfl)) ?_; (with_reducible refine (subst_Apply.calls (fun k_ => k_ < w.heap.size) _ _ l1 a0_0 (fun k_ => k_ < w.heap.size) _ _ l0_1 t279 t280 t283 _ ?side1 ?side2 A14.out).mono ?_); (case side1 => exact Kd.V_mk HC1.out (Kd.F_below (Kd.C_F k60_heap HR1.out) (by repeat (first | (with_reducible first | exact HB.out | apply below_alloc | apply pw_below_drewN | apply below_drew1 | refine below_set ?_ GE276.out) | exact HB.out)))); (case side2 => exact Kd.V_mk HC0_1.out (Kd.F_below (Kd.C_F k25_heap HR0_1.out) (by repeat (first | (with_reducible first | exact HB.out | apply below_alloc | apply pw_below_drewN | apply below_drew1 | refine below_set ?_ GE276.out) | exact HB.out)))); rintro e w88 ⟨v281, rfl, ho0, hb⟩; refine ⟨_, rfl, ?_⟩; have n0_ := Aside0.mk (Kd.V_lower (Kd.V_mono (ok' := fun k_ => k_ ≠ gb276) ho0 (fun k_ hk_ => Or.elim hk_ (fun hs_ => Or.elim hs_ (fun hs_ => fun e_ => Nat.not_le.2 hs_ (by rw [e_]; exact GW276.out)) (fun hs_ => fun e_ => Nat.not_le.2 hs_ (by rw [e_]; exact GW276.out))) (fun hn_ => (Kd.freshB (g := gb276) (o := .cells #[.int .i64 a0_0, .slice A0_1 l0_1.length c0_1] 25 (0, 0)) (by (with_reducible repeat (first | refine blk_drewN ?_ _ | refine blk_drew ?_ | refine blk_alloc ?_ _)); exact BK276.out) k_ hn_)))) (below_size (by repeat (first | (with_reducible first | exact HB.out | apply below_alloc | apply pw_below_drewN | apply below_drew1 | refine below_set ?_ GE276.out) | exact HB.out)))); have n1_ := Aside0.mk (blk_below (g := gb276) (o := .cells #[.int .i64 a0_0, .slice A0_1 l0_1.length c0_1] 25 (0, 0)) (by (with_reducible repeat (first | refine blk_drewN ?_ _ | refine blk_drew ?_ | refine blk_alloc ?_ _)); exact BK276.out) hb); have n2_ := Aside0.mk (below_step (by repeat (first | (with_reducible first | exact HB.out | apply below_alloc | apply pw_below_drewN | apply below_drew1 | refine below_set ?_ GE276.out) | exact HB.out)) hb); clear BK276; clear HB; have HO282 := n0_; have BK276 := n1_; have HB := n2_; clear n0_ n1_ n2_; (try clear hb); (try clear hb2); (try clear hk); (try clear hi); (try clear ho0)) | ((with_reducible refine gate_dst (N := 5) rfl ?_); refine box_event ?hg (N := 5) ?hd (cs := #[.int .i64 0, .slice none 0 0]) (t := 25) ?hr ?_; (case hd => rfl); (case hg => rfl); (case hr => first | (go_simp; done) | (go_simp; rfl)); intro gb284 hg w89 hbox hb; have n0_ := Aside0.mk (Kd.V_below (Kd.V_elderB (by (with_reducible repeat (first | apply Kd.V_alloc | apply Kd.V_drewN | apply Kd.V_drew)); exact HO282.out) gb284 (Nat.le_of_eq hg.symm)) hb); have n1_ := Aside0.mk (blk_below (g := gb276) (o := .cells #[.int .i64 a0_0, .slice A0_1 l0_1.length c0_1] 25 (0, 0)) (by (with_reducible repeat (first | refine blk_drewN ?_ _ | refine blk_drew ?_ | refine blk_alloc ?_ _)); exact BK276.out) hb); have n2_ := Aside0.mk (below_step (by repeat (first | (with_reducible first | exact HB.out | apply below_alloc | apply pw_below_drewN | apply below_drew1 | refine below_set ?_ GE276.out) | exact HB.out)) hb); have n3_ := Aside0.mk (hbox); have n4_ := Aside0.mk ((by rw [hg]; exact (below_size (by repeat (first | (with_reducible first | exact HB.out | apply below_alloc | apply pw_below_drewN | apply below_drew1 | refine below_set ?_ GE276.out) | exact HB.out))) : w.heap.size ≤ gb284)); have n5_ := Aside0.mk ((by rw [hg]; exact (below_size (by repeat (first | (with_reducible first | exact HB.out | apply below_alloc | apply pw_below_drewN | apply below_drew1 | refine below_set ?_ GE276.out) | exact HB.out))) : w.heap.size ≤ gb284)); have n6_ := Aside0.mk ((by rw [hg]; exact Nat.ne_of_lt (blk_lt (g := gb276) (o := .cells #[.int .i64 a0_0, .slice A0_1 l0_1.length c0_1] 25 (0, 0)) (by (with_reducible repeat (first | refine blk_drewN ?_ _ | refine blk_drew ?_ | refine blk_alloc ?_ _)); exact BK276.out)) : gb276 ≠ gb284)); have n7_ := Aside0.mk ((by rw [hg]; exact Nat.ne_of_gt (blk_lt (g := gb276) (o := .cells #[.int .i64 a0_0, .slice A0_1 l0_1.length c0_1] 25 (0, 0)) (by (with_reducible repeat (first | refine blk_drewN ?_ _ | refine blk_drew ?_ | refine blk_alloc ?_ _)); exact BK276.out)) : gb284 ≠ gb276)); clear HO282; clear BK276; clear HB; have HO282 := n0_; have BK276 := n1_; have HB := n2_; have BK284 := n3_; have GW284 := n4_; have GE284 := n5_; have NB276_284 := n6_; have NB284_276 := n7_; clear n0_ n1_ n2_ n3_ n4_ n5_ n6_ n7_; clear hb hbox hg; have hnb90 := NB284_276.out; have hnc90 := NB276_284.out; have hcz91_0 : w89.cell? ⟨gb284, 0, none⟩ = some (.int .i64 0) := (blk_cell BK284.out 0).trans rfl; have hcz91_1 : w89.cell? ⟨gb284, 1, none⟩ = some (.slice none 0 0) := (blk_cell BK284.out 1).trans rfl; have hfz91_0 := blk_frozen BK284.out 0; have hfz91_1 := blk_frozen BK284.out 1; obtain ⟨Ao92, co92, eo92⟩ := Kd.V_slice HO282.out; subst eo92) | ((with_reducible refine gate_callee (f := 44) rfl ?_); refine goesL_ (some 31) rfl rfl Try.func44 (by kernel_rfl) rfl #[] rfl (by (try simp only [List.map_toArray, List.map_cons, List.map_nil]); first | done | rfl | (simp only [List.length_drop, List.length_take]; rfl)) ?_; (with_reducible refine (elenchuslaw05_awake.calls  t285 _ A86.out).mono ?_); rintro e w93 ⟨rfl, hb⟩; refine ⟨_, rfl, ?_⟩; have n0_ := Aside0.mk (Kd.V_below (by (with_reducible repeat (first | apply Kd.V_alloc | apply Kd.V_drewN | apply Kd.V_drew)); exact (Kd.V_mono (Kd.V_far (p := ⟨gb284, 1, none⟩) (Kd.V_far (p := ⟨gb284, 0, none⟩) (Kd.V_mono HO282.out (fun k_ hk => (⟨hk, hk.2⟩ : _ ∧ k_ ≠ gb284))) (fun _ hk => hk.2) (.int .i64 t279)) (fun _ hk => hk.2) (.slice Ao92 t280.length co92)) (fun _ h_ => h_.1))) hb); have n1_ := Aside0.mk (blk_below (g := gb276) (o := .cells #[.int .i64 a0_0, .slice A0_1 l0_1.length c0_1] 25 (0, 0)) (by (with_reducible repeat (first | refine blk_drewN ?_ _ | refine blk_drew ?_ | refine blk_alloc ?_ _)); refine blk_far ?_ NB276_284.out _; (with_reducible repeat (first | refine blk_drewN ?_ _ | refine blk_drew ?_ | refine blk_alloc ?_ _)); refine blk_far ?_ NB276_284.out _; (with_reducible repeat (first | refine blk_drewN ?_ _ | refine blk_drew ?_ | refine blk_alloc ?_ _)); exact BK276.out) hb); have n2_ := Aside0.mk (blk_below (g := gb284) (o := .cells #[.int .i64 t279, .slice Ao92 t280.length co92] 25 (0, 0)) (by (with_reducible repeat (first | refine blk_drewN ?_ _ | refine blk_drew ?_ | refine blk_alloc ?_ _)); refine blk_put (cs := #[.int .i64 t279, .slice none 0 0]) ?_ 1 _ rfl; (with_reducible repeat (first | refine blk_drewN ?_ _ | refine blk_drew ?_ | refine blk_alloc ?_ _)); refine blk_put (cs := #[.int .i64 0, .slice none 0 0]) ?_ 0 _ rfl; (with_reducible repeat (first | refine blk_drewN ?_ _ | refine blk_drew ?_ | refine blk_alloc ?_ _)); exact BK284.out) hb); have n3_ := Aside0.mk (below_step (by repeat (first | (with_reducible first | exact HB.out | apply below_alloc | apply pw_below_drewN | apply below_drew1 | refine below_set ?_ GE276.out | refine below_set ?_ GE284.out) | exact HB.out)) hb); clear HO282; clear BK276; clear BK284; clear HB; have HO282 := n0_; have BK276 := n1_; have BK284 := n2_; have HB := n3_; clear n0_ n1_ n2_ n3_; (try clear hb); (try clear hb2); (try clear hk); (try clear hi)))
          go_ret
          exact ⟨by first | rfl | (simp [errW_none, errW_some] <;> rfl) | (simp [*, errW_none, errW_some] <;> rfl), by repeat (first | (with_reducible first | exact HB.out | apply below_alloc | apply pw_below_drewN | apply below_drew1 | refine below_set ?_ GE276.out | refine below_set ?_ GE284.out) | exact HB.out)⟩

end Go.Proofs.Ythplndalbfcbbaa.PA
/- MatchSolves: what the law computes is true. -/
set_option linter.unusedSimpArgs false
set_option linter.unusedVariables false
namespace Go.Proofs.Ythplndalbfcbbaa
open Go.RowKit Go.Proofs.YthplndalbfcbbaaW.PrintWords

theorem ofS_mk (t : Tm) : ofS ⟨t.h, toSL t.args⟩ = t := by cases t; simp only [ofS, Tm.h, Tm.args, ofSL_toSL]
theorem wrap_next {i : Int} (h0 : 0 ≤ i) (h1 : i ≤ 9223372036854775806) : wrap64 (i + 1) = i + 1 := by unfold wrap64; omega
theorem rd_nat (l : List Int) (i : Nat) (h : i < l.length) : rd l (i : Int) = l[i] := by simp [rd, h]
theorem rdB_nat (l : List Bd) (i : Nat) (h : i < l.length) : PA.rd_T60 (toBL l) (i : Int) = toB l[i] := by simp [PA.rd_T60, toBL, h]
theorem rdT_nat (l : List Tm) (i : Nat) (h : i < l.length) : PA.rd_T25 (toSL l) (i : Int) = toS l[i] := by simp [PA.rd_T25, toSL_map, h]
theorem of_pure {s : List Bd} (hs : s.all okBd = true) {v : Int} (h0 : 0 ≤ v) (h1 : v ≤ 255) : PA.subst_Of.f (toBL s) v = some ((ofBs v s).h, toSL (ofBs v s).args) := by
  unfold PA.subst_Of.f
  rw [ofBL_toBL, if_pos ⟨hs, h0, by omega⟩]
theorem apply_pure {u : List Bd} (hu : u.all okBd = true) {p : Tm} (hp : p.size ≤ 1000000) : PA.subst_Apply.f (toBL u) p.h (toSL p.args) = some ((applyT u p).1.h, toSL (applyT u p).1.args, (applyT u p).2) := by
  unfold PA.subst_Apply.f
  rw [ofBL_toBL, ofS_mk, if_pos ⟨hu, hp⟩]
theorem match_pure {p t : Tm} (hp : p.size ≤ 1000000000) (ht : t.size ≤ 1000000000) : PA.match_Match.f p.h (toSL p.args) t.h (toSL t.args) = some (toBL (matchT [p] [t]).1, (matchT [p] [t]).2.1, (matchT [p] [t]).2.2) := by
  unfold PA.match_Match.f
  rw [ofS_mk, ofS_mk, if_pos ⟨hp, ht⟩]
theorem same_pure {p t : Tm} (hp : p.size ≤ 1000000000) (ht : t.size ≤ 1000000000) : PA.elenchusref01_Same.f p.h (toSL p.args) t.h (toSL t.args) = some (sameB p t) := by
  unfold PA.elenchusref01_Same.f
  rw [ofS_mk, ofS_mk, if_pos ⟨hp, ht⟩]
theorem tsame_pure {p t : Tm} (hp : p.size ≤ 1000000000) : PA.term_Same.f p.h (toSL p.args) t.h (toSL t.args) = some (sameB p t) := by
  unfold PA.term_Same.f
  rw [ofS_mk, ofS_mk, if_pos hp]
theorem check_pure {s : List Bd} (hs : s.all okBd = true) : PA.subst_Check.f (toBL s) = some (check3 s) := by
  unfold PA.subst_Check.f
  rw [ofBL_toBL, if_pos hs]
theorem vars_pure {p : Tm} (hp : p.size ≤ 1000000000) (hg : p.good = true) : PA.term_Vars.f p.h (toSL p.args) = some (varsT p) := by
  unfold PA.term_Vars.f
  rw [ofS_mk, if_pos ⟨hp, hg⟩]
theorem okBd_right {s : List Bd} (h : rightBs s = true) : s.all okBd = true := by
  rw [List.all_eq_true]
  intro b hb
  have h1 := okBs_mem h b hb
  have h2 := right_size (rightB_chk.1 h1.2.2.1)
  simp only [okBd, Bool.and_eq_true, decide_eq_true_eq]
  omega
theorem okBd_few {s : List Bd} (hr : ∀ b, b ∈ s → -9223372036854775808 ≤ b.v ∧ b.v ≤ 9223372036854775807) (h : fewBs s = true) : s.all okBd = true := by
  rw [List.all_eq_true]
  intro b hb
  have h1 := hr b hb
  have h2 := few_sizes h b hb
  simp only [okBd, Bool.and_eq_true, decide_eq_true_eq]
  omega
section
variable {s u : List Bd} {vars : List Int}
theorem solves_l1 (hs : rightBs s = true) (hin : ∀ b, b ∈ s → b.v ∈ vars) (hl : s.length ≤ 1000) : ∀ (d i k : Nat), i + d = s.length → d < k → PA.elenchuslaw05_MatchSolves.l1 k (toBL s) vars (i : Int) = some true := by
  intro d
  induction d with
  | zero =>
    intro i k hi hk
    obtain ⟨k, rfl⟩ : ∃ m, k = m + 1 := ⟨k - 1, by omega⟩
    simp only [PA.elenchuslaw05_MatchSolves.l1]
    rw [if_neg (by rw [toBL_length]; omega)]
    simp [PA.elenchuslaw05_awake.f, check_pure (okBd_right hs), check3, hs]
  | succ d ih =>
    intro i k hi hk
    obtain ⟨k, rfl⟩ : ∃ m, k = m + 1 := ⟨k - 1, by omega⟩
    have hlt : i < s.length := by omega
    have h1 := ih (i + 1) k (by omega) (by omega)
    simp only [PA.elenchuslaw05_MatchSolves.l1]
    rw [if_pos (by rw [toBL_length]; omega), if_pos (by omega), rdB_nat s i hlt, wrap_next (by omega) (by omega)]
    have hh : hasB s[i].v vars = true := hasB_iff.2 (hin _ (List.getElem_mem hlt))
    have e : PA.elenchusref01_In.f (toB s[i]).f0 vars = some true := by
      unfold PA.elenchusref01_In.f
      show some (hasB s[i].v vars) = some true
      rw [hh]
    rw [e]
    simpa using h1
theorem solves_l0 (hs : rightBs s = true) (hu : rightBs u = true) (hin : ∀ b, b ∈ s → b.v ∈ vars) (hl : s.length ≤ 1000) (hvl : vars.length ≤ 1000) (hr : ∀ v, v ∈ vars → 0 ≤ v ∧ v ≤ 255) (heq : ∀ v, v ∈ vars → ofBs v s = ofBs v u) :
    ∀ (d i k : Nat), i + d = vars.length → d + 1001 < k → PA.elenchuslaw05_MatchSolves.l0 k (toBL u) (toBL s) vars (i : Int) = some true := by
  intro d
  induction d with
  | zero =>
    intro i k hi hk
    obtain ⟨k, rfl⟩ : ∃ m, k = m + 1 := ⟨k - 1, by omega⟩
    simp only [PA.elenchuslaw05_MatchSolves.l0]
    rw [if_neg (by omega)]
    exact solves_l1 hs hin hl s.length 0 k (by omega) (by omega)
  | succ d ih =>
    intro i k hi hk
    obtain ⟨k, rfl⟩ : ∃ m, k = m + 1 := ⟨k - 1, by omega⟩
    have hlt : i < vars.length := by omega
    have h1 := ih (i + 1) k (by omega) (by omega)
    have hm := List.getElem_mem hlt
    have hv := hr _ hm
    have hsz := right_size (rightB_chk.1 (ofBs_rightB hu hv.1 hv.2))
    simp only [PA.elenchuslaw05_MatchSolves.l0]
    rw [if_pos (by omega), if_pos (by omega), rd_nat vars i hlt, wrap_next (by omega) (by omega), of_pure (okBd_right hs) hv.1 hv.2, of_pure (okBd_right hu) hv.1 hv.2, heq _ hm]
    simp only [Option.bind_some]
    rw [tsame_pure (by omega), sameB_self]
    simpa using h1
end
theorem solves_pure (p : Tm) (u : List Bd) (hr : ∀ b, b ∈ u → -9223372036854775808 ≤ b.v ∧ b.v ≤ 9223372036854775807) : ∀ n, 2000 < n → PA.elenchuslaw05_MatchSolves.f (n + 1 + 1) p.h (toSL p.args) (toBL u) = some true := by
  intro n hn
  unfold PA.elenchuslaw05_MatchSolves.f
  simp only [PA.elenchusref01_Few.f, PA.elenchusref03_Few.f, Option.bind_some, ofS_mk, ofBL_toBL]
  cases h1 : fewB p
  · simp [PA.elenchuslaw05_MatchSolves.j0]
  cases h2 : fewBs u
  · simp [PA.elenchuslaw05_MatchSolves.j0]
  have hps := few_size h1
  have hou := okBd_few hr h2
  simp only [if_true, Bool.not_true, PA.elenchuslaw05_MatchSolves.j0, Bool.false_eq_true, if_false]
  rw [apply_pure hou (by omega)]
  simp only [Option.bind_some]
  by_cases h3 : (applyT u p).2 = 0
  · rw [if_pos h3]
    obtain ⟨s, e1, e2, e3, e4, e5⟩ := solves_law h3
    obtain ⟨hu, hp, hc, he⟩ := applied_ok h3
    have hg := chk_good hp
    have hts : (applyT u p).1.size ≤ 400 := by rw [he]; exact right_size hc
    rw [match_pure (by omega) (by omega), e1]
    simp only [Option.bind_some]
    rw [apply_pure (okBd_right e3) (by omega), e2]
    simp only [Option.bind_some, if_true]
    rw [same_pure (by omega) (by omega), sameB_self]
    simp only [Option.bind_some, Bool.not_true, PA.elenchuslaw05_MatchSolves.j1, Bool.false_eq_true, if_false]
    rw [vars_pure (by omega) hg]
    simp only [Option.bind_some]
    have hsl : s.length ≤ 1000 := by
      have h9 : s = (matchT [p] [(applyT u p).1]).1 := by rw [e1]
      have : (matchT [p] [(applyT u p).1]).1.length ≤ 256 := by
        rw [matchT]
        split
        · split
          · exact tidy_length _
          · simp
        · simp
      rw [h9]; omega
    have hvl := varsT_length p
    exact solves_l0 e3 hu e5 hsl (by omega) (fun v hv => occ_range hg (occ_iff.2 hv)) e4 (varsT p).length 0 _ (by omega) (by omega)
  · rw [if_neg h3]
    simp [PA.elenchuslaw05_awake.f]
theorem solves_calls (p : Tm) (u : List Bd) (h : Int) (s1 s2 : Value) (w : World) (hr : ∀ b, b ∈ u → -9223372036854775808 ≤ b.v ∧ b.v ≤ 9223372036854775807) (hp : IsTm (fun _ => False) w h s1 p) (hu : Binds (fun _ => False) w s2 u) :
    Calls Try.prog 14 #[.agg #[.int .i64 h, s1], s2] w fun e w' => e = .returned (.bool true) ∧ Below w.heap.size w w' := by
  obtain ⟨rfl, a1, c1, rfl, -, -⟩ := hp.shape
  obtain ⟨a2, c2, rfl, -, -⟩ := hu.shape
  obtain ⟨e1, h1, k1⟩ := c_of hp.2
  obtain ⟨e2, h2, k2⟩ := cb_of hu
  rw [e1, e2]
  exact PA.elenchuslaw05_MatchSolves.calls _ p.h a1 c1 (toSL p.args) a2 c2 (toBL u) true w k1 h1 k2 h2 (solves_pure p u hr 2001 (by omega))
end Go.Proofs.Ythplndalbfcbbaa
