/- The machine side of the functions that the law reaches (turned out by program), and contracts in its form. -/
import Derived.Test.YthplndalbfcbbaaProg
import Derived.Below
import Derived.Deep.Draws
import Derived.Deep.AppendLies
import Derived.Maps.AppendAt
import Derived.OwnWalk
import Derived.Laws.BytesArg
import Derived.Laws.MakeOwn
import Derived.Laws.OwnMore
import Derived.Deep.OwnRows
import Derived.Tactics
import Derived.Lib.ConvBytes
import Derived.Laws.Slices
import Derived.WalkKit
import Derived.KernelRfl
import Derived.RowKit3
import Derived.Deep.LoopGhost
import Derived.Deep.QuietTactic
import Derived.BigQuiet
import Derived.WideLaws
import Derived.Deep.DeepCutAuto
import Derived.Deep.CutBlock
import Derived.Deep.RegionHeld3
import Derived.Laws.Rows
import Derived.Lib.AppendStr
import Derived.ArgAppend
import Derived.Laws.IdiomCopy
import Derived.OrdersHeld
import Derived.Laws.BitsLemmas
import Derived.RowKit
import Derived.Test.YthplndalbfcbbaaUMatchMakes
import Derived.Test.YthplndalbfcbbaaG4
import Derived.Test.YthplndalbfcbbaaG1
import Derived.Test.YthplndalbfcbbaaG6
import Derived.Test.YthplndalbfcbbaaG3
import Derived.Test.YthplndalbfcbbaaG7
import Derived.Test.YthplndalbfcbbaaG9
namespace Go.Proofs.Ythplndalbfcbbaa.PA
open Go.RowKit Go.Proofs.YthplndalbfcbbaaW.PrintWords Go.Proofs.YthplndalbfcbbaaW.PrintLast Go.Proofs.YthplndalbfcbbaaW.PrintMore
attribute [local go_sem] max2_int min2_int max_two min_two max_three min_three max_four min_four   -- for this text's walks alone
set_option linter.unusedVariables false
set_option linter.unusedSimpArgs false



def errW : Option Int → Value
  | none => .nilIface
  | some c => .iface 0 (.int .i64 c)
theorem errW_none : errW none = .nilIface := rfl
theorem errW_some (c : Int) : errW (some c) = .iface 0 (.int .i64 c) := rfl

theorem info3 : (Try.prog.info? 3).map (fun i => (i.zero, i.size, i.bytes)) = some (some (.int .i64 0), 1, 8) := by kernel_rfl
theorem info25 : (Try.prog.info? 25).map (fun i => (i.zero, i.size, i.bytes)) = some (some (.agg #[(.int .i64 0), (.slice none 0 0)]), 2, 32) := by kernel_rfl
theorem info60 : (Try.prog.info? 60).map (fun i => (i.zero, i.size, i.bytes)) = some (some (.agg #[(.int .i64 0), (.int .i64 0), (.slice none 0 0)]), 3, 40) := by kernel_rfl
theorem info135 : (Try.prog.info? 135).map (fun i => (i.zero, i.size, i.bytes)) = some (some (.agg #[(.int .i64 0), (.slice none 0 0), (.int .i64 0), (.slice none 0 0)]), 4, 64) := by kernel_rfl
-- the values' own types
/-! #### struct type 25, nested in itself -/
structure S25 where
  f0 : Int
  f1 : (List S25)
def z25 : S25 := ⟨(0 : Int), ([] : List S25)⟩
def F25 (d : Kd S25) : Kd S25 := Kd.iso (Kd.pair (Kd.int .i64) (Kd.slice 25 d)) (fun x : S25 => (x.f0, x.f1))
theorem mono25 : Kd.Mono F25 := Kd.mono_iso _ (Kd.mono_pair (Kd.mono_const _) (Kd.mono_slice 25 Kd.mono_id))
theorem sub25 : Kd.Sub F25 [25] := Kd.sub_iso _ (Kd.sub_pair (Kd.sub_const _ (by decide)) (Kd.sub_slice 25 (by decide) Kd.sub_id))
theorem sz25 : ∀ n, (Kd.upto F25 2 [25] n).sz = 2 := Kd.upto_sz (fun _ => rfl)
def k25 : Kd S25 := Kd.fix F25 2 [25] sz25 (Kd.upto_E sub25)
theorem k25_heap : Kd.Heap k25 := Kd.heap_fix (fun _ h_ => Kd.heap_iso _ (Kd.heap_pair (Kd.heap_int .i64) (Kd.heap_slice 25 h_)))
theorem k25_open {w : World} {x : S25} {cs : List Value} (h : k25.K w x cs) : ∃ A1 c1, cs = [.int .i64 x.f0, .slice A1 x.f1.length c1] ∧ x.f1.length ≤ c1 ∧ k25.C w A1 x.f1.length x.f1 := by
  obtain ⟨n, h⟩ := h
  cases n with
  | zero => exact h.elim
  | succ n =>
    obtain ⟨_, _, rfl, rfl, ⟨A1, c1, rfl, l1, g1⟩⟩ := h
    exact ⟨A1, c1, rfl, l1, Kd.fix_C g1⟩
theorem k25_openM {w : World} {base : Nat} {ok : Nat → Prop} {x : S25} {cs : List Value} (h : k25.M w base ok x cs) : ∃ v1, cs = [.int .i64 x.f0, v1] ∧ k25.R 25 w base ok v1 x.f1 := by
  obtain ⟨n, h⟩ := h
  cases n with
  | zero => exact h.elim
  | succ n =>
    obtain ⟨_, _, rfl, rfl, ⟨v1, rfl, g1⟩⟩ := h
    exact ⟨v1, rfl, Kd.fix_R g1⟩
theorem k25_mk (w : World) (x : S25) {A1 : Option Addr} {c1 : Nat} (l1 : x.f1.length ≤ c1) (g1 : k25.C w A1 x.f1.length x.f1) : k25.K w x [.int .i64 x.f0, .slice A1 x.f1.length c1] := by
  obtain ⟨n1, q1⟩ := Kd.fix_C_back mono25 g1
  have r1 := Kd.upto_C_le mono25 sz25 (show n1 ≤ n1 by omega) q1
  exact ⟨n1 + 1, ⟨[.int .i64 x.f0], [.slice A1 x.f1.length c1], rfl, rfl, ⟨A1, c1, rfl, l1, r1⟩⟩⟩
theorem k25_mkM (w : World) (base : Nat) (ok : Nat → Prop) (x : S25) {v1 : Value} (g1 : k25.R 25 w base ok v1 x.f1) : k25.M w base ok x [.int .i64 x.f0, v1] := by
  obtain ⟨n1, q1⟩ := Kd.fix_R_back mono25 g1
  have r1 := Kd.upto_R_le mono25 sz25 (show n1 ≤ n1 by omega) q1
  exact ⟨n1 + 1, ⟨[.int .i64 x.f0], [v1], rfl, rfl, ⟨v1, rfl, r1⟩⟩⟩
theorem k25_openF {W : World} {ok : Nat → Prop} {x : S25} {cs : List Value} (h : Kd.FK k25 W ok x cs) : ∃ A1 c1, cs = [.int .i64 x.f0, .slice A1 x.f1.length c1] ∧ x.f1.length ≤ c1 ∧ Kd.F k25 W ok A1 x.f1.length x.f1 := by
  obtain ⟨A1, c1, rfl, l1, _⟩ := k25_open (Kd.FK_now h)
  exact ⟨A1, c1, rfl, l1, (fun W' hW => by obtain ⟨A1_, c1_, he, l1_, g1_⟩ := k25_open (h W' hW); injection (Option.some.inj (show some (Value.slice A1 x.f1.length c1) = some (Value.slice A1_ x.f1.length c1_) from congrArg (fun l => l[1]?) he)) with ha_ _ _; rw [ha_]; exact g1_)⟩
theorem k25_mkF (W : World) (ok : Nat → Prop) (x : S25) {A1 : Option Addr} {c1 : Nat} (l1 : x.f1.length ≤ c1) (g1 : Kd.F k25 W ok A1 x.f1.length x.f1) : Kd.FK k25 W ok x [.int .i64 x.f0, .slice A1 x.f1.length c1] := fun W2 hW => k25_mk W2 x l1 (g1 W2 hW)
def rd_T25 (xs : List S25) (i : Int) : S25 := xs.getD i.toNat z25
theorem at_T25 {w : World} {A : Option Addr} {n : Nat} {xs : List S25} (h : Kd.C k25 w A n xs) (i : Int) (h0 : 0 ≤ i) (h1 : i < n) : ∃ ad A1 c1, A = some ad ∧ w.cell? (ad.add (i.toNat * 2)) = some (.int .i64 (rd_T25 xs i).f0) ∧ w.cell? ⟨(ad.add (i.toNat * 2)).block, (ad.add (i.toNat * 2)).off + 1, none⟩ = some (.slice A1 (rd_T25 xs i).f1.length c1) ∧ (rd_T25 xs i).f1.length ≤ c1 ∧ k25.C w A1 (rd_T25 xs i).f1.length (rd_T25 xs i).f1 := by
  obtain ⟨ad, c, e, _, hK, hc0⟩ := Kd.C_get h z25 i h0 h1
  have hc : ∀ j u, c[j]? = some u → w.cell? (ad.add (i.toNat * 2 + j)) = some u := hc0
  obtain ⟨A1, c1, rfl, l1, g1⟩ := k25_open hK
  exact ⟨ad, A1, c1, e, hc 0 _ rfl, by rw [← add_field _ _ 1 (by omega)]; exact hc 1 _ rfl, l1, g1⟩

def rd_L2 (xs : List (List S25)) (i : Int) : (List S25) := xs.getD i.toNat ([] : List S25)
theorem at_L2 {w : World} {A : Option Addr} {n : Nat} {xs : List (List S25)} (h : Kd.C (Kd.slice 25 k25) w A n xs) (i : Int) (h0 : 0 ≤ i) (h1 : i < n) : ∃ ad A0 c0, A = some ad ∧ w.cell? (ad.add i.toNat) = some (.slice A0 (rd_L2 xs i).length c0) ∧ (rd_L2 xs i).length ≤ c0 ∧ k25.C w A0 (rd_L2 xs i).length (rd_L2 xs i) := by
  obtain ⟨ad, c, e, _, hK, hc0⟩ := Kd.C_get h ([] : List S25) i h0 h1
  have hc : ∀ j u, c[j]? = some u → w.cell? (ad.add (i.toNat * 1 + j)) = some u := hc0
  obtain ⟨A0, c0, rfl, l0, g0⟩ := hK
  exact ⟨ad, A0, c0, e, by have hq := hc 0 _ rfl; rwa [Nat.mul_one, Nat.add_zero] at hq, l0, g0⟩

/-! #### struct type 60 -/
structure S60 where
  f0 : Int
  f1 : S25
def z60 : S60 := ⟨(0 : Int), z25⟩
def k60 : Kd S60 := Kd.iso (Kd.pair (Kd.int .i64) k25) (fun x : S60 => (x.f0, x.f1))
theorem k60_heap : Kd.Heap k60 := Kd.heap_iso _ (Kd.heap_pair (Kd.heap_int .i64) k25_heap)
theorem k60_open {w : World} {x : S60} {cs : List Value} (h : k60.K w x cs) : ∃ A2 c2, cs = [.int .i64 x.f0, .int .i64 x.f1.f0, .slice A2 x.f1.f1.length c2] ∧ x.f1.f1.length ≤ c2 ∧ k25.C w A2 x.f1.f1.length x.f1.f1 := by
  obtain ⟨_, _, rfl, rfl, s1⟩ := h
  obtain ⟨A2, c2, rfl, l2, g2⟩ := k25_open s1
  exact ⟨A2, c2, rfl, l2, g2⟩
theorem k60_openM {w : World} {base : Nat} {ok : Nat → Prop} {x : S60} {cs : List Value} (h : k60.M w base ok x cs) : ∃ v2, cs = [.int .i64 x.f0, .int .i64 x.f1.f0, v2] ∧ k25.R 25 w base ok v2 x.f1.f1 := by
  obtain ⟨_, _, rfl, rfl, s1⟩ := h
  obtain ⟨v2, rfl, g2⟩ := k25_openM s1
  exact ⟨v2, rfl, g2⟩
theorem k60_mk (w : World) (x : S60) {A2 : Option Addr} {c2 : Nat} (l2 : x.f1.f1.length ≤ c2) (g2 : k25.C w A2 x.f1.f1.length x.f1.f1) : k60.K w x [.int .i64 x.f0, .int .i64 x.f1.f0, .slice A2 x.f1.f1.length c2] := ⟨[.int .i64 x.f0], [.int .i64 x.f1.f0, .slice A2 x.f1.f1.length c2], rfl, rfl, (k25_mk w x.f1 l2 g2)⟩
theorem k60_mkM (w : World) (base : Nat) (ok : Nat → Prop) (x : S60) {v2 : Value} (g2 : k25.R 25 w base ok v2 x.f1.f1) : k60.M w base ok x [.int .i64 x.f0, .int .i64 x.f1.f0, v2] := ⟨[.int .i64 x.f0], [.int .i64 x.f1.f0, v2], rfl, rfl, (k25_mkM w base ok x.f1 g2)⟩
theorem k60_openF {W : World} {ok : Nat → Prop} {x : S60} {cs : List Value} (h : Kd.FK k60 W ok x cs) : ∃ A2 c2, cs = [.int .i64 x.f0, .int .i64 x.f1.f0, .slice A2 x.f1.f1.length c2] ∧ x.f1.f1.length ≤ c2 ∧ Kd.F k25 W ok A2 x.f1.f1.length x.f1.f1 := by
  obtain ⟨A2, c2, rfl, l2, _⟩ := k60_open (Kd.FK_now h)
  exact ⟨A2, c2, rfl, l2, (fun W' hW => by obtain ⟨A2_, c2_, he, l2_, g2_⟩ := k60_open (h W' hW); injection (Option.some.inj (show some (Value.slice A2 x.f1.f1.length c2) = some (Value.slice A2_ x.f1.f1.length c2_) from congrArg (fun l => l[2]?) he)) with ha_ _ _; rw [ha_]; exact g2_)⟩
theorem k60_mkF (W : World) (ok : Nat → Prop) (x : S60) {A2 : Option Addr} {c2 : Nat} (l2 : x.f1.f1.length ≤ c2) (g2 : Kd.F k25 W ok A2 x.f1.f1.length x.f1.f1) : Kd.FK k60 W ok x [.int .i64 x.f0, .int .i64 x.f1.f0, .slice A2 x.f1.f1.length c2] := fun W2 hW => k60_mk W2 x l2 (g2 W2 hW)
def rd_T60 (xs : List S60) (i : Int) : S60 := xs.getD i.toNat z60
theorem at_T60 {w : World} {A : Option Addr} {n : Nat} {xs : List S60} (h : Kd.C k60 w A n xs) (i : Int) (h0 : 0 ≤ i) (h1 : i < n) : ∃ ad A2 c2, A = some ad ∧ w.cell? (ad.add (i.toNat * 3)) = some (.int .i64 (rd_T60 xs i).f0) ∧ w.cell? ⟨(ad.add (i.toNat * 3)).block, (ad.add (i.toNat * 3)).off + 1, none⟩ = some (.int .i64 (rd_T60 xs i).f1.f0) ∧ w.cell? ⟨(ad.add (i.toNat * 3)).block, (ad.add (i.toNat * 3)).off + 2, none⟩ = some (.slice A2 (rd_T60 xs i).f1.f1.length c2) ∧ (rd_T60 xs i).f1.f1.length ≤ c2 ∧ k25.C w A2 (rd_T60 xs i).f1.f1.length (rd_T60 xs i).f1.f1 := by
  obtain ⟨ad, c, e, _, hK, hc0⟩ := Kd.C_get h z60 i h0 h1
  have hc : ∀ j u, c[j]? = some u → w.cell? (ad.add (i.toNat * 3 + j)) = some u := hc0
  obtain ⟨A2, c2, rfl, l2, g2⟩ := k60_open hK
  exact ⟨ad, A2, c2, e, hc 0 _ rfl, by rw [← add_field _ _ 1 (by omega)]; exact hc 1 _ rfl, by rw [← add_field _ _ 2 (by omega)]; exact hc 2 _ rfl, l2, g2⟩

def rd_L5 (xs : List (List S60)) (i : Int) : (List S60) := xs.getD i.toNat ([] : List S60)
theorem at_L5 {w : World} {A : Option Addr} {n : Nat} {xs : List (List S60)} (h : Kd.C (Kd.slice 60 k60) w A n xs) (i : Int) (h0 : 0 ≤ i) (h1 : i < n) : ∃ ad A0 c0, A = some ad ∧ w.cell? (ad.add i.toNat) = some (.slice A0 (rd_L5 xs i).length c0) ∧ (rd_L5 xs i).length ≤ c0 ∧ k60.C w A0 (rd_L5 xs i).length (rd_L5 xs i) := by
  obtain ⟨ad, c, e, _, hK, hc0⟩ := Kd.C_get h ([] : List S60) i h0 h1
  have hc : ∀ j u, c[j]? = some u → w.cell? (ad.add (i.toNat * 1 + j)) = some u := hc0
  obtain ⟨A0, c0, rfl, l0, g0⟩ := hK
  exact ⟨ad, A0, c0, e, by have hq := hc 0 _ rfl; rwa [Nat.mul_one, Nat.add_zero] at hq, l0, g0⟩

def rd_L6 (xs : List (List Int)) (i : Int) : (List Int) := xs.getD i.toNat ([] : List Int)
theorem at_L6 {w : World} {A : Option Addr} {n : Nat} {xs : List (List Int)} (h : Kd.C (Kd.slice 3 (Kd.int .i64)) w A n xs) (i : Int) (h0 : 0 ≤ i) (h1 : i < n) : ∃ ad A0 c0, A = some ad ∧ w.cell? (ad.add i.toNat) = some (.slice A0 (rd_L6 xs i).length c0) ∧ (rd_L6 xs i).length ≤ c0 ∧ (Kd.int .i64).C w A0 (rd_L6 xs i).length (rd_L6 xs i) := by
  obtain ⟨ad, c, e, _, hK, hc0⟩ := Kd.C_get h ([] : List Int) i h0 h1
  have hc : ∀ j u, c[j]? = some u → w.cell? (ad.add (i.toNat * 1 + j)) = some u := hc0
  obtain ⟨A0, c0, rfl, l0, g0⟩ := hK
  exact ⟨ad, A0, c0, e, by have hq := hc 0 _ rfl; rwa [Nat.mul_one, Nat.add_zero] at hq, l0, g0⟩

/-! #### struct type 135 -/
structure S135 where
  f0 : S25
  f1 : S25
def z135 : S135 := ⟨z25, z25⟩
def k135 : Kd S135 := Kd.iso (Kd.pair k25 k25) (fun x : S135 => (x.f0, x.f1))
theorem k135_heap : Kd.Heap k135 := Kd.heap_iso _ (Kd.heap_pair k25_heap k25_heap)
theorem k135_open {w : World} {x : S135} {cs : List Value} (h : k135.K w x cs) : ∃ A1 c1 A3 c3, cs = [.int .i64 x.f0.f0, .slice A1 x.f0.f1.length c1, .int .i64 x.f1.f0, .slice A3 x.f1.f1.length c3] ∧ x.f0.f1.length ≤ c1 ∧ k25.C w A1 x.f0.f1.length x.f0.f1 ∧ x.f1.f1.length ≤ c3 ∧ k25.C w A3 x.f1.f1.length x.f1.f1 := by
  obtain ⟨_, _, rfl, s0, s2⟩ := h
  obtain ⟨A1, c1, rfl, l1, g1⟩ := k25_open s0
  obtain ⟨A3, c3, rfl, l3, g3⟩ := k25_open s2
  exact ⟨A1, c1, A3, c3, rfl, l1, g1, l3, g3⟩
theorem k135_openM {w : World} {base : Nat} {ok : Nat → Prop} {x : S135} {cs : List Value} (h : k135.M w base ok x cs) : ∃ v1 v3, cs = [.int .i64 x.f0.f0, v1, .int .i64 x.f1.f0, v3] ∧ k25.R 25 w base ok v1 x.f0.f1 ∧ k25.R 25 w base ok v3 x.f1.f1 := by
  obtain ⟨_, _, rfl, s0, s2⟩ := h
  obtain ⟨v1, rfl, g1⟩ := k25_openM s0
  obtain ⟨v3, rfl, g3⟩ := k25_openM s2
  exact ⟨v1, v3, rfl, g1, g3⟩
theorem k135_mk (w : World) (x : S135) {A1 : Option Addr} {c1 : Nat} (l1 : x.f0.f1.length ≤ c1) (g1 : k25.C w A1 x.f0.f1.length x.f0.f1) {A3 : Option Addr} {c3 : Nat} (l3 : x.f1.f1.length ≤ c3) (g3 : k25.C w A3 x.f1.f1.length x.f1.f1) : k135.K w x [.int .i64 x.f0.f0, .slice A1 x.f0.f1.length c1, .int .i64 x.f1.f0, .slice A3 x.f1.f1.length c3] := ⟨[.int .i64 x.f0.f0, .slice A1 x.f0.f1.length c1], [.int .i64 x.f1.f0, .slice A3 x.f1.f1.length c3], rfl, (k25_mk w x.f0 l1 g1), (k25_mk w x.f1 l3 g3)⟩
theorem k135_mkM (w : World) (base : Nat) (ok : Nat → Prop) (x : S135) {v1 : Value} (g1 : k25.R 25 w base ok v1 x.f0.f1) {v3 : Value} (g3 : k25.R 25 w base ok v3 x.f1.f1) : k135.M w base ok x [.int .i64 x.f0.f0, v1, .int .i64 x.f1.f0, v3] := ⟨[.int .i64 x.f0.f0, v1], [.int .i64 x.f1.f0, v3], rfl, (k25_mkM w base ok x.f0 g1), (k25_mkM w base ok x.f1 g3)⟩
theorem k135_openF {W : World} {ok : Nat → Prop} {x : S135} {cs : List Value} (h : Kd.FK k135 W ok x cs) : ∃ A1 c1 A3 c3, cs = [.int .i64 x.f0.f0, .slice A1 x.f0.f1.length c1, .int .i64 x.f1.f0, .slice A3 x.f1.f1.length c3] ∧ x.f0.f1.length ≤ c1 ∧ Kd.F k25 W ok A1 x.f0.f1.length x.f0.f1 ∧ x.f1.f1.length ≤ c3 ∧ Kd.F k25 W ok A3 x.f1.f1.length x.f1.f1 := by
  obtain ⟨A1, c1, A3, c3, rfl, l1, _, l3, _⟩ := k135_open (Kd.FK_now h)
  exact ⟨A1, c1, A3, c3, rfl, l1, (fun W' hW => by obtain ⟨A1_, c1_, A3_, c3_, he, l1_, g1_, l3_, g3_⟩ := k135_open (h W' hW); injection (Option.some.inj (show some (Value.slice A1 x.f0.f1.length c1) = some (Value.slice A1_ x.f0.f1.length c1_) from congrArg (fun l => l[1]?) he)) with ha_ _ _; rw [ha_]; exact g1_), l3, (fun W' hW => by obtain ⟨A1_, c1_, A3_, c3_, he, l1_, g1_, l3_, g3_⟩ := k135_open (h W' hW); injection (Option.some.inj (show some (Value.slice A3 x.f1.f1.length c3) = some (Value.slice A3_ x.f1.f1.length c3_) from congrArg (fun l => l[3]?) he)) with ha_ _ _; rw [ha_]; exact g3_)⟩
theorem k135_mkF (W : World) (ok : Nat → Prop) (x : S135) {A1 : Option Addr} {c1 : Nat} (l1 : x.f0.f1.length ≤ c1) (g1 : Kd.F k25 W ok A1 x.f0.f1.length x.f0.f1) {A3 : Option Addr} {c3 : Nat} (l3 : x.f1.f1.length ≤ c3) (g3 : Kd.F k25 W ok A3 x.f1.f1.length x.f1.f1) : Kd.FK k135 W ok x [.int .i64 x.f0.f0, .slice A1 x.f0.f1.length c1, .int .i64 x.f1.f0, .slice A3 x.f1.f1.length c3] := fun W2 hW => k135_mk W2 x l1 (g1 W2 hW) l3 (g3 W2 hW)
def rd_T135 (xs : List S135) (i : Int) : S135 := xs.getD i.toNat z135
theorem at_T135 {w : World} {A : Option Addr} {n : Nat} {xs : List S135} (h : Kd.C k135 w A n xs) (i : Int) (h0 : 0 ≤ i) (h1 : i < n) : ∃ ad A1 c1 A3 c3, A = some ad ∧ w.cell? (ad.add (i.toNat * 4)) = some (.int .i64 (rd_T135 xs i).f0.f0) ∧ w.cell? ⟨(ad.add (i.toNat * 4)).block, (ad.add (i.toNat * 4)).off + 1, none⟩ = some (.slice A1 (rd_T135 xs i).f0.f1.length c1) ∧ w.cell? ⟨(ad.add (i.toNat * 4)).block, (ad.add (i.toNat * 4)).off + 2, none⟩ = some (.int .i64 (rd_T135 xs i).f1.f0) ∧ w.cell? ⟨(ad.add (i.toNat * 4)).block, (ad.add (i.toNat * 4)).off + 3, none⟩ = some (.slice A3 (rd_T135 xs i).f1.f1.length c3) ∧ (rd_T135 xs i).f0.f1.length ≤ c1 ∧ k25.C w A1 (rd_T135 xs i).f0.f1.length (rd_T135 xs i).f0.f1 ∧ (rd_T135 xs i).f1.f1.length ≤ c3 ∧ k25.C w A3 (rd_T135 xs i).f1.f1.length (rd_T135 xs i).f1.f1 := by
  obtain ⟨ad, c, e, _, hK, hc0⟩ := Kd.C_get h z135 i h0 h1
  have hc : ∀ j u, c[j]? = some u → w.cell? (ad.add (i.toNat * 4 + j)) = some u := hc0
  obtain ⟨A1, c1, A3, c3, rfl, l1, g1, l3, g3⟩ := k135_open hK
  exact ⟨ad, A1, c1, A3, c3, e, hc 0 _ rfl, by rw [← add_field _ _ 1 (by omega)]; exact hc 1 _ rfl, by rw [← add_field _ _ 2 (by omega)]; exact hc 2 _ rfl, by rw [← add_field _ _ 3 (by omega)]; exact hc 3 _ rfl, l1, g1, l3, g3⟩

/-! #### struct type 148 -/
structure S148 where
  f0 : ByteArray
  f1 : Int
  f2 : Int
  f3 : Bool
def z148 : S148 := ⟨(⟨#[]⟩ : ByteArray), (0 : Int), (0 : Int), false⟩
def k148 : Kd S148 := Kd.iso (Kd.pair Kd.string (Kd.pair (Kd.int .i64) (Kd.pair (Kd.int .i64) Kd.bool))) (fun x : S148 => (x.f0, x.f1, x.f2, x.f3))
theorem k148_heap : Kd.Heap k148 := Kd.heap_iso _ (Kd.heap_pair Kd.heap_string (Kd.heap_pair (Kd.heap_int .i64) (Kd.heap_pair (Kd.heap_int .i64) Kd.heap_bool)))
theorem k148_open {w : World} {x : S148} {cs : List Value} (h : k148.K w x cs) : cs = [.string x.f0, .int .i64 x.f1, .int .i64 x.f2, .bool x.f3] := by
  obtain ⟨_, _, rfl, rfl, ⟨_, _, rfl, rfl, ⟨_, _, rfl, rfl, rfl⟩⟩⟩ := h
  exact rfl
theorem k148_openM {w : World} {base : Nat} {ok : Nat → Prop} {x : S148} {cs : List Value} (h : k148.M w base ok x cs) : cs = [.string x.f0, .int .i64 x.f1, .int .i64 x.f2, .bool x.f3] := by
  obtain ⟨_, _, rfl, rfl, ⟨_, _, rfl, rfl, ⟨_, _, rfl, rfl, rfl⟩⟩⟩ := h
  exact rfl
theorem k148_mk (w : World) (x : S148)  : k148.K w x [.string x.f0, .int .i64 x.f1, .int .i64 x.f2, .bool x.f3] := ⟨[.string x.f0], [.int .i64 x.f1, .int .i64 x.f2, .bool x.f3], rfl, rfl, ⟨[.int .i64 x.f1], [.int .i64 x.f2, .bool x.f3], rfl, rfl, ⟨[.int .i64 x.f2], [.bool x.f3], rfl, rfl, rfl⟩⟩⟩
theorem k148_mkM (w : World) (base : Nat) (ok : Nat → Prop) (x : S148)  : k148.M w base ok x [.string x.f0, .int .i64 x.f1, .int .i64 x.f2, .bool x.f3] := ⟨[.string x.f0], [.int .i64 x.f1, .int .i64 x.f2, .bool x.f3], rfl, rfl, ⟨[.int .i64 x.f1], [.int .i64 x.f2, .bool x.f3], rfl, rfl, ⟨[.int .i64 x.f2], [.bool x.f3], rfl, rfl, rfl⟩⟩⟩
theorem k148_mkF (W : World) (ok : Nat → Prop) (x : S148) : Kd.FK k148 W ok x [.string x.f0, .int .i64 x.f1, .int .i64 x.f2, .bool x.f3] := fun W2 _ => k148_mk W2 x
def rd_T148 (xs : List S148) (i : Int) : S148 := xs.getD i.toNat z148
theorem at_T148 {w : World} {A : Option Addr} {n : Nat} {xs : List S148} (h : Kd.C k148 w A n xs) (i : Int) (h0 : 0 ≤ i) (h1 : i < n) : ∃ ad , A = some ad ∧ w.cell? (ad.add (i.toNat * 4)) = some (.string (rd_T148 xs i).f0) ∧ w.cell? ⟨(ad.add (i.toNat * 4)).block, (ad.add (i.toNat * 4)).off + 1, none⟩ = some (.int .i64 (rd_T148 xs i).f1) ∧ w.cell? ⟨(ad.add (i.toNat * 4)).block, (ad.add (i.toNat * 4)).off + 2, none⟩ = some (.int .i64 (rd_T148 xs i).f2) ∧ w.cell? ⟨(ad.add (i.toNat * 4)).block, (ad.add (i.toNat * 4)).off + 3, none⟩ = some (.bool (rd_T148 xs i).f3) := by
  obtain ⟨ad, c, e, _, hK, hc0⟩ := Kd.C_get h z148 i h0 h1
  have hc : ∀ j u, c[j]? = some u → w.cell? (ad.add (i.toNat * 4 + j)) = some u := hc0
  obtain rfl := k148_open hK
  exact ⟨ad, e, hc 0 _ rfl, by rw [← add_field _ _ 1 (by omega)]; exact hc 1 _ rfl, by rw [← add_field _ _ 2 (by omega)]; exact hc 2 _ rfl, by rw [← add_field _ _ 3 (by omega)]; exact hc 3 _ rfl⟩

/-! #### struct type 142 -/
structure S142 where
  f0 : Bool
  f1 : S25
  f2 : S25
def z142 : S142 := ⟨false, z25, z25⟩
def k142 : Kd S142 := Kd.iso (Kd.pair Kd.bool (Kd.pair k25 k25)) (fun x : S142 => (x.f0, x.f1, x.f2))
theorem k142_heap : Kd.Heap k142 := Kd.heap_iso _ (Kd.heap_pair Kd.heap_bool (Kd.heap_pair k25_heap k25_heap))
theorem k142_open {w : World} {x : S142} {cs : List Value} (h : k142.K w x cs) : ∃ A2 c2 A4 c4, cs = [.bool x.f0, .int .i64 x.f1.f0, .slice A2 x.f1.f1.length c2, .int .i64 x.f2.f0, .slice A4 x.f2.f1.length c4] ∧ x.f1.f1.length ≤ c2 ∧ k25.C w A2 x.f1.f1.length x.f1.f1 ∧ x.f2.f1.length ≤ c4 ∧ k25.C w A4 x.f2.f1.length x.f2.f1 := by
  obtain ⟨_, _, rfl, rfl, ⟨_, _, rfl, s1, s3⟩⟩ := h
  obtain ⟨A2, c2, rfl, l2, g2⟩ := k25_open s1
  obtain ⟨A4, c4, rfl, l4, g4⟩ := k25_open s3
  exact ⟨A2, c2, A4, c4, rfl, l2, g2, l4, g4⟩
theorem k142_openM {w : World} {base : Nat} {ok : Nat → Prop} {x : S142} {cs : List Value} (h : k142.M w base ok x cs) : ∃ v2 v4, cs = [.bool x.f0, .int .i64 x.f1.f0, v2, .int .i64 x.f2.f0, v4] ∧ k25.R 25 w base ok v2 x.f1.f1 ∧ k25.R 25 w base ok v4 x.f2.f1 := by
  obtain ⟨_, _, rfl, rfl, ⟨_, _, rfl, s1, s3⟩⟩ := h
  obtain ⟨v2, rfl, g2⟩ := k25_openM s1
  obtain ⟨v4, rfl, g4⟩ := k25_openM s3
  exact ⟨v2, v4, rfl, g2, g4⟩
theorem k142_mk (w : World) (x : S142) {A2 : Option Addr} {c2 : Nat} (l2 : x.f1.f1.length ≤ c2) (g2 : k25.C w A2 x.f1.f1.length x.f1.f1) {A4 : Option Addr} {c4 : Nat} (l4 : x.f2.f1.length ≤ c4) (g4 : k25.C w A4 x.f2.f1.length x.f2.f1) : k142.K w x [.bool x.f0, .int .i64 x.f1.f0, .slice A2 x.f1.f1.length c2, .int .i64 x.f2.f0, .slice A4 x.f2.f1.length c4] := ⟨[.bool x.f0], [.int .i64 x.f1.f0, .slice A2 x.f1.f1.length c2, .int .i64 x.f2.f0, .slice A4 x.f2.f1.length c4], rfl, rfl, ⟨[.int .i64 x.f1.f0, .slice A2 x.f1.f1.length c2], [.int .i64 x.f2.f0, .slice A4 x.f2.f1.length c4], rfl, (k25_mk w x.f1 l2 g2), (k25_mk w x.f2 l4 g4)⟩⟩
theorem k142_mkM (w : World) (base : Nat) (ok : Nat → Prop) (x : S142) {v2 : Value} (g2 : k25.R 25 w base ok v2 x.f1.f1) {v4 : Value} (g4 : k25.R 25 w base ok v4 x.f2.f1) : k142.M w base ok x [.bool x.f0, .int .i64 x.f1.f0, v2, .int .i64 x.f2.f0, v4] := ⟨[.bool x.f0], [.int .i64 x.f1.f0, v2, .int .i64 x.f2.f0, v4], rfl, rfl, ⟨[.int .i64 x.f1.f0, v2], [.int .i64 x.f2.f0, v4], rfl, (k25_mkM w base ok x.f1 g2), (k25_mkM w base ok x.f2 g4)⟩⟩
theorem k142_openF {W : World} {ok : Nat → Prop} {x : S142} {cs : List Value} (h : Kd.FK k142 W ok x cs) : ∃ A2 c2 A4 c4, cs = [.bool x.f0, .int .i64 x.f1.f0, .slice A2 x.f1.f1.length c2, .int .i64 x.f2.f0, .slice A4 x.f2.f1.length c4] ∧ x.f1.f1.length ≤ c2 ∧ Kd.F k25 W ok A2 x.f1.f1.length x.f1.f1 ∧ x.f2.f1.length ≤ c4 ∧ Kd.F k25 W ok A4 x.f2.f1.length x.f2.f1 := by
  obtain ⟨A2, c2, A4, c4, rfl, l2, _, l4, _⟩ := k142_open (Kd.FK_now h)
  exact ⟨A2, c2, A4, c4, rfl, l2, (fun W' hW => by obtain ⟨A2_, c2_, A4_, c4_, he, l2_, g2_, l4_, g4_⟩ := k142_open (h W' hW); injection (Option.some.inj (show some (Value.slice A2 x.f1.f1.length c2) = some (Value.slice A2_ x.f1.f1.length c2_) from congrArg (fun l => l[2]?) he)) with ha_ _ _; rw [ha_]; exact g2_), l4, (fun W' hW => by obtain ⟨A2_, c2_, A4_, c4_, he, l2_, g2_, l4_, g4_⟩ := k142_open (h W' hW); injection (Option.some.inj (show some (Value.slice A4 x.f2.f1.length c4) = some (Value.slice A4_ x.f2.f1.length c4_) from congrArg (fun l => l[4]?) he)) with ha_ _ _; rw [ha_]; exact g4_)⟩
theorem k142_mkF (W : World) (ok : Nat → Prop) (x : S142) {A2 : Option Addr} {c2 : Nat} (l2 : x.f1.f1.length ≤ c2) (g2 : Kd.F k25 W ok A2 x.f1.f1.length x.f1.f1) {A4 : Option Addr} {c4 : Nat} (l4 : x.f2.f1.length ≤ c4) (g4 : Kd.F k25 W ok A4 x.f2.f1.length x.f2.f1) : Kd.FK k142 W ok x [.bool x.f0, .int .i64 x.f1.f0, .slice A2 x.f1.f1.length c2, .int .i64 x.f2.f0, .slice A4 x.f2.f1.length c4] := fun W2 hW => k142_mk W2 x l2 (g2 W2 hW) l4 (g4 W2 hW)
def rd_T142 (xs : List S142) (i : Int) : S142 := xs.getD i.toNat z142
theorem at_T142 {w : World} {A : Option Addr} {n : Nat} {xs : List S142} (h : Kd.C k142 w A n xs) (i : Int) (h0 : 0 ≤ i) (h1 : i < n) : ∃ ad A2 c2 A4 c4, A = some ad ∧ w.cell? (ad.add (i.toNat * 5)) = some (.bool (rd_T142 xs i).f0) ∧ w.cell? ⟨(ad.add (i.toNat * 5)).block, (ad.add (i.toNat * 5)).off + 1, none⟩ = some (.int .i64 (rd_T142 xs i).f1.f0) ∧ w.cell? ⟨(ad.add (i.toNat * 5)).block, (ad.add (i.toNat * 5)).off + 2, none⟩ = some (.slice A2 (rd_T142 xs i).f1.f1.length c2) ∧ w.cell? ⟨(ad.add (i.toNat * 5)).block, (ad.add (i.toNat * 5)).off + 3, none⟩ = some (.int .i64 (rd_T142 xs i).f2.f0) ∧ w.cell? ⟨(ad.add (i.toNat * 5)).block, (ad.add (i.toNat * 5)).off + 4, none⟩ = some (.slice A4 (rd_T142 xs i).f2.f1.length c4) ∧ (rd_T142 xs i).f1.f1.length ≤ c2 ∧ k25.C w A2 (rd_T142 xs i).f1.f1.length (rd_T142 xs i).f1.f1 ∧ (rd_T142 xs i).f2.f1.length ≤ c4 ∧ k25.C w A4 (rd_T142 xs i).f2.f1.length (rd_T142 xs i).f2.f1 := by
  obtain ⟨ad, c, e, _, hK, hc0⟩ := Kd.C_get h z142 i h0 h1
  have hc : ∀ j u, c[j]? = some u → w.cell? (ad.add (i.toNat * 5 + j)) = some u := hc0
  obtain ⟨A2, c2, A4, c4, rfl, l2, g2, l4, g4⟩ := k142_open hK
  exact ⟨ad, A2, c2, A4, c4, e, hc 0 _ rfl, by rw [← add_field _ _ 1 (by omega)]; exact hc 1 _ rfl, by rw [← add_field _ _ 2 (by omega)]; exact hc 2 _ rfl, by rw [← add_field _ _ 3 (by omega)]; exact hc 3 _ rfl, by rw [← add_field _ _ 4 (by omega)]; exact hc 4 _ rfl, l2, g2, l4, g4⟩

def rd_L11 (xs : List (List S148)) (i : Int) : (List S148) := xs.getD i.toNat ([] : List S148)
theorem at_L11 {w : World} {A : Option Addr} {n : Nat} {xs : List (List S148)} (h : Kd.C (Kd.slice 148 k148) w A n xs) (i : Int) (h0 : 0 ≤ i) (h1 : i < n) : ∃ ad A0 c0, A = some ad ∧ w.cell? (ad.add i.toNat) = some (.slice A0 (rd_L11 xs i).length c0) ∧ (rd_L11 xs i).length ≤ c0 ∧ k148.C w A0 (rd_L11 xs i).length (rd_L11 xs i) := by
  obtain ⟨ad, c, e, _, hK, hc0⟩ := Kd.C_get h ([] : List S148) i h0 h1
  have hc : ∀ j u, c[j]? = some u → w.cell? (ad.add (i.toNat * 1 + j)) = some u := hc0
  obtain ⟨A0, c0, rfl, l0, g0⟩ := hK
  exact ⟨ad, A0, c0, e, by have hq := hc 0 _ rfl; rwa [Nat.mul_one, Nat.add_zero] at hq, l0, g0⟩

def rd_L12 (xs : List (List S142)) (i : Int) : (List S142) := xs.getD i.toNat ([] : List S142)
theorem at_L12 {w : World} {A : Option Addr} {n : Nat} {xs : List (List S142)} (h : Kd.C (Kd.slice 142 k142) w A n xs) (i : Int) (h0 : 0 ≤ i) (h1 : i < n) : ∃ ad A0 c0, A = some ad ∧ w.cell? (ad.add i.toNat) = some (.slice A0 (rd_L12 xs i).length c0) ∧ (rd_L12 xs i).length ≤ c0 ∧ k142.C w A0 (rd_L12 xs i).length (rd_L12 xs i) := by
  obtain ⟨ad, c, e, _, hK, hc0⟩ := Kd.C_get h ([] : List S142) i h0 h1
  have hc : ∀ j u, c[j]? = some u → w.cell? (ad.add (i.toNat * 1 + j)) = some u := hc0
  obtain ⟨A0, c0, rfl, l0, g0⟩ := hK
  exact ⟨ad, A0, c0, e, by have hq := hc 0 _ rfl; rwa [Nat.mul_one, Nat.add_zero] at hq, l0, g0⟩

end Go.Proofs.Ythplndalbfcbbaa.PA
/- Terms, binds and numbers as the printed functions have them. -/
set_option linter.unusedSimpArgs false
set_option linter.unusedVariables false
namespace Go.Proofs.Ythplndalbfcbbaa
open Go.RowKit Go.Proofs.YthplndalbfcbbaaW.PrintWords

abbrev TS := PA.S25
abbrev BS := PA.S60
abbrev kT := PA.k25
abbrev kB := PA.k60
mutual
def toS : Tm → TS
  | .node h l => ⟨h, toSL l⟩
def toSL : List Tm → List TS
  | [] => []
  | t :: ts => toS t :: toSL ts
end
mutual
def ofS : TS → Tm
  | ⟨h, l⟩ => .node h (ofSL l)
def ofSL : List TS → List Tm
  | [] => []
  | x :: xs => ofS x :: ofSL xs
end
mutual
theorem ofS_toS : ∀ t : Tm, ofS (toS t) = t
  | .node h l => by simp only [toS, ofS, ofSL_toSL l]
theorem ofSL_toSL : ∀ l : List Tm, ofSL (toSL l) = l
  | [] => rfl
  | t :: ts => by simp only [toSL, ofSL, ofS_toS t, ofSL_toSL ts]
end
mutual
theorem toS_ofS : ∀ x : TS, toS (ofS x) = x
  | ⟨h, l⟩ => by simp only [toS, ofS, toSL_ofSL l]
theorem toSL_ofSL : ∀ l : List TS, toSL (ofSL l) = l
  | [] => rfl
  | x :: xs => by simp only [toSL, ofSL, toS_ofS x, toSL_ofSL xs]
end
theorem toSL_map (l : List Tm) : toSL l = l.map toS := by induction l <;> simp_all [toSL]
theorem ofSL_map (l : List TS) : ofSL l = l.map ofS := by induction l <;> simp_all [ofSL]
theorem toSL_length (l : List Tm) : (toSL l).length = l.length := by rw [toSL_map]; simp
theorem ofSL_length (l : List TS) : (ofSL l).length = l.length := by rw [ofSL_map]; simp
theorem toS_f0 (t : Tm) : (toS t).f0 = t.h := by cases t; rfl
theorem toS_f1 (t : Tm) : (toS t).f1 = toSL t.args := by cases t; rfl
theorem ofS_h (x : TS) : (ofS x).h = x.f0 := by cases x; rfl
theorem ofS_args (x : TS) : (ofS x).args = ofSL x.f1 := by cases x; rfl
theorem add_flat (b off k : Nat) : (⟨b, off, none⟩ : Addr).add k = ⟨b, off + k, none⟩ := by unfold Addr.add; split <;> simp_all

/-! ### From what is laid to what the prints read -/
mutual
theorem k_of {A : Nat → Prop} {w : World} : ∀ (t : Tm) (cs : List Value), RepD A w t.d cs → kT.K w (toS t) cs
  | .node h l, cs, hr => by
    obtain ⟨s, rfl, hs⟩ := repTm.1 hr
    have hs' : RepD A w (.row 2 (Tm.ds l)) [s] := hs
    simp only [RepD] at hs'
    obtain ⟨a, n, c, h1, h2, h3, h4, h5⟩ := hs'
    simp only [List.cons.injEq, and_true] at h1
    subst h1
    have hn : n = (toSL l).length := by rw [h2, Tm.ds_eq, toSL_length]; simp
    subst hn
    refine PA.k25_mk w (toS (.node h l)) (A1 := a) (c1 := c) h3 ⟨rfl, h4, fun h0 => ?_⟩
    obtain ⟨b, off, rfl, hb, hA, hR⟩ := h5 h0
    exact ⟨_, rfl, fun j p hp => by
      obtain ⟨c1, e1, e2, e3⟩ := kr_of l off hR j p hp
      exact ⟨c1, e1, e2, fun i u hu => by rw [add_flat, ← Nat.add_assoc]; exact e3 i u hu⟩⟩
theorem kr_of {A : Nat → Prop} {w : World} {b : Nat} : ∀ (l : List Tm) (off : Nat), RepR A w b 2 off (Tm.ds l) → ∀ j p, (toSL l)[j]? = some p → ∃ c : List Value, c.length = 2 ∧ kT.K w p c ∧ ∀ i u, c[i]? = some u → w.cell? ⟨b, off + j * 2 + i, none⟩ = some u
  | [], _, _, j, p, hp => by simp [toSL] at hp
  | t :: ts, off, h, j, p, hp => by
    simp only [Tm.ds, RepR] at h
    obtain ⟨⟨cs, e1, e2, e3⟩, h2⟩ := h
    cases j with
    | zero =>
      simp only [toSL, List.getElem?_cons_zero, Option.some.injEq] at hp
      subst hp
      refine ⟨cs, e1, k_of t cs e3, fun i u hu => ?_⟩
      have hi : i < 2 := by have := (List.getElem?_eq_some_iff.1 hu).1; omega
      rw [show off + 0 * 2 + i = off + i by omega, e2 i hi, hu]
    | succ j =>
      simp only [toSL, List.getElem?_cons_succ] at hp
      obtain ⟨c1, g1, g2, g3⟩ := kr_of ts (off + 2) h2 j p hp
      exact ⟨c1, g1, g2, fun i u hu => by rw [show off + (j + 1) * 2 + i = off + 2 + j * 2 + i by omega]; exact g3 i u hu⟩
end
theorem c_of {A : Nat → Prop} {w : World} {a : Option Addr} {n c : Nat} {l : List Tm} (hs : Terms A w (.slice a n c) l) : n = (toSL l).length ∧ (toSL l).length ≤ c ∧ kT.C w a (toSL l).length (toSL l) := by
  have hs' : RepD A w (.row 2 (Tm.ds l)) [.slice a n c] := hs
  simp only [RepD] at hs'
  obtain ⟨a', n', c', h1, h2, h3, h4, h5⟩ := hs'
  simp only [List.cons.injEq, and_true, Value.slice.injEq] at h1
  obtain ⟨rfl, rfl, rfl⟩ := h1
  have hn : n = (toSL l).length := by rw [h2, Tm.ds_eq, toSL_length]; simp
  subst hn
  refine ⟨rfl, h3, rfl, h4, fun h0 => ?_⟩
  obtain ⟨b, off, rfl, hb, hA, hR⟩ := h5 h0
  exact ⟨_, rfl, fun j p hp => by
    obtain ⟨c1, e1, e2, e3⟩ := kr_of l off hR j p hp
    exact ⟨c1, e1, e2, fun i u hu => by rw [add_flat, ← Nat.add_assoc]; exact e3 i u hu⟩⟩
theorem f_of {A ok : Nat → Prop} {w : World} {a : Option Addr} {n c : Nat} {l : List Tm} (hs : Terms A w (.slice a n c) l) (hA : ∀ b, b < w.heap.size → ¬ A b → ok b) : Kd.F kT w ok a (toSL l).length (toSL l) := fun W' hW =>
  (c_of (RepD.frame (B := A) (fun b hb hlt => hW b (hA b hlt hb) hlt) (fun _ _ h => h) _ _ hs : Terms A W' (.slice a n c) l)).2.2
theorem v_of {A ok : Nat → Prop} {w : World} {base e : Nat} {v : Value} {l : List Tm} (hs : Terms A w v l) (hA : ∀ b, b < w.heap.size → ¬ A b → ok b) : Kd.V kT e w base ok v (toSL l) := by
  obtain ⟨a, c, rfl, hc, hm⟩ := hs.shape
  refine ⟨a, c, ?_, by rw [toSL_length]; exact hc, f_of hs hA⟩
  rw [toSL_length]

/-! ### And back -/
theorem plain_of {w : World} {ad : Addr} {u : Value} (h : w.cell? ad = some u) : ad = ⟨ad.block, ad.off, none⟩ ∧ ad.block < w.heap.size := by
  refine ⟨?_, World.block_lt_of_cell? w ad h⟩
  cases ad with
  | mk b o s =>
    cases s with
    | none => rfl
    | some x =>
      unfold World.cell? at h
      split at h
      · simp at h
      · cases h
mutual
theorem tm_of {ok : Nat → Prop} {w : World} : ∀ (x : TS) (cs : List Value), Kd.FK kT w ok x cs → RepD (fun b => ¬ ok b) w (ofS x).d cs
  | ⟨h, l⟩, cs, hf => by
    obtain ⟨A1, c1, rfl, l1, g1⟩ := PA.k25_openF hf
    refine repTm.2 ⟨_, rfl, ?_⟩
    show RepD _ w (.row 2 (Tm.ds (ofSL l))) _
    simp only [RepD]
    refine ⟨A1, l.length, c1, rfl, by rw [Tm.ds_eq, List.length_map, ofSL_length], l1, Kd.F_max g1, fun h0 => ?_⟩
    obtain ⟨ad, c0, rfl, e1, _, e2, e3⟩ := Kd.F_get g1 PA.z25 0 (by omega) (by show (0 : Int) < (l.length : Int); omega)
    have hc0 : c0.length = 2 := e1
    have hcell := e2 0 (c0[0]'(by omega)) (List.getElem?_eq_getElem (by omega))
    obtain ⟨hp, hlt⟩ := plain_of (show w.cell? ad = some (c0[0]'(by omega)) from hcell)
    refine ⟨ad.block, ad.off, by rw [← hp], hlt, fun hn => hn (e3 (by show 0 < 2; omega)), tr_of l ad.off fun j p hj => ?_⟩
    have hjl := (List.getElem?_eq_some_iff.1 hj).1
    obtain ⟨ad', cs, he, g2, g3, g4, _⟩ := Kd.F_get g1 PA.z25 j (by omega) (by show (j : Int) < (l.length : Int); omega)
    simp only [Option.some.injEq] at he
    subst he
    have hx : l.getD (j : Int).toNat PA.z25 = p := by simp [List.getD_eq_getElem?_getD, hj]
    have g3' : Kd.FK kT w ok (l.getD (j : Int).toNat PA.z25) cs := g3
    rw [hx] at g3'
    refine ⟨cs, g2, g3', fun i u hu => ?_⟩
    have := g4 i u hu
    rw [hp, add_flat] at this
    rw [show ad.off + j * 2 + i = ad.off + ((j : Int).toNat * 2 + i) by simp; omega]
    exact this
theorem tr_of {ok : Nat → Prop} {w : World} {b : Nat} : ∀ (l : List TS) (off : Nat), (∀ j p, l[j]? = some p → ∃ cs : List Value, cs.length = 2 ∧ Kd.FK kT w ok p cs ∧ ∀ i u, cs[i]? = some u → w.cell? ⟨b, off + j * 2 + i, none⟩ = some u) → RepR (fun b => ¬ ok b) w b 2 off (Tm.ds (ofSL l))
  | [], _, _ => by simp only [ofSL, Tm.ds, RepR]
  | x :: xs, off, h => by
    simp only [ofSL, Tm.ds, RepR]
    obtain ⟨cs, e1, e2, e3⟩ := h 0 x rfl
    refine ⟨⟨cs, e1, fun i hi => ?_, tm_of x cs e2⟩, tr_of xs (off + 2) fun j p hj => ?_⟩
    · have := e3 i (cs[i]'(by omega)) (List.getElem?_eq_getElem (by omega))
      rw [show off + 0 * 2 + i = off + i by omega] at this
      rw [this, List.getElem?_eq_getElem (by omega)]
    · obtain ⟨c1, g1, g2, g3⟩ := h (j + 1) p (by simpa using hj)
      exact ⟨c1, g1, g2, fun i u hu => by rw [show off + 2 + j * 2 + i = off + (j + 1) * 2 + i by omega]; exact g3 i u hu⟩
end
theorem terms_of {ok : Nat → Prop} {w : World} {a : Option Addr} {c : Nat} {l : List TS} (hc : l.length ≤ c) (hf : Kd.F kT w ok a l.length l) : Terms (fun b => ¬ ok b) w (.slice a l.length c) (ofSL l) := by
  have h : Kd.FK kT w ok (⟨0, l⟩ : TS) [.int .i64 0, .slice a l.length c] := PA.k25_mkF w ok ⟨0, l⟩ hc hf
  have h2 := tm_of _ _ h
  obtain ⟨s, e, h3⟩ := repTm.1 h2
  simp only [List.cons.injEq, and_true] at e
  rw [e.2]; exact h3
theorem terms_of_c {w : World} {a : Option Addr} {c : Nat} {l : List TS} (hc : l.length ≤ c) (h : kT.C w a l.length l) : Terms (fun _ => False) w (.slice a l.length c) (ofSL l) :=
  RepD.frame (A := fun b => ¬ (b < w.heap.size)) (B := fun _ => False) (fun _ _ _ => rfl) (fun _ _ h => h.elim) _ _ (terms_of hc (Kd.C_F PA.k25_heap h))
theorem terms_of_v {ok : Nat → Prop} {w : World} {base e : Nat} {a : Option Addr} {n c : Nat} {l : List TS} (h : Kd.V kT e w base ok (.slice a n c) l) : Terms (fun b => ¬ ok b) w (.slice a n c) (ofSL l) := by
  obtain ⟨a', c', e', hc, hf⟩ := h
  simp only [Value.slice.injEq] at e'
  obtain ⟨rfl, rfl, rfl⟩ := e'
  exact terms_of hc hf

/-! ### Binds -/
def toB (b : Bd) : BS := ⟨b.v, toS b.t⟩
def ofB (x : BS) : Bd := ⟨x.f0, ofS x.f1⟩
def toBL (l : List Bd) : List BS := l.map toB
def ofBL (l : List BS) : List Bd := l.map ofB
theorem ofB_toB (b : Bd) : ofB (toB b) = b := by cases b; simp [toB, ofB, ofS_toS]
theorem toB_ofB (x : BS) : toB (ofB x) = x := by cases x; simp [toB, ofB, toS_ofS]
theorem ofBL_toBL (l : List Bd) : ofBL (toBL l) = l := by simp [ofBL, toBL, ofB_toB, Function.comp_def]
theorem toBL_ofBL (l : List BS) : toBL (ofBL l) = l := by simp [ofBL, toBL, toB_ofB, Function.comp_def]
theorem toBL_length (l : List Bd) : (toBL l).length = l.length := by simp [toBL]
theorem ofBL_length (l : List BS) : (ofBL l).length = l.length := by simp [ofBL]
theorem kb_of {A : Nat → Prop} {w : World} (b : Bd) (cs : List Value) (h : RepD A w b.d cs) : kB.K w (toB b) cs := by
  obtain ⟨s, rfl, hs⟩ := repBd.1 h
  obtain ⟨a, c, rfl, hc, hm⟩ := hs.shape
  have h1 := c_of hs
  have h2 := PA.k60_mk w (toB b) (A2 := a) (c2 := c) (by show (toS b.t).f1.length ≤ c; rw [toS_f1, toSL_length]; exact hc) (by show kT.C w a (toS b.t).f1.length (toS b.t).f1; rw [toS_f1]; exact h1.2.2)
  have e1 : (toB b).f1.f0 = b.t.h := toS_f0 b.t
  have e2 : (toB b).f1.f1.length = b.t.args.length := by show (toS b.t).f1.length = _; rw [toS_f1, toSL_length]
  have e3 : (toB b).f0 = b.v := rfl
  rw [e1, e2, e3] at h2
  exact h2
theorem cb_of {A : Nat → Prop} {w : World} {a : Option Addr} {n c : Nat} {l : List Bd} (hs : Binds A w (.slice a n c) l) : n = (toBL l).length ∧ (toBL l).length ≤ c ∧ kB.C w a (toBL l).length (toBL l) := by
  have hs' : RepD A w (.row 3 (l.map Bd.d)) [.slice a n c] := hs
  simp only [RepD] at hs'
  obtain ⟨a', n', c', h1, h2, h3, h4, h5⟩ := hs'
  simp only [List.cons.injEq, and_true, Value.slice.injEq] at h1
  obtain ⟨rfl, rfl, rfl⟩ := h1
  have hn : n = (toBL l).length := by rw [h2, toBL_length]; simp
  subst hn
  refine ⟨rfl, h3, rfl, h4, fun h0 => ?_⟩
  obtain ⟨b, off, rfl, hb, hA, hR⟩ := h5 h0
  refine ⟨_, rfl, fun j p hp => ?_⟩
  simp only [toBL, List.getElem?_map, Option.map_eq_some_iff] at hp
  obtain ⟨x, hx, rfl⟩ := hp
  have hj : j < (l.map Bd.d).length := by have := (List.getElem?_eq_some_iff.1 hx).1; simpa using this
  obtain ⟨cs, g1, g2, g3⟩ := hR.at j hj
  have hx' : (l.map Bd.d)[j] = x.d := by simp [List.getElem_map, (List.getElem?_eq_some_iff.1 hx).2]
  rw [hx'] at g3
  refine ⟨cs, g1, kb_of x cs g3, fun i u hu => ?_⟩
  have hi : i < 3 := by have := (List.getElem?_eq_some_iff.1 hu).1; omega
  rw [add_flat]
  show w.cell? ⟨b, off + (j * 3 + i), none⟩ = some u
  rw [← Nat.add_assoc, g2 i hi, hu]
theorem fb_of {A ok : Nat → Prop} {w : World} {a : Option Addr} {n c : Nat} {l : List Bd} (hs : Binds A w (.slice a n c) l) (hA : ∀ b, b < w.heap.size → ¬ A b → ok b) : Kd.F kB w ok a (toBL l).length (toBL l) := fun W' hW =>
  (cb_of (RepD.frame (B := A) (fun b hb hlt => hW b (hA b hlt hb) hlt) (fun _ _ h => h) _ _ hs : Binds A W' (.slice a n c) l)).2.2
theorem vb_of {A ok : Nat → Prop} {w : World} {base e : Nat} {v : Value} {l : List Bd} (hs : Binds A w v l) (hA : ∀ b, b < w.heap.size → ¬ A b → ok b) : Kd.V kB e w base ok v (toBL l) := by
  obtain ⟨a, c, rfl, hc, hm⟩ := hs.shape
  refine ⟨a, c, ?_, by rw [toBL_length]; exact hc, fb_of hs hA⟩
  rw [toBL_length]
theorem bd_of {ok : Nat → Prop} {w : World} (x : BS) (cs : List Value) (hf : Kd.FK kB w ok x cs) : RepD (fun b => ¬ ok b) w (ofB x).d cs := by
  obtain ⟨A2, c2, rfl, l2, g2⟩ := PA.k60_openF hf
  refine repBd.2 ⟨.slice A2 x.f1.f1.length c2, ?_, ?_⟩
  · simp only [ofB, ofS_h]
  · show Terms _ w _ (ofS x.f1).args
    rw [ofS_args]; exact terms_of l2 g2
theorem bs_of {ok : Nat → Prop} {w : World} {b : Nat} : ∀ (l : List BS) (off : Nat), (∀ j p, l[j]? = some p → ∃ cs : List Value, cs.length = 3 ∧ Kd.FK kB w ok p cs ∧ ∀ i u, cs[i]? = some u → w.cell? ⟨b, off + j * 3 + i, none⟩ = some u) → RepR (fun b => ¬ ok b) w b 3 off ((ofBL l).map Bd.d)
  | [], _, _ => by simp only [ofBL, List.map_nil, RepR]
  | x :: xs, off, h => by
    simp only [ofBL, List.map_cons, RepR]
    obtain ⟨cs, e1, e2, e3⟩ := h 0 x rfl
    refine ⟨⟨cs, e1, fun i hi => ?_, bd_of x cs e2⟩, bs_of xs (off + 3) fun j p hj => ?_⟩
    · have := e3 i (cs[i]'(by omega)) (List.getElem?_eq_getElem (by omega))
      rw [show off + 0 * 3 + i = off + i by omega] at this
      rw [this, List.getElem?_eq_getElem (by omega)]
    · obtain ⟨c1, g1, g2, g3⟩ := h (j + 1) p (by simpa using hj)
      exact ⟨c1, g1, g2, fun i u hu => by rw [show off + 3 + j * 3 + i = off + (j + 1) * 3 + i by omega]; exact g3 i u hu⟩
theorem binds_of {ok : Nat → Prop} {w : World} {a : Option Addr} {c : Nat} {l : List BS} (hc : l.length ≤ c) (g1 : Kd.F kB w ok a l.length l) : Binds (fun b => ¬ ok b) w (.slice a l.length c) (ofBL l) := by
  show RepD _ w (.row 3 ((ofBL l).map Bd.d)) _
  simp only [RepD]
  refine ⟨a, l.length, c, rfl, by rw [List.length_map, ofBL_length], hc, Kd.F_max g1, fun h0 => ?_⟩
  obtain ⟨ad, c0, rfl, e1, _, e2, e3⟩ := Kd.F_get g1 PA.z60 0 (by omega) (by show (0 : Int) < (l.length : Int); omega)
  have hc0 : c0.length = 3 := e1
  have hcell := e2 0 (c0[0]'(by omega)) (List.getElem?_eq_getElem (by omega))
  obtain ⟨hp, hlt⟩ := plain_of (show w.cell? ad = some (c0[0]'(by omega)) from hcell)
  refine ⟨ad.block, ad.off, by rw [← hp], hlt, fun hn => hn (e3 (by show 0 < 3; omega)), bs_of l ad.off fun j p hj => ?_⟩
  have hjl := (List.getElem?_eq_some_iff.1 hj).1
  obtain ⟨ad', cs, he, g2, g3, g4, _⟩ := Kd.F_get g1 PA.z60 j (by omega) (by show (j : Int) < (l.length : Int); omega)
  simp only [Option.some.injEq] at he
  subst he
  have hx : l.getD (j : Int).toNat PA.z60 = p := by simp [List.getD_eq_getElem?_getD, hj]
  have g3' : Kd.FK kB w ok (l.getD (j : Int).toNat PA.z60) cs := g3
  rw [hx] at g3'
  refine ⟨cs, g2, g3', fun i u hu => ?_⟩
  have := g4 i u hu
  rw [hp, add_flat] at this
  have e4 : ad.off + j * 3 + i = ad.off + ((j : Int).toNat * 3 + i) := by simp; omega
  rw [e4]
  exact this
theorem binds_of_c {w : World} {a : Option Addr} {c : Nat} {l : List BS} (hc : l.length ≤ c) (h : kB.C w a l.length l) : Binds (fun _ => False) w (.slice a l.length c) (ofBL l) :=
  RepD.frame (A := fun b => ¬ (b < w.heap.size)) (B := fun _ => False) (fun _ _ _ => rfl) (fun _ _ h => h.elim) _ _ (binds_of hc (Kd.C_F PA.k60_heap h))
theorem binds_of_v {ok : Nat → Prop} {w : World} {base e : Nat} {a : Option Addr} {n c : Nat} {l : List BS} (h : Kd.V kB e w base ok (.slice a n c) l) : Binds (fun b => ¬ ok b) w (.slice a n c) (ofBL l) := by
  obtain ⟨a', c', e', hc, hf⟩ := h
  simp only [Value.slice.injEq] at e'
  obtain ⟨rfl, rfl, rfl⟩ := e'
  exact binds_of hc hf

/-! ### Numbers -/
theorem ci_of {A : Nat → Prop} {w : World} {a : Option Addr} {n c : Nat} {l : List Int} (hs : Ints A w (.slice a n c) l) : n = l.length ∧ l.length ≤ c ∧ (Kd.int .i64).C w a l.length l := by
  have hs' : RepD A w (.row 1 (l.map intD)) [.slice a n c] := hs
  simp only [RepD] at hs'
  obtain ⟨a', n', c', h1, h2, h3, h4, h5⟩ := hs'
  simp only [List.cons.injEq, and_true, Value.slice.injEq] at h1
  obtain ⟨rfl, rfl, rfl⟩ := h1
  have hn : n = l.length := by rw [h2]; simp
  subst hn
  refine ⟨rfl, h3, rfl, h4, fun h0 => ?_⟩
  obtain ⟨b, off, rfl, hb, hA, hR⟩ := h5 h0
  refine ⟨_, rfl, fun j p hp => ?_⟩
  have hj : j < (l.map intD).length := by have := (List.getElem?_eq_some_iff.1 hp).1; simpa using this
  obtain ⟨cs, g1, g2, g3⟩ := hR.at j hj
  have hx' : (l.map intD)[j] = intD p := by simp [List.getElem_map, (List.getElem?_eq_some_iff.1 hp).2]
  rw [hx'] at g3
  have g3' : cs = [.int .i64 p] := by simpa only [intD, RepD] using g3
  refine ⟨cs, g1, g3', fun i u hu => ?_⟩
  have hi : i < 1 := by have := (List.getElem?_eq_some_iff.1 hu).1; omega
  rw [add_flat]
  show w.cell? ⟨b, off + (j * 1 + i), none⟩ = some u
  rw [← Nat.add_assoc, g2 i hi, hu]
theorem fi_of {A ok : Nat → Prop} {w : World} {a : Option Addr} {n c : Nat} {l : List Int} (hs : Ints A w (.slice a n c) l) (hA : ∀ b, b < w.heap.size → ¬ A b → ok b) : Kd.F (Kd.int .i64) w ok a l.length l := fun W' hW =>
  (ci_of (RepD.frame (B := A) (fun b hb hlt => hW b (hA b hlt hb) hlt) (fun _ _ h => h) _ _ hs : Ints A W' (.slice a n c) l)).2.2
theorem vi_of {A ok : Nat → Prop} {w : World} {base e : Nat} {v : Value} {l : List Int} (hs : Ints A w v l) (hA : ∀ b, b < w.heap.size → ¬ A b → ok b) : Kd.V (Kd.int .i64) e w base ok v l := by
  obtain ⟨a, c, rfl, hc, hm⟩ := hs.shape
  exact ⟨a, c, rfl, hc, fi_of hs hA⟩
theorem is_of {w : World} {b : Nat} : ∀ (l : List Int) (off : Nat) (A : Nat → Prop), (∀ j p, l[j]? = some p → w.cell? ⟨b, off + j, none⟩ = some (.int .i64 p)) → RepR A w b 1 off (l.map intD)
  | [], _, _, _ => by simp only [List.map_nil, RepR]
  | x :: xs, off, A, h => by
    simp only [List.map_cons, RepR]
    refine ⟨⟨[.int .i64 x], rfl, fun i hi => ?_, by simp only [intD, RepD]⟩, is_of xs (off + 1) A fun j p hj => ?_⟩
    · have : i = 0 := by omega
      subst this
      have := h 0 x rfl
      simpa using this
    · have := h (j + 1) p (by simpa using hj)
      rw [show off + 1 + j = off + (j + 1) by omega]; exact this
theorem ints_of {ok : Nat → Prop} {w : World} {a : Option Addr} {c : Nat} {l : List Int} (hc : l.length ≤ c) (g1 : Kd.F (Kd.int .i64) w ok a l.length l) : Ints (fun b => ¬ ok b) w (.slice a l.length c) l := by
  show RepD _ w (.row 1 (l.map intD)) _
  simp only [RepD]
  refine ⟨a, l.length, c, rfl, by rw [List.length_map], hc, Kd.F_max g1, fun h0 => ?_⟩
  obtain ⟨ad, c0, rfl, e1, _, e2, e3⟩ := Kd.F_get g1 0 0 (by omega) (by show (0 : Int) < (l.length : Int); omega)
  have hc0 : c0.length = 1 := e1
  have hcell := e2 0 (c0[0]'(by omega)) (List.getElem?_eq_getElem (by omega))
  obtain ⟨hp, hlt⟩ := plain_of (show w.cell? ad = some (c0[0]'(by omega)) from hcell)
  refine ⟨ad.block, ad.off, by rw [← hp], hlt, fun hn => hn (e3 (by show 0 < 1; omega)), is_of l ad.off _ fun j p hj => ?_⟩
  have hjl := (List.getElem?_eq_some_iff.1 hj).1
  obtain ⟨ad', cs, he, g2, g3, g4, _⟩ := Kd.F_get g1 0 j (by omega) (by show (j : Int) < (l.length : Int); omega)
  simp only [Option.some.injEq] at he
  subst he
  have hx : l.getD (j : Int).toNat 0 = p := by simp [List.getD_eq_getElem?_getD, hj]
  have g3' : cs = [.int .i64 (l.getD (j : Int).toNat 0)] := Kd.FK_now g3
  rw [hx] at g3'
  have := g4 0 (.int .i64 p) (by rw [g3']; rfl)
  rw [hp, add_flat] at this
  have e4 : ad.off + j = ad.off + ((j : Int).toNat * 1 + 0) := by simp
  rw [e4]
  exact this
theorem ints_of_c {w : World} {a : Option Addr} {c : Nat} {l : List Int} (hc : l.length ≤ c) (h : (Kd.int .i64).C w a l.length l) : Ints (fun _ => False) w (.slice a l.length c) l :=
  RepD.frame (A := fun b => ¬ (b < w.heap.size)) (B := fun _ => False) (fun _ _ _ => rfl) (fun _ _ h => h.elim) _ _ (ints_of hc (Kd.C_F (Kd.heap_int .i64) h))
end Go.Proofs.Ythplndalbfcbbaa
/- term.Check, Same, Vars, in the printed functions' form. -/
set_option linter.unusedSimpArgs false
set_option linter.unusedVariables false
namespace Go.Proofs.Ythplndalbfcbbaa
open Go.RowKit Go.Proofs.YthplndalbfcbbaaW.PrintWords

theorem isTm_of_c {w : World} {h : Int} {a : Option Addr} {c : Nat} {l : List TS} (hc : l.length ≤ c) (hr : kT.C w a l.length l) : IsTm (fun _ => False) w h (.slice a l.length c) (ofS ⟨h, l⟩) := by
  refine ⟨rfl, ?_⟩
  exact terms_of_c hc hr
theorem isTm_of_v {ok : Nat → Prop} {w : World} {base e : Nat} {h : Int} {a : Option Addr} {n c : Nat} {l : List TS} (hr : Kd.V kT e w base ok (.slice a n c) l) : IsTm (fun b => ¬ ok b) w h (.slice a n c) (ofS ⟨h, l⟩) := by
  refine ⟨rfl, ?_⟩
  exact terms_of_v hr
namespace PA
def term_Check.f (a0 : Int) (l0 : List TS) : Option Int := if (ofS ⟨a0, l0⟩).size ≤ 1000000000 then some (chk (ofS ⟨a0, l0⟩)) else none
theorem term_Check.calls (a0 : Int) (A0 : Option Addr) (c0 : Nat) (l0 : List TS) (r : Int) (w : World) (hr0 : Kd.C kT w A0 l0.length l0) (hc0 : l0.length ≤ c0) (h : term_Check.f a0 l0 = some r) :
    Calls Try.prog 81 #[.agg #[.int .i64 a0, .slice A0 l0.length c0]] w fun e w' => e = .returned (.int .i64 r) ∧ Below w.heap.size w w' := by
  unfold term_Check.f at h
  split at h
  · rename_i hs
    cases h
    exact check_calls _ _ _ _ w (isTm_of_c hc0 hr0) hs
  · cases h
def term_Same.f (a0 : Int) (l0 : List TS) (a1 : Int) (l1 : List TS) : Option Bool := if (ofS ⟨a0, l0⟩).size ≤ 1000000000 then some (sameB (ofS ⟨a0, l0⟩) (ofS ⟨a1, l1⟩)) else none
theorem term_Same.calls (a0 : Int) (A0 : Option Addr) (c0 : Nat) (l0 : List TS) (a1 : Int) (A1 : Option Addr) (c1 : Nat) (l1 : List TS) (r : Bool) (w : World) (hr0 : Kd.C kT w A0 l0.length l0) (hc0 : l0.length ≤ c0) (hr1 : Kd.C kT w A1 l1.length l1) (hc1 : l1.length ≤ c1) (h : term_Same.f a0 l0 a1 l1 = some r) :
    Calls Try.prog 38 #[.agg #[.int .i64 a0, .slice A0 l0.length c0], .agg #[.int .i64 a1, .slice A1 l1.length c1]] w fun e w' => e = .returned (.bool r) ∧ Below w.heap.size w w' := by
  unfold term_Same.f at h
  split at h
  · rename_i hs
    cases h
    exact tsame_calls _ _ _ _ _ _ _ _ w hs (isTm_of_c hc0 hr0) (isTm_of_c hc1 hr1)
  · cases h
def term_Vars.f (a0 : Int) (l0 : List TS) : Option (List Int) := if (ofS ⟨a0, l0⟩).size ≤ 1000000000 ∧ (ofS ⟨a0, l0⟩).good = true then some (varsT (ofS ⟨a0, l0⟩)) else none
theorem term_Vars.calls (a0 : Int) (A0 : Option Addr) (c0 : Nat) (l0 : List TS) (r : List Int) (w : World) (hr0 : Kd.C kT w A0 l0.length l0) (hc0 : l0.length ≤ c0) (h : term_Vars.f a0 l0 = some r) :
    Calls Try.prog 37 #[.agg #[.int .i64 a0, .slice A0 l0.length c0]] w fun e w' => ∃ v0_ : Value, e = .returned (v0_) ∧ Kd.V (Kd.int .i64) 3 w' w.heap.size (fun k_ => (w.heap.size ≤ k_)) v0_ r ∧ Below w.heap.size w w' := by
  unfold term_Vars.f at h
  split at h
  · rename_i hs
    cases h
    refine (tvars_calls _ (fun b => b < w.heap.size) _ _ _ w (fun _ h => h) (isTm_of_c hc0 hr0) hs.1 (good_heads _ hs.2)).mono ?_
    rintro e w' ⟨v, rfl, h1, h2⟩
    exact ⟨v, rfl, vi_of h1 (fun b _ hb => Nat.not_lt.1 hb), h2⟩
  · cases h
end PA
end Go.Proofs.Ythplndalbfcbbaa
/- subst's functions in the printed functions' form. -/
set_option linter.unusedSimpArgs false
set_option linter.unusedVariables false
namespace Go.Proofs.Ythplndalbfcbbaa
open Go.RowKit Go.Proofs.YthplndalbfcbbaaW.PrintWords

/-- A bind that the contracts speak of. -/
def okBd (b : Bd) : Bool := decide (-9223372036854775808 ≤ b.v) && decide (b.v ≤ 9223372036854775807) && decide (b.t.size ≤ 1000)
theorem okBd_iff {bs : List Bd} (h : bs.all okBd = true) : (∀ b, b ∈ bs → -9223372036854775808 ≤ b.v ∧ b.v ≤ 9223372036854775807) ∧ ∀ b, b ∈ bs → b.t.size ≤ 1000 := by
  rw [List.all_eq_true] at h
  refine ⟨fun b hb => ?_, fun b hb => ?_⟩
  · have := h b hb; simp only [okBd, Bool.and_eq_true, decide_eq_true_eq] at this; exact this.1
  · have := h b hb; simp only [okBd, Bool.and_eq_true, decide_eq_true_eq] at this; exact this.2
/-- What one may not lie in, of shared arguments. -/
theorem barOld {w : World} (P : Nat → Prop) : ∀ b, (b < w.heap.size ∧ ¬ P b) → b < w.heap.size := fun _ h => h.1
theorem Binds.bar2 {A B : Nat → Prop} {w : World} {s : Value} {bs : List Bd} (h : Binds A w s bs) (hB : ∀ b, B b → A b) : Binds B w s bs := RepD.bar h fun b _ hb => hB b hb
theorem IsTm.bar2 {A B : Nat → Prop} {w : World} {x : Int} {s : Value} {t : Tm} (h : IsTm A w x s t) (hB : ∀ b, B b → A b) : IsTm B w x s t := ⟨h.1, RepD.bar h.2 fun b _ hb => hB b hb⟩
theorem Terms.bar2 {A B : Nat → Prop} {w : World} {s : Value} {ts : List Tm} (h : Terms A w s ts) (hB : ∀ b, B b → A b) : Terms B w s ts := RepD.bar h fun b _ hb => hB b hb
namespace PA
def subst_Check.f (l0 : List BS) : Option Int := if (ofBL l0).all okBd = true then some (check3 (ofBL l0)) else none
theorem subst_Check.calls (A0 : Option Addr) (c0 : Nat) (l0 : List BS) (r : Int) (w : World) (hr0 : Kd.C kB w A0 l0.length l0) (hc0 : l0.length ≤ c0) (h : subst_Check.f l0 = some r) :
    Calls Try.prog 32 #[.slice A0 l0.length c0] w fun e w' => e = .returned (.int .i64 r) ∧ Below w.heap.size w w' := by
  unfold subst_Check.f at h
  split at h
  · rename_i hs
    cases h
    exact subcheck_calls _ _ _ w (fun b hb => Nat.le_trans ((okBd_iff hs).2 b hb) (by omega)) (binds_of_c hc0 hr0)
  · cases h
def subst_Of.f (l0 : List BS) (a1 : Int) : Option (Int × (List TS)) := if (ofBL l0).all okBd = true ∧ 0 ≤ a1 ∧ a1 ≤ 100000000 then some ((ofBs a1 (ofBL l0)).h, toSL (ofBs a1 (ofBL l0)).args) else none
theorem subst_Of.calls (P0_ : Nat → Prop) (A0 : Option Addr) (c0 : Nat) (l0 : List BS) (a1 : Int) (r1 : Int) (r2 : List TS) (w : World) (hs0 : Kd.V kB 60 w w.heap.size (fun k_ => P0_ k_) (.slice A0 l0.length c0) l0) (h : subst_Of.f l0 a1 = some (r1, r2)) :
    Calls Try.prog 35 #[.slice A0 l0.length c0, .int .i64 a1] w fun e w' => ∃ v1_ : Value, e = .returned (.agg #[.int .i64 r1, v1_]) ∧ Kd.V kT 25 w' w.heap.size (fun k_ => (P0_ k_ ∨ w.heap.size ≤ k_)) v1_ r2 ∧ Below w.heap.size w w' := by
  unfold subst_Of.f at h
  split at h
  · rename_i hs
    cases h
    refine (subof_calls _ a1 (fun b => b < w.heap.size ∧ ¬ P0_ b) _ w hs.2.1 hs.2.2 (barOld _) (okBd_iff hs.1).1 ((binds_of_v hs0).bar2 fun b h => h.2)).mono ?_
    rintro e w' ⟨s, rfl, h1, h2⟩
    exact ⟨s, rfl, v_of h1 (fun b _ hb => by
      by_cases hp : P0_ b
      · exact .inl hp
      · exact .inr (Nat.not_lt.1 fun hlt => hb ⟨hlt, hp⟩)), h2⟩
  · cases h
def subst_Apply.f (l0 : List BS) (a1 : Int) (l1 : List TS) : Option (Int × (List TS) × Int) :=
  if (ofBL l0).all okBd = true ∧ (ofS ⟨a1, l1⟩).size ≤ 1000000 then some ((applyT (ofBL l0) (ofS ⟨a1, l1⟩)).1.h, toSL (applyT (ofBL l0) (ofS ⟨a1, l1⟩)).1.args, (applyT (ofBL l0) (ofS ⟨a1, l1⟩)).2) else none
theorem subst_Apply.calls (P0_ : Nat → Prop) (A0 : Option Addr) (c0 : Nat) (l0 : List BS) (a1_0 : Int) (P1_1_ : Nat → Prop) (A1_1 : Option Addr) (c1_1 : Nat) (l1_1 : List TS) (r1 : Int) (r2 : List TS) (r3 : Int) (w : World)
    (hs0 : Kd.V kB 60 w w.heap.size (fun k_ => P0_ k_) (.slice A0 l0.length c0) l0) (hs1_1 : Kd.V kT 25 w w.heap.size (fun k_ => P1_1_ k_) (.slice A1_1 l1_1.length c1_1) l1_1) (h : subst_Apply.f l0 a1_0 l1_1 = some (r1, r2, r3)) :
    Calls Try.prog 27 #[.slice A0 l0.length c0, .agg #[.int .i64 a1_0, .slice A1_1 l1_1.length c1_1]] w fun e w' => ∃ v1_ : Value, e = .returned (.tuple #[.agg #[.int .i64 r1, v1_], .int .i64 r3]) ∧ Kd.V kT 25 w' w.heap.size (fun k_ => ((P0_ k_ ∨ P1_1_ k_) ∨ w.heap.size ≤ k_)) v1_ r2 ∧ Below w.heap.size w w' := by
  unfold subst_Apply.f at h
  split at h
  · rename_i hs
    simp only [Option.some.injEq, Prod.mk.injEq] at h
    obtain ⟨rfl, rfl, rfl⟩ := h
    refine (subapply_calls _ (ofS ⟨a1_0, l1_1⟩) 1000 (fun b => b < w.heap.size ∧ ¬ (P0_ b ∨ P1_1_ b)) _ _ _ w (barOld _) (okBd_iff hs.1).1 (by omega) (okBd_iff hs.1).2 (by omega) (by have := hs.2; omega) ((binds_of_v hs0).bar2 fun b h hp => h.2 (.inl hp)) ((isTm_of_v hs1_1).bar2 fun b h hp => h.2 (.inr hp))).mono ?_
    rintro e w' ⟨s, rfl, h1, h2⟩
    exact ⟨s, rfl, v_of h1 (fun b _ hb => by
      by_cases hp : P0_ b ∨ P1_1_ b
      · exact .inl hp
      · exact .inr (Nat.not_lt.1 fun hlt => hb ⟨hlt, hp⟩)), h2⟩
  · cases h
def subst_Shift.f (a0 : Int) (l0 : List TS) (a1 : Int) : Option (Int × (List TS) × Int) :=
  if (ofS ⟨a0, l0⟩).size ≤ 1000000000 then some ((shiftE a1 (ofS ⟨a0, l0⟩)).1.h, toSL (shiftE a1 (ofS ⟨a0, l0⟩)).1.args, (shiftE a1 (ofS ⟨a0, l0⟩)).2) else none
theorem subst_Shift.calls (a0_0 : Int) (P0_1_ : Nat → Prop) (A0_1 : Option Addr) (c0_1 : Nat) (l0_1 : List TS) (a1 : Int) (r1 : Int) (r2 : List TS) (r3 : Int) (w : World) (hs0_1 : Kd.V kT 25 w w.heap.size (fun k_ => P0_1_ k_) (.slice A0_1 l0_1.length c0_1) l0_1) (h : subst_Shift.f a0_0 l0_1 a1 = some (r1, r2, r3)) :
    Calls Try.prog 29 #[.agg #[.int .i64 a0_0, .slice A0_1 l0_1.length c0_1], .int .i64 a1] w fun e w' => ∃ v1_ : Value, e = .returned (.tuple #[.agg #[.int .i64 r1, v1_], .int .i64 r3]) ∧ Kd.V kT 25 w' w.heap.size (fun k_ => (P0_1_ k_ ∨ w.heap.size ≤ k_)) v1_ r2 ∧ Below w.heap.size w w' := by
  unfold subst_Shift.f at h
  split at h
  · rename_i hs
    simp only [Option.some.injEq, Prod.mk.injEq] at h
    obtain ⟨rfl, rfl, rfl⟩ := h
    refine (subshift_calls a1 (ofS ⟨a0_0, l0_1⟩) (fun b => b < w.heap.size ∧ ¬ P0_1_ b) _ _ w (barOld _) hs ((isTm_of_v hs0_1).bar2 fun b h => h.2)).mono ?_
    rintro e w' ⟨s, rfl, h1, h2⟩
    exact ⟨s, rfl, v_of h1 (fun b _ hb => by
      by_cases hp : P0_1_ b
      · exact .inl hp
      · exact .inr (Nat.not_lt.1 fun hlt => hb ⟨hlt, hp⟩)), h2⟩
  · cases h
end PA
end Go.Proofs.Ythplndalbfcbbaa
/- match.All, match.Match in the printed functions' form. -/
set_option linter.unusedSimpArgs false
set_option linter.unusedVariables false
namespace Go.Proofs.Ythplndalbfcbbaa
open Go.RowKit Go.Proofs.YthplndalbfcbbaaW.PrintWords

theorem share_ok {w : World} {P : Nat → Prop} : ∀ b, ¬ (b < w.heap.size ∧ ¬ P b) → (P b ∨ w.heap.size ≤ b) := fun b hb => by
  by_cases hp : P b
  · exact .inl hp
  · exact .inr (Nat.not_lt.1 fun hlt => hb ⟨hlt, hp⟩)
namespace PA
def match_All.f (l0 : List TS) (l1 : List TS) : Option ((List BS) × Bool × Int) :=
  if Tm.sizes (ofSL l0) ≤ 1000000000 ∧ Tm.sizes (ofSL l1) ≤ 1000000000 then some (toBL (matchT (ofSL l0) (ofSL l1)).1, (matchT (ofSL l0) (ofSL l1)).2.1, (matchT (ofSL l0) (ofSL l1)).2.2) else none
theorem match_All.calls (P0_ : Nat → Prop) (A0 : Option Addr) (c0 : Nat) (l0 : List TS) (P1_ : Nat → Prop) (A1 : Option Addr) (c1 : Nat) (l1 : List TS) (r1 : List BS) (r2 : Bool) (r3 : Int) (w : World)
    (hs0 : Kd.V kT 25 w w.heap.size (fun k_ => P0_ k_) (.slice A0 l0.length c0) l0) (hs1 : Kd.V kT 25 w w.heap.size (fun k_ => P1_ k_) (.slice A1 l1.length c1) l1) (h : match_All.f l0 l1 = some (r1, r2, r3)) :
    Calls Try.prog 42 #[.slice A0 l0.length c0, .slice A1 l1.length c1] w fun e w' => ∃ v0_ : Value, e = .returned (.tuple #[v0_, .bool r2, .int .i64 r3]) ∧ Kd.V kB 60 w' w.heap.size (fun k_ => ((P0_ k_ ∨ P1_ k_) ∨ w.heap.size ≤ k_)) v0_ r1 ∧ Below w.heap.size w w' := by
  unfold match_All.f at h
  split at h
  · rename_i hs
    simp only [Option.some.injEq, Prod.mk.injEq] at h
    obtain ⟨rfl, rfl, rfl⟩ := h
    refine (matchall_calls (fun b => b < w.heap.size ∧ ¬ (P0_ b ∨ P1_ b)) _ _ _ _ w hs.1 hs.2 (barOld _) ((terms_of_v hs0).bar2 fun b h hp => h.2 (.inl hp)) ((terms_of_v hs1).bar2 fun b h hp => h.2 (.inr hp))).mono ?_
    rintro e w' ⟨v, rfl, h1, h2⟩
    exact ⟨v, rfl, vb_of h1 (fun b _ hb => share_ok (w := w) (P := fun b => P0_ b ∨ P1_ b) b hb), h2⟩
  · cases h
def match_Match.f (a0 : Int) (l0 : List TS) (a1 : Int) (l1 : List TS) : Option ((List BS) × Bool × Int) :=
  if (ofS ⟨a0, l0⟩).size ≤ 1000000000 ∧ (ofS ⟨a1, l1⟩).size ≤ 1000000000 then some (toBL (matchT [ofS ⟨a0, l0⟩] [ofS ⟨a1, l1⟩]).1, (matchT [ofS ⟨a0, l0⟩] [ofS ⟨a1, l1⟩]).2.1, (matchT [ofS ⟨a0, l0⟩] [ofS ⟨a1, l1⟩]).2.2) else none
theorem match_Match.calls (a0_0 : Int) (P0_1_ : Nat → Prop) (A0_1 : Option Addr) (c0_1 : Nat) (l0_1 : List TS) (a1_0 : Int) (P1_1_ : Nat → Prop) (A1_1 : Option Addr) (c1_1 : Nat) (l1_1 : List TS) (r1 : List BS) (r2 : Bool) (r3 : Int) (w : World)
    (hs0_1 : Kd.V kT 25 w w.heap.size (fun k_ => P0_1_ k_) (.slice A0_1 l0_1.length c0_1) l0_1) (hs1_1 : Kd.V kT 25 w w.heap.size (fun k_ => P1_1_ k_) (.slice A1_1 l1_1.length c1_1) l1_1) (h : match_Match.f a0_0 l0_1 a1_0 l1_1 = some (r1, r2, r3)) :
    Calls Try.prog 46 #[.agg #[.int .i64 a0_0, .slice A0_1 l0_1.length c0_1], .agg #[.int .i64 a1_0, .slice A1_1 l1_1.length c1_1]] w fun e w' => ∃ v0_ : Value, e = .returned (.tuple #[v0_, .bool r2, .int .i64 r3]) ∧ Kd.V kB 60 w' w.heap.size (fun k_ => ((P0_1_ k_ ∨ P1_1_ k_) ∨ w.heap.size ≤ k_)) v0_ r1 ∧ Below w.heap.size w w' := by
  unfold match_Match.f at h
  split at h
  · rename_i hs
    simp only [Option.some.injEq, Prod.mk.injEq] at h
    obtain ⟨rfl, rfl, rfl⟩ := h
    refine (match_calls (fun b => b < w.heap.size ∧ ¬ (P0_1_ b ∨ P1_1_ b)) _ _ _ _ _ _ w hs.1 hs.2 (barOld _) ((isTm_of_v hs0_1).bar2 fun b h hp => h.2 (.inl hp)) ((isTm_of_v hs1_1).bar2 fun b h hp => h.2 (.inr hp))).mono ?_
    rintro e w' ⟨v, rfl, h1, h2⟩
    exact ⟨v, rfl, vb_of h1 (fun b _ hb => share_ok (w := w) (P := fun b => P0_1_ b ∨ P1_1_ b) b hb), h2⟩
  · cases h
end PA
end Go.Proofs.Ythplndalbfcbbaa
/- elenchusref05.All, and both Alls in the printed functions' form. -/
set_option linter.unusedSimpArgs false
set_option linter.unusedVariables false
namespace Go.Proofs.Ythplndalbfcbbaa
open Go.RowKit Go.Proofs.YthplndalbfcbbaaW.PrintWords

set_option maxHeartbeats 8000000 in
set_option maxRecDepth 100000 in
theorem all5_calls (A : Nat → Prop) (ps ts : List Tm) (s1 s2 : Value) (w : World) (hA : ∀ b, A b → b < w.heap.size) (hp9 : Tm.sizes ps ≤ 1000000000) (ht9 : Tm.sizes ts ≤ 1000000000) (hs : Terms A w s1 ps) (ht : Terms A w s2 ts) :
    Calls Try.prog 43 #[s1, s2] w fun e w' => ∃ v, e = .returned (.tuple #[v, .bool (matchT ps ts).2.1, .int .i64 (matchT ps ts).2.2]) ∧ Binds A w' v (matchT ps ts).1 ∧ Below w.heap.size w w' := by
  obtain ⟨a1, d1, rfl, hd1, hd1'⟩ := hs.shape
  obtain ⟨a2, d2, rfl, hd2, hd2'⟩ := ht.shape
  have NILB := hide (fun W => (by simp only [Binds, RepD, List.map_nil]; exact ⟨none, 0, 0, rfl, rfl, by omega, by omega, by simp⟩ : Binds A W (.slice none 0 0) []))
  have HAO := hide hA
  have HPS := hide (fun t (h : t ∈ ps) => (by obtain ⟨i, hi, rfl⟩ := List.getElem_of_mem h; exact Nat.le_trans (Tm.size_get ps i hi) hp9 : t.size ≤ 1000000000))
  have HTS := hide (fun t (h : t ∈ ts) => (by obtain ⟨i, hi, rfl⟩ := List.getElem_of_mem h; exact Nat.le_trans (Tm.size_get ts i hi) ht9 : t.size ≤ 1000000000))
  have HDOC := hide (matchT_doc ps ts)
  go_enter Try.func43, Try.ntmps43
  go_wp2_with fail
  refine (all1_calls ps A _ _ HPS.out hs).mono ?_
  rintro e w1 ⟨rfl, B1⟩
  cases hpr : ps.all rightB
  · have HM := hide (show matchT ps ts = ([], false, 1) by rw [HDOC.out, if_neg (fun h => by rw [hpr] at h; exact absurd h.1 (by simp))])
    have HPR := hide hpr
    clear hpr
    go_wp2
    exact bodyPost_ret (v := .tuple #[.slice none 0 0, .bool false, .int .i64 1]) (by simp [results, Try.results43, go_sem]) rfl ⟨_, by rw [HM.out], by rw [HM.out]; exact NILB.out _, B1⟩
  have HPR := hide hpr
  clear hpr
  go_wp2_with fail
  refine (all1_calls ts A _ _ HTS.out (ht.below B1)).mono ?_
  rintro e w2 ⟨rfl, h2⟩
  have B2 := more_below B1 h2
  clear h2 B1
  cases htr : ts.all rightB
  · have HM := hide (show matchT ps ts = ([], false, 1) by rw [HDOC.out, if_neg (fun h => by rw [htr] at h; exact absurd h.2.1 (by simp))])
    have HTR := hide htr
    clear htr
    go_wp2
    exact bodyPost_ret (v := .tuple #[.slice none 0 0, .bool false, .int .i64 1]) (by simp [results, Try.results43, go_sem]) rfl ⟨_, by rw [HM.out], by rw [HM.out]; exact NILB.out _, B2⟩
  have HTR := hide htr
  clear htr
  by_cases hlen : ps.length = ts.length
  rotate_left
  · have HM := hide (show matchT ps ts = ([], false, 1) by rw [HDOC.out, if_neg (fun h => hlen h.2.2)])
    have hd : ((ps.length : Int) != ts.length) = true := by simp; omega
    clear hlen
    go_wp2
    exact bodyPost_ret (v := .tuple #[.slice none 0 0, .bool false, .int .i64 1]) (by simp [results, Try.results43, go_sem]) rfl ⟨_, by rw [HM.out], by rw [HM.out]; exact NILB.out _, B2⟩
  have hd : ((ps.length : Int) != ts.length) = false := by simp; omega
  have HM := hide (show matchT ps ts = (match gathL ps ts [] with
    | some s => (tidyL s (upto 256), true, 0)
    | none => ([], false, 0)) by rw [HDOC.out, if_pos ⟨HPR.out, HTR.out, hlen⟩]; rfl)
  have HLN := hide hlen
  clear hlen HDOC
  have hsz2 := B2.size
  go_wp2_with fail
  refine (gather5_calls A ps ts _ _ w2 (fun b h => Nat.lt_of_lt_of_le (HAO.out b h) hsz2) HLN.out hp9 ht9 (goods_of_right HPR.out) (hs.below B2) (ht.below B2)).mono ?_
  rintro e w3 ⟨h3, v3, ok, rfl, hres⟩
  have B3 := more_below B2 h3
  have hsz3 := B3.size
  clear h3 B2 hsz2
  cases ok
  · have HM2 := hide (show matchT ps ts = ([], false, 0) by
      rcases hres with ⟨h, -⟩ | ⟨-, h⟩
      · cases h
      · rw [HM.out, h])
    clear hres HM
    go_wp2
    exact bodyPost_ret (v := .tuple #[.slice none 0 0, .bool false, .int .i64 0]) (by simp [results, Try.results43, go_sem]) rfl ⟨_, by rw [HM2.out], by rw [HM2.out]; exact NILB.out _, B3⟩
  obtain ⟨g, hg, hb⟩ : ∃ g, gathL ps ts [] = some g ∧ Binds A w3 v3 g := by
    rcases hres with ⟨-, g, h1, h2, -⟩ | ⟨h, -⟩
    · exact ⟨g, h1, h2⟩
    · cases h
  have HM2 := hide (show matchT ps ts = (tidyL g (upto 256), true, 0) by rw [HM.out, hg])
  obtain ⟨a3, c3, rfl, -, -⟩ := hb.shape
  clear hres HM hg
  go_wp2_with fail
  refine (tidy5_calls A g _ w3 (fun b h => Nat.lt_of_lt_of_le (HAO.out b h) hsz3) hb).mono ?_
  rintro e w4 ⟨v4, rfl, hb4, h4⟩
  have B4 := more_below B3 h4
  obtain ⟨a4, c4, rfl, -, -⟩ := hb4.shape
  clear h4
  go_wp2
  exact bodyPost_ret (v := .tuple #[.slice a4 (tidyL g (upto 256)).length c4, .bool true, .int .i64 0]) (by simp [results, Try.results43, go_sem]) rfl ⟨_, by rw [HM2.out], by rw [HM2.out]; exact hb4, B4⟩
namespace PA
def elenchusref05_All.f (l0 : List TS) (l1 : List TS) : Option ((List BS) × Bool × Int) := match_All.f l0 l1
theorem elenchusref05_All.calls (P0_ : Nat → Prop) (A0 : Option Addr) (c0 : Nat) (l0 : List TS) (P1_ : Nat → Prop) (A1 : Option Addr) (c1 : Nat) (l1 : List TS) (r1 : List BS) (r2 : Bool) (r3 : Int) (w : World)
    (hs0 : Kd.V kT 25 w w.heap.size (fun k_ => P0_ k_) (.slice A0 l0.length c0) l0) (hs1 : Kd.V kT 25 w w.heap.size (fun k_ => P1_ k_) (.slice A1 l1.length c1) l1) (h : elenchusref05_All.f l0 l1 = some (r1, r2, r3)) :
    Calls Try.prog 43 #[.slice A0 l0.length c0, .slice A1 l1.length c1] w fun e w' => ∃ v0_ : Value, e = .returned (.tuple #[v0_, .bool r2, .int .i64 r3]) ∧ Kd.V kB 60 w' w.heap.size (fun k_ => ((P0_ k_ ∨ P1_ k_) ∨ w.heap.size ≤ k_)) v0_ r1 ∧ Below w.heap.size w w' := by
  unfold elenchusref05_All.f match_All.f at h
  split at h
  · rename_i hs
    simp only [Option.some.injEq, Prod.mk.injEq] at h
    obtain ⟨rfl, rfl, rfl⟩ := h
    refine (all5_calls (fun b => b < w.heap.size ∧ ¬ (P0_ b ∨ P1_ b)) _ _ _ _ w (barOld _) hs.1 hs.2 ((terms_of_v hs0).bar2 fun b h hp => h.2 (.inl hp)) ((terms_of_v hs1).bar2 fun b h hp => h.2 (.inr hp))).mono ?_
    rintro e w' ⟨v, rfl, h1, h2⟩
    exact ⟨v, rfl, vb_of h1 (fun b _ hb => share_ok (w := w) (P := fun b => P0_ b ∨ P1_ b) b hb), h2⟩
  · cases h
end PA
end Go.Proofs.Ythplndalbfcbbaa
/- The document's example of layer 5, in the printed functions' form. -/
set_option linter.unusedVariables false
namespace Go.Proofs.Ythplndalbfcbbaa.PA
open Go.RowKit Go.Proofs.YthplndalbfcbbaaW.PrintWords
def elenchuslaw05_awake.f : Option (Bool) := some true
theorem elenchuslaw05_awake.calls (r : Bool) (w : World) (h : elenchuslaw05_awake.f = some r) :
    Calls Try.prog 44 #[] w fun e w' => e = .returned (.bool r) ∧ Below w.heap.size w w' := by
  cases h
  exact awake5_calls w
end Go.Proofs.Ythplndalbfcbbaa.PA
/- The references' small functions, in the printed functions' form. -/
set_option linter.unusedSimpArgs false
set_option linter.unusedVariables false
namespace Go.Proofs.Ythplndalbfcbbaa
open Go.RowKit Go.Proofs.YthplndalbfcbbaaW.PrintWords

def eqB (b c : Bd) : Bool := b.v == c.v && sameB b.t c.t
def eqBL : List Bd → List Bd → Bool
  | [], [] => true
  | b :: bs, c :: cs => eqB b c && eqBL bs cs
  | _, _ => false
theorem eqBL_iff : ∀ {a b : List Bd}, eqBL a b = true ↔ a = b
  | [], [] => by simp [eqBL]
  | [], _ :: _ => by simp [eqBL]
  | _ :: _, [] => by simp [eqBL]
  | b :: bs, c :: cs => by
    cases b; cases c
    simp [eqBL, eqB, Bool.and_eq_true, eqBL_iff (a := bs), sameB_iff]
namespace PA
def elenchusref01_Few.f (a0 : Int) (l0 : List TS) : Option Bool := some (fewB (ofS ⟨a0, l0⟩))
theorem elenchusref01_Few.calls (a0 : Int) (A0 : Option Addr) (c0 : Nat) (l0 : List TS) (r : Bool) (w : World) (hr0 : Kd.C kT w A0 l0.length l0) (hc0 : l0.length ≤ c0) (h : elenchusref01_Few.f a0 l0 = some r) :
    Calls Try.prog 26 #[.agg #[.int .i64 a0, .slice A0 l0.length c0]] w fun e w' => e = .returned (.bool r) ∧ Below w.heap.size w w' := by
  cases h
  exact few1_calls _ _ _ _ w (isTm_of_c hc0 hr0)
def elenchusref05_Few.f (l0 : List TS) : Option Bool := some (fewS (ofSL l0))
theorem elenchusref05_Few.calls (A0 : Option Addr) (c0 : Nat) (l0 : List TS) (r : Bool) (w : World) (hr0 : Kd.C kT w A0 l0.length l0) (hc0 : l0.length ≤ c0) (h : elenchusref05_Few.f l0 = some r) :
    Calls Try.prog 41 #[.slice A0 l0.length c0] w fun e w' => e = .returned (.bool r) ∧ Below w.heap.size w w' := by
  cases h
  exact few5_calls _ _ _ w (terms_of_c hc0 hr0)
def elenchusref03_Few.f (l0 : List BS) : Option Bool := some (fewBs (ofBL l0))
theorem elenchusref03_Few.calls (A0 : Option Addr) (c0 : Nat) (l0 : List BS) (r : Bool) (w : World) (hr0 : Kd.C kB w A0 l0.length l0) (hc0 : l0.length ≤ c0) (h : elenchusref03_Few.f l0 = some r) :
    Calls Try.prog 25 #[.slice A0 l0.length c0] w fun e w' => e = .returned (.bool r) ∧ Below w.heap.size w w' := by
  cases h
  exact few3_calls _ _ _ w (binds_of_c hc0 hr0)
def elenchusref01_Same.f (a0 : Int) (l0 : List TS) (a1 : Int) (l1 : List TS) : Option Bool := if (ofS ⟨a0, l0⟩).size ≤ 1000000000 ∧ (ofS ⟨a1, l1⟩).size ≤ 1000000000 then some (sameB (ofS ⟨a0, l0⟩) (ofS ⟨a1, l1⟩)) else none
theorem elenchusref01_Same.calls (a0 : Int) (A0 : Option Addr) (c0 : Nat) (l0 : List TS) (a1 : Int) (A1 : Option Addr) (c1 : Nat) (l1 : List TS) (r : Bool) (w : World) (hr0 : Kd.C kT w A0 l0.length l0) (hc0 : l0.length ≤ c0) (hr1 : Kd.C kT w A1 l1.length l1) (hc1 : l1.length ≤ c1) (h : elenchusref01_Same.f a0 l0 a1 l1 = some r) :
    Calls Try.prog 34 #[.agg #[.int .i64 a0, .slice A0 l0.length c0], .agg #[.int .i64 a1, .slice A1 l1.length c1]] w fun e w' => e = .returned (.bool r) ∧ Below w.heap.size w w' := by
  unfold elenchusref01_Same.f at h
  split at h
  · rename_i hs
    cases h
    exact same_calls _ _ _ _ _ _ _ _ w hs.1 hs.2 (isTm_of_c hc0 hr0) (isTm_of_c hc1 hr1)
  · cases h
/-- Of two rows that are the same. -/
def elenchusref03_Same.f (l0 : List BS) (l1 : List BS) : Option Bool := if eqBL (ofBL l0) (ofBL l1) = true ∧ (ofBL l0).all (fun b => decide (b.t.size ≤ 1000000000)) = true then some true else none
theorem elenchusref03_Same.calls (A0 : Option Addr) (c0 : Nat) (l0 : List BS) (A1 : Option Addr) (c1 : Nat) (l1 : List BS) (r : Bool) (w : World) (hr0 : Kd.C kB w A0 l0.length l0) (hc0 : l0.length ≤ c0) (hr1 : Kd.C kB w A1 l1.length l1) (hc1 : l1.length ≤ c1) (h : elenchusref03_Same.f l0 l1 = some r) :
    Calls Try.prog 45 #[.slice A0 l0.length c0, .slice A1 l1.length c1] w fun e w' => e = .returned (.bool r) ∧ Below w.heap.size w w' := by
  unfold elenchusref03_Same.f at h
  split at h
  · rename_i hs
    cases h
    have h1 := binds_of_c hc1 hr1
    rw [← eqBL_iff.1 hs.1] at h1
    exact same3_calls _ _ _ _ _ w (fun b hb => by have := List.all_eq_true.1 hs.2 b hb; simpa using this) (binds_of_c hc0 hr0) h1
  · cases h
def elenchusref01_In.f (a0 : Int) (l0 : List Int) : Option Bool := some (hasB a0 l0)
theorem elenchusref01_In.calls (a0 : Int) (A1 : Option Addr) (c1 : Nat) (l1 : List Int) (r : Bool) (w : World) (hr1 : Kd.C (Kd.int .i64) w A1 l1.length l1) (hc1 : l1.length ≤ c1) (h : elenchusref01_In.f a0 l1 = some r) :
    Calls Try.prog 40 #[.int .i64 a0, .slice A1 l1.length c1] w fun e w' => e = .returned (.bool r) ∧ Below w.heap.size w w' := by
  cases h
  exact in_calls _ _ _ _ w (ints_of_c hc1 hr1)
end PA
end Go.Proofs.Ythplndalbfcbbaa
/- Functions' machine side, turned out by program. -/
namespace Go.Proofs.Ythplndalbfcbbaa.PA
open Go.RowKit Go.Proofs.YthplndalbfcbbaaW.PrintWords Go.Proofs.YthplndalbfcbbaaW.PrintLast Go.Proofs.YthplndalbfcbbaaW.PrintMore
attribute [local go_sem] max2_int min2_int max_two min_two max_three min_three max_four min_four   -- for this text's walks alone
set_option linter.unusedVariables false
set_option linter.unusedSimpArgs false

/-! ### elenchuslaw05_MatchMakes: function 5 -/
def elenchuslaw05_MatchMakes.j0 : Nat → List (S25) → List (S25) → Bool → Option (Bool)
  | 0, _, _, _ => none
  | k + 1, x0, x1, x18 => if x18 = true then (some true) else ((match_All.f x0 x1).bind fun bt103 => ((elenchusref05_All.f x0 x1).bind fun bt108 => ((elenchuslaw05_awake.f).bind fun t113 => (if t113 = true then ((elenchusref03_Same.f bt103.1 bt108.1).bind fun t114 => (if t114 = true then (if (bt103.2.1 == bt108.2.1) = true then (some (bt103.2.2 == bt108.2.2)) else (some false)) else (some false))) else (some false)))))
def elenchuslaw05_MatchMakes.f (k : Nat) (l0 : List (S25)) (l1 : List (S25)) : Option (Bool) := (elenchusref05_Few.f l0).bind fun t101 => (if t101 = true then ((elenchusref05_Few.f l1).bind fun t102 => (elenchuslaw05_MatchMakes.j0 k l0 l1 (!t102))) else (elenchuslaw05_MatchMakes.j0 k l0 l1 true))
theorem elenchuslaw05_MatchMakes.mono_l : ∀ k, (∀ y0 y1 y2, LeO (elenchuslaw05_MatchMakes.j0 k y0 y1 y2) (elenchuslaw05_MatchMakes.j0 (k + 1) y0 y1 y2))
  | 0 => fun _ _ _ r h => by simp [elenchuslaw05_MatchMakes.j0] at h
  | k + 1 => by
    have ih0 := elenchuslaw05_MatchMakes.mono_l k
    · intro y0 y1 y2
      unfold elenchuslaw05_MatchMakes.j0
      repeat' first
      | (with_reducible exact ih0 _ _ _)
      | (with_reducible exact LeO.refl _)
      | (with_reducible exact LeO.none _)
      | (with_reducible refine LeO.ite ?_ ?_)
      | (with_reducible refine LeO.bind ?_ (fun _ => ?_))
      | exact ih0 _ _ _
      | exact LeO.none _
      | refine LeO.ite ?_ ?_
      | refine LeO.bind ?_ (fun _ => ?_)
theorem elenchuslaw05_MatchMakes.mono : ∀ a0 a1 k, LeO (elenchuslaw05_MatchMakes.f k a0 a1) (elenchuslaw05_MatchMakes.f (k + 1) a0 a1) := by
  intro a0 a1 k
  have ih0 := elenchuslaw05_MatchMakes.mono_l k
  unfold elenchuslaw05_MatchMakes.f
  repeat' first
      | (with_reducible exact ih0 _ _ _)
      | (with_reducible exact LeO.refl _)
      | (with_reducible exact LeO.none _)
      | (with_reducible refine LeO.ite ?_ ?_)
      | (with_reducible refine LeO.bind ?_ (fun _ => ?_))
      | exact ih0 _ _ _
      | exact LeO.none _
      | refine LeO.ite ?_ ?_
      | refine LeO.bind ?_ (fun _ => ?_)
set_option maxHeartbeats 8000000 in
set_option maxRecDepth 100000 in
theorem elenchuslaw05_MatchMakes.calls (k : Nat) (A0 : Option Addr) (c0 : Nat) (l0 : List (S25)) (A1 : Option Addr) (c1 : Nat) (l1 : List (S25)) (r : Bool) (w : World) (hr0 : Kd.C k25 w A0 l0.length l0) (hc0 : l0.length ≤ c0) (hr1 : Kd.C k25 w A1 l1.length l1) (hc1 : l1.length ≤ c1) (h : elenchuslaw05_MatchMakes.f k l0 l1 = some r) :
    Calls Try.prog 5 #[.slice A0 l0.length c0, .slice A1 l1.length c1] w fun e w' => e = .returned (.bool r) ∧ Below w.heap.size w w' := by
  have HR0 := Aside0.mk hr0
  have HC0 := Aside0.mk hc0
  clear hr0 hc0
  have HR1 := Aside0.mk hr1
  have HC1 := Aside0.mk hc1
  clear hr1 hc1
  have HB := Aside0.mk (Below.refl w.heap.size w)
  have H : ((elenchusref05_Few.f l0).bind fun t101 => (if t101 = true then ((elenchusref05_Few.f l1).bind fun t102 => (elenchuslaw05_MatchMakes.j0 k l0 l1 (!t102))) else (elenchuslaw05_MatchMakes.j0 k l0 l1 true))) = some r := h
  clear h
  have HC3 := Aside0.mk H
  clear H
  go_enter Try.func5, Try.ntmps5
  go_upto_region 1 with (fail)
  go_cut [18] (fun v18 wc => ∃ (kq : Nat) (x18_2 : Bool), v18 = .bool x18_2 ∧ Aside0 (elenchuslaw05_MatchMakes.j0 kq l0 l1 x18_2 = some r) ∧ Aside0 (kq ≤ k) ∧ Aside0 (Below w.heap.size w wc))
  case first =>
    have H := HC3.out
    clear HC3
    replace H := Option.bind_eq_some_iff.mp H
    obtain ⟨t101, A40, H⟩ := H
    replace H : (if t101 = true then ((elenchusref05_Few.f l1).bind fun t102 => (elenchuslaw05_MatchMakes.j0 k l0 l1 (!t102))) else (elenchuslaw05_MatchMakes.j0 k l0 l1 true)) = some r := H
    have A4 := Aside0.mk A40
    clear A40
    by_cases c5 : t101 = true
    · subst c5
      have H1 : ((elenchusref05_Few.f l1).bind fun t102 => (elenchuslaw05_MatchMakes.j0 k l0 l1 (!t102))) = some r := by rw [if_pos rfl] at H; exact H
      clear H
      have H := H1
      clear H1
      replace H := Option.bind_eq_some_iff.mp H
      obtain ⟨t102, A60, H⟩ := H
      replace H : (elenchuslaw05_MatchMakes.j0 k l0 l1 (!t102)) = some r := H
      have A6 := Aside0.mk A60
      clear A60
      have H' := Aside0.mk H
      clear H
      go_wp2_with (first | ((with_reducible refine gate_callee (f := 41) rfl ?_); refine goesL_ (some 12) rfl rfl Try.func41 (by kernel_rfl) rfl #[.slice A0 l0.length c0] rfl (by (try simp only [List.map_toArray, List.map_cons, List.map_nil]); first | done | rfl | (simp only [List.length_drop, List.length_take]; rfl)) ?_; (with_reducible refine (elenchusref05_Few.calls _ _ l0 true _ ?side1 ?side2 A4.out).mono ?_); (case side1 => repeat (first | exact (Kd.C_below HR0.out HB.out) | (with_reducible refine Kd.C_alloc ?_ _) | (with_reducible refine Kd.C_drewN ?_ _) | (with_reducible refine Kd.C_drew ?_))); (case side2 => exact HC0.out); rintro e w7 ⟨rfl, hb⟩; refine ⟨_, rfl, ?_⟩; have n0_ := Aside0.mk (below_step (by repeat (first | (with_reducible first | exact HB.out | apply below_alloc | apply pw_below_drewN | apply below_drew1) | exact HB.out)) hb); clear HB; have HB := n0_; clear n0_; (try clear hb); (try clear hb2); (try clear hk); (try clear hi)) | (go_at_call 41; (with_reducible refine (elenchusref05_Few.calls _ _ l1 t102 _ ?side1 ?side2 A6.out).mono ?_); (case side1 => repeat (first | exact (Kd.C_below HR1.out HB.out) | (with_reducible refine Kd.C_alloc ?_ _) | (with_reducible refine Kd.C_drewN ?_ _) | (with_reducible refine Kd.C_drew ?_))); (case side2 => exact HC1.out); rintro e w8 ⟨rfl, hb⟩; have n0_ := Aside0.mk (below_step (by repeat (first | (with_reducible first | exact HB.out | apply below_alloc | apply pw_below_drewN | apply below_drew1) | exact HB.out)) hb); clear HB; have HB := n0_; clear n0_; (try clear hb); (try clear hb2); (try clear hk); (try clear hi)))
      go_meet
      case rel => exact ⟨_, (!t102), (by first | rfl | (simp; done) | (simp [*]; done)), H', ⟨by first | omega | exact Nat.le_refl _⟩, ⟨by repeat (first | (with_reducible first | exact HB.out | apply below_alloc | apply pw_below_drewN | apply below_drew1) | exact HB.out)⟩⟩
    · replace c5 := Bool.eq_false_iff.mpr c5
      subst c5
      have H1 : (elenchuslaw05_MatchMakes.j0 k l0 l1 true) = some r := by rw [if_neg (show ¬ (false = true) by decide)] at H; exact H
      clear H
      have H := H1
      clear H1
      have H' := Aside0.mk H
      clear H
      go_wp2_with (first | ((with_reducible refine gate_callee (f := 41) rfl ?_); refine goesL_ (some 12) rfl rfl Try.func41 (by kernel_rfl) rfl #[.slice A0 l0.length c0] rfl (by (try simp only [List.map_toArray, List.map_cons, List.map_nil]); first | done | rfl | (simp only [List.length_drop, List.length_take]; rfl)) ?_; (with_reducible refine (elenchusref05_Few.calls _ _ l0 false _ ?side1 ?side2 A4.out).mono ?_); (case side1 => repeat (first | exact (Kd.C_below HR0.out HB.out) | (with_reducible refine Kd.C_alloc ?_ _) | (with_reducible refine Kd.C_drewN ?_ _) | (with_reducible refine Kd.C_drew ?_))); (case side2 => exact HC0.out); rintro e w9 ⟨rfl, hb⟩; refine ⟨_, rfl, ?_⟩; have n0_ := Aside0.mk (below_step (by repeat (first | (with_reducible first | exact HB.out | apply below_alloc | apply pw_below_drewN | apply below_drew1) | exact HB.out)) hb); clear HB; have HB := n0_; clear n0_; (try clear hb); (try clear hb2); (try clear hk); (try clear hi)))
      go_meet
      case rel => exact ⟨_, (true), (by first | rfl | (simp; done) | (simp [*]; done)), H', ⟨by first | omega | exact Nat.le_refl _⟩, ⟨by repeat (first | (with_reducible first | exact HB.out | apply below_alloc | apply pw_below_drewN | apply below_drew1) | exact HB.out)⟩⟩
  case rest =>
    clear HC3
    try clear c1
    try clear p2
    try clear c4
    try clear c5
    obtain ⟨kq, x18_2, rfl, HA, HJ2, HB⟩ := hcut
    cases kq with
    | zero => exact absurd HA.out (by simp [elenchuslaw05_MatchMakes.j0])
    | succ kj2 =>
      have H := HA.out
      clear HA
      simp only [elenchuslaw05_MatchMakes.j0] at H
      by_cases c10 : x18_2 = true
      · subst c10
        have H1 : (some true) = some r := by rw [if_pos rfl] at H; exact H
        clear H
        have H := H1
        clear H1
        obtain rfl := Option.some.inj H
        go_wp2
        go_ret
        exact ⟨by first | rfl | (simp [errW_none, errW_some] <;> rfl) | (simp [*, errW_none, errW_some] <;> rfl), by repeat (first | (with_reducible first | exact HB.out | apply below_alloc | apply pw_below_drewN | apply below_drew1) | exact HB.out)⟩
      · replace c10 := Bool.eq_false_iff.mpr c10
        subst c10
        have H1 : ((match_All.f l0 l1).bind fun bt103 => ((elenchusref05_All.f l0 l1).bind fun bt108 => ((elenchuslaw05_awake.f).bind fun t113 => (if t113 = true then ((elenchusref03_Same.f bt103.1 bt108.1).bind fun t114 => (if t114 = true then (if (bt103.2.1 == bt108.2.1) = true then (some (bt103.2.2 == bt108.2.2)) else (some false)) else (some false))) else (some false))))) = some r := by rw [if_neg (show ¬ (false = true) by decide)] at H; exact H
        clear H
        have H := H1
        clear H1
        replace H := Option.bind_eq_some_iff.mp H
        obtain ⟨⟨t103, t106, t107⟩, A110, H⟩ := H
        replace H : ((elenchusref05_All.f l0 l1).bind fun bt108 => ((elenchuslaw05_awake.f).bind fun t113 => (if t113 = true then ((elenchusref03_Same.f t103 bt108.1).bind fun t114 => (if t114 = true then (if (t106 == bt108.2.1) = true then (some (t107 == bt108.2.2)) else (some false)) else (some false))) else (some false)))) = some r := H
        have A11 := Aside0.mk A110
        clear A110
        replace H := Option.bind_eq_some_iff.mp H
        obtain ⟨⟨t108, t111, t112⟩, A120, H⟩ := H
        replace H : ((elenchuslaw05_awake.f).bind fun t113 => (if t113 = true then ((elenchusref03_Same.f t103 t108).bind fun t114 => (if t114 = true then (if (t106 == t111) = true then (some (t107 == t112)) else (some false)) else (some false))) else (some false))) = some r := H
        have A12 := Aside0.mk A120
        clear A120
        replace H := Option.bind_eq_some_iff.mp H
        obtain ⟨t113, A130, H⟩ := H
        replace H : (if t113 = true then ((elenchusref03_Same.f t103 t108).bind fun t114 => (if t114 = true then (if (t106 == t111) = true then (some (t107 == t112)) else (some false)) else (some false))) else (some false)) = some r := H
        have A13 := Aside0.mk A130
        clear A130
        by_cases c14 : t113 = true
        · subst c14
          have H1 : ((elenchusref03_Same.f t103 t108).bind fun t114 => (if t114 = true then (if (t106 == t111) = true then (some (t107 == t112)) else (some false)) else (some false))) = some r := by rw [if_pos rfl] at H; exact H
          clear H
          have H := H1
          clear H1
          replace H := Option.bind_eq_some_iff.mp H
          obtain ⟨t114, A150, H⟩ := H
          replace H : (if t114 = true then (if (t106 == t111) = true then (some (t107 == t112)) else (some false)) else (some false)) = some r := H
          have A15 := Aside0.mk A150
          clear A150
          by_cases c16 : t114 = true
          · subst c16
            have H1 : (if (t106 == t111) = true then (some (t107 == t112)) else (some false)) = some r := by rw [if_pos rfl] at H; exact H
            clear H
            have H := H1
            clear H1
            by_cases c17 : (t106 == t111) = true
            · rw [if_pos c17] at H
              have c17b0 : (t106 == t111) = true := c17
              (try (have c17b1 : decide (t106 = t111) = true := by simpa using c17))
              (try (have c17b2 : (t106 == t111) = true := by simpa using c17))
              clear c17
              obtain rfl := Option.some.inj H
              go_wp2_with (first | ((with_reducible refine gate_callee (f := 42) rfl ?_); refine goesL_ (some 22) rfl rfl Try.func42 (by kernel_rfl) rfl #[.slice A0 l0.length c0, .slice A1 l1.length c1] rfl (by (try simp only [List.map_toArray, List.map_cons, List.map_nil]); first | done | rfl | (simp only [List.length_drop, List.length_take]; rfl)) ?_; (with_reducible refine (match_All.calls (fun k_ => k_ < w.heap.size) _ _ l0 (fun k_ => k_ < w.heap.size) _ _ l1 t103 t106 t107 _ ?side1 ?side2 A11.out).mono ?_); (case side1 => exact Kd.V_mk HC0.out (Kd.F_below (Kd.C_F k25_heap HR0.out) (by repeat (first | (with_reducible first | exact HB.out | apply below_alloc | apply pw_below_drewN | apply below_drew1) | exact HB.out)))); (case side2 => exact Kd.V_mk HC1.out (Kd.F_below (Kd.C_F k25_heap HR1.out) (by repeat (first | (with_reducible first | exact HB.out | apply below_alloc | apply pw_below_drewN | apply below_drew1) | exact HB.out)))); rintro e w18 ⟨v104, rfl, ho0, hb⟩; refine ⟨_, rfl, ?_⟩; have n0_ := Aside0.mk (Kd.V_lower (Kd.V_mono (ok' := fun k_ => True) ho0 (fun k_ hk_ => trivial)) (below_size (by repeat (first | (with_reducible first | exact HB.out | apply below_alloc | apply pw_below_drewN | apply below_drew1) | exact HB.out)))); have n1_ := Aside0.mk (below_step (by repeat (first | (with_reducible first | exact HB.out | apply below_alloc | apply pw_below_drewN | apply below_drew1) | exact HB.out)) hb); clear HB; have HO105 := n0_; have HB := n1_; clear n0_ n1_; (try clear hb); (try clear hb2); (try clear hk); (try clear hi); (try clear ho0)) | ((with_reducible refine gate_callee (f := 43) rfl ?_); refine goesL_ (some 29) rfl rfl Try.func43 (by kernel_rfl) rfl #[.slice A0 l0.length c0, .slice A1 l1.length c1] rfl (by (try simp only [List.map_toArray, List.map_cons, List.map_nil]); first | done | rfl | (simp only [List.length_drop, List.length_take]; rfl)) ?_; (with_reducible refine (elenchusref05_All.calls (fun k_ => k_ < w.heap.size) _ _ l0 (fun k_ => k_ < w.heap.size) _ _ l1 t108 t111 t112 _ ?side1 ?side2 A12.out).mono ?_); (case side1 => exact Kd.V_mk HC0.out (Kd.F_below (Kd.C_F k25_heap HR0.out) (by repeat (first | (with_reducible first | exact HB.out | apply below_alloc | apply pw_below_drewN | apply below_drew1) | exact HB.out)))); (case side2 => exact Kd.V_mk HC1.out (Kd.F_below (Kd.C_F k25_heap HR1.out) (by repeat (first | (with_reducible first | exact HB.out | apply below_alloc | apply pw_below_drewN | apply below_drew1) | exact HB.out)))); rintro e w19 ⟨v109, rfl, ho0, hb⟩; refine ⟨_, rfl, ?_⟩; have n0_ := Aside0.mk (Kd.V_below (by (with_reducible repeat (first | apply Kd.V_alloc | apply Kd.V_drewN | apply Kd.V_drew)); exact HO105.out) hb); have n1_ := Aside0.mk (Kd.V_lower (Kd.V_mono (ok' := fun k_ => True) ho0 (fun k_ hk_ => trivial)) (below_size (by repeat (first | (with_reducible first | exact HB.out | apply below_alloc | apply pw_below_drewN | apply below_drew1) | exact HB.out)))); have n2_ := Aside0.mk (below_step (by repeat (first | (with_reducible first | exact HB.out | apply below_alloc | apply pw_below_drewN | apply below_drew1) | exact HB.out)) hb); clear HO105; clear HB; have HO105 := n0_; have HO110 := n1_; have HB := n2_; clear n0_ n1_ n2_; (try clear hb); (try clear hb2); (try clear hk); (try clear hi); (try clear ho0)) | ((with_reducible refine gate_callee (f := 44) rfl ?_); refine goesL_ (some 33) rfl rfl Try.func44 (by kernel_rfl) rfl #[] rfl (by (try simp only [List.map_toArray, List.map_cons, List.map_nil]); first | done | rfl | (simp only [List.length_drop, List.length_take]; rfl)) ?_; (with_reducible refine (elenchuslaw05_awake.calls  true _ A13.out).mono ?_); rintro e w20 ⟨rfl, hb⟩; refine ⟨_, rfl, ?_⟩; have n0_ := Aside0.mk (Kd.V_below (by (with_reducible repeat (first | apply Kd.V_alloc | apply Kd.V_drewN | apply Kd.V_drew)); exact HO105.out) hb); have n1_ := Aside0.mk (Kd.V_below (by (with_reducible repeat (first | apply Kd.V_alloc | apply Kd.V_drewN | apply Kd.V_drew)); exact HO110.out) hb); have n2_ := Aside0.mk (below_step (by repeat (first | (with_reducible first | exact HB.out | apply below_alloc | apply pw_below_drewN | apply below_drew1) | exact HB.out)) hb); clear HO105; clear HO110; clear HB; have HO105 := n0_; have HO110 := n1_; have HB := n2_; clear n0_ n1_ n2_; (try clear hb); (try clear hb2); (try clear hk); (try clear hi); obtain ⟨Ao21, co21, eo21⟩ := Kd.V_slice HO105.out; subst eo21; obtain ⟨Ao22, co22, eo22⟩ := Kd.V_slice HO110.out; subst eo22) | (go_at_call 45; (with_reducible refine (elenchusref03_Same.calls _ _ t103 _ _ t108 true _ ?side1 ?side2 ?side3 ?side4 A15.out).mono ?_); (case side1 => repeat (first | exact (Kd.V_reads' HO105.out).2.2 | (with_reducible refine Kd.C_alloc ?_ _) | (with_reducible refine Kd.C_drewN ?_ _) | (with_reducible refine Kd.C_drew ?_))); (case side2 => exact (Kd.V_reads' HO105.out).2.1); (case side3 => repeat (first | exact (Kd.V_reads' HO110.out).2.2 | (with_reducible refine Kd.C_alloc ?_ _) | (with_reducible refine Kd.C_drewN ?_ _) | (with_reducible refine Kd.C_drew ?_))); (case side4 => exact (Kd.V_reads' HO110.out).2.1); rintro e w23 ⟨rfl, hb⟩; have n0_ := Aside0.mk (Kd.V_below (by (with_reducible repeat (first | apply Kd.V_alloc | apply Kd.V_drewN | apply Kd.V_drew)); exact HO105.out) hb); have n1_ := Aside0.mk (Kd.V_below (by (with_reducible repeat (first | apply Kd.V_alloc | apply Kd.V_drewN | apply Kd.V_drew)); exact HO110.out) hb); have n2_ := Aside0.mk (below_step (by repeat (first | (with_reducible first | exact HB.out | apply below_alloc | apply pw_below_drewN | apply below_drew1) | exact HB.out)) hb); clear HO105; clear HO110; clear HB; have HO105 := n0_; have HO110 := n1_; have HB := n2_; clear n0_ n1_ n2_; (try clear hb); (try clear hb2); (try clear hk); (try clear hi)))
              go_ret
              exact ⟨by first | rfl | (simp [errW_none, errW_some] <;> rfl) | (simp [*, errW_none, errW_some] <;> rfl), by repeat (first | (with_reducible first | exact HB.out | apply below_alloc | apply pw_below_drewN | apply below_drew1) | exact HB.out)⟩
            · rw [if_neg c17] at H
              have c17b0 : (t106 == t111) = false := by simpa using c17
              (try (have c17b1 : decide (t106 = t111) = false := by simpa using c17))
              (try (have c17b2 : (t106 == t111) = false := by simpa using c17))
              (try (have c17b3 : ¬ (t106 = t111) := by simpa using c17))
              clear c17
              obtain rfl := Option.some.inj H
              go_wp2_with (first | ((with_reducible refine gate_callee (f := 42) rfl ?_); refine goesL_ (some 22) rfl rfl Try.func42 (by kernel_rfl) rfl #[.slice A0 l0.length c0, .slice A1 l1.length c1] rfl (by (try simp only [List.map_toArray, List.map_cons, List.map_nil]); first | done | rfl | (simp only [List.length_drop, List.length_take]; rfl)) ?_; (with_reducible refine (match_All.calls (fun k_ => k_ < w.heap.size) _ _ l0 (fun k_ => k_ < w.heap.size) _ _ l1 t103 t106 t107 _ ?side1 ?side2 A11.out).mono ?_); (case side1 => exact Kd.V_mk HC0.out (Kd.F_below (Kd.C_F k25_heap HR0.out) (by repeat (first | (with_reducible first | exact HB.out | apply below_alloc | apply pw_below_drewN | apply below_drew1) | exact HB.out)))); (case side2 => exact Kd.V_mk HC1.out (Kd.F_below (Kd.C_F k25_heap HR1.out) (by repeat (first | (with_reducible first | exact HB.out | apply below_alloc | apply pw_below_drewN | apply below_drew1) | exact HB.out)))); rintro e w24 ⟨v104, rfl, ho0, hb⟩; refine ⟨_, rfl, ?_⟩; have n0_ := Aside0.mk (Kd.V_lower (Kd.V_mono (ok' := fun k_ => True) ho0 (fun k_ hk_ => trivial)) (below_size (by repeat (first | (with_reducible first | exact HB.out | apply below_alloc | apply pw_below_drewN | apply below_drew1) | exact HB.out)))); have n1_ := Aside0.mk (below_step (by repeat (first | (with_reducible first | exact HB.out | apply below_alloc | apply pw_below_drewN | apply below_drew1) | exact HB.out)) hb); clear HB; have HO105 := n0_; have HB := n1_; clear n0_ n1_; (try clear hb); (try clear hb2); (try clear hk); (try clear hi); (try clear ho0)) | ((with_reducible refine gate_callee (f := 43) rfl ?_); refine goesL_ (some 29) rfl rfl Try.func43 (by kernel_rfl) rfl #[.slice A0 l0.length c0, .slice A1 l1.length c1] rfl (by (try simp only [List.map_toArray, List.map_cons, List.map_nil]); first | done | rfl | (simp only [List.length_drop, List.length_take]; rfl)) ?_; (with_reducible refine (elenchusref05_All.calls (fun k_ => k_ < w.heap.size) _ _ l0 (fun k_ => k_ < w.heap.size) _ _ l1 t108 t111 t112 _ ?side1 ?side2 A12.out).mono ?_); (case side1 => exact Kd.V_mk HC0.out (Kd.F_below (Kd.C_F k25_heap HR0.out) (by repeat (first | (with_reducible first | exact HB.out | apply below_alloc | apply pw_below_drewN | apply below_drew1) | exact HB.out)))); (case side2 => exact Kd.V_mk HC1.out (Kd.F_below (Kd.C_F k25_heap HR1.out) (by repeat (first | (with_reducible first | exact HB.out | apply below_alloc | apply pw_below_drewN | apply below_drew1) | exact HB.out)))); rintro e w25 ⟨v109, rfl, ho0, hb⟩; refine ⟨_, rfl, ?_⟩; have n0_ := Aside0.mk (Kd.V_below (by (with_reducible repeat (first | apply Kd.V_alloc | apply Kd.V_drewN | apply Kd.V_drew)); exact HO105.out) hb); have n1_ := Aside0.mk (Kd.V_lower (Kd.V_mono (ok' := fun k_ => True) ho0 (fun k_ hk_ => trivial)) (below_size (by repeat (first | (with_reducible first | exact HB.out | apply below_alloc | apply pw_below_drewN | apply below_drew1) | exact HB.out)))); have n2_ := Aside0.mk (below_step (by repeat (first | (with_reducible first | exact HB.out | apply below_alloc | apply pw_below_drewN | apply below_drew1) | exact HB.out)) hb); clear HO105; clear HB; have HO105 := n0_; have HO110 := n1_; have HB := n2_; clear n0_ n1_ n2_; (try clear hb); (try clear hb2); (try clear hk); (try clear hi); (try clear ho0)) | ((with_reducible refine gate_callee (f := 44) rfl ?_); refine goesL_ (some 33) rfl rfl Try.func44 (by kernel_rfl) rfl #[] rfl (by (try simp only [List.map_toArray, List.map_cons, List.map_nil]); first | done | rfl | (simp only [List.length_drop, List.length_take]; rfl)) ?_; (with_reducible refine (elenchuslaw05_awake.calls  true _ A13.out).mono ?_); rintro e w26 ⟨rfl, hb⟩; refine ⟨_, rfl, ?_⟩; have n0_ := Aside0.mk (Kd.V_below (by (with_reducible repeat (first | apply Kd.V_alloc | apply Kd.V_drewN | apply Kd.V_drew)); exact HO105.out) hb); have n1_ := Aside0.mk (Kd.V_below (by (with_reducible repeat (first | apply Kd.V_alloc | apply Kd.V_drewN | apply Kd.V_drew)); exact HO110.out) hb); have n2_ := Aside0.mk (below_step (by repeat (first | (with_reducible first | exact HB.out | apply below_alloc | apply pw_below_drewN | apply below_drew1) | exact HB.out)) hb); clear HO105; clear HO110; clear HB; have HO105 := n0_; have HO110 := n1_; have HB := n2_; clear n0_ n1_ n2_; (try clear hb); (try clear hb2); (try clear hk); (try clear hi); obtain ⟨Ao27, co27, eo27⟩ := Kd.V_slice HO105.out; subst eo27; obtain ⟨Ao28, co28, eo28⟩ := Kd.V_slice HO110.out; subst eo28) | (go_at_call 45; (with_reducible refine (elenchusref03_Same.calls _ _ t103 _ _ t108 true _ ?side1 ?side2 ?side3 ?side4 A15.out).mono ?_); (case side1 => repeat (first | exact (Kd.V_reads' HO105.out).2.2 | (with_reducible refine Kd.C_alloc ?_ _) | (with_reducible refine Kd.C_drewN ?_ _) | (with_reducible refine Kd.C_drew ?_))); (case side2 => exact (Kd.V_reads' HO105.out).2.1); (case side3 => repeat (first | exact (Kd.V_reads' HO110.out).2.2 | (with_reducible refine Kd.C_alloc ?_ _) | (with_reducible refine Kd.C_drewN ?_ _) | (with_reducible refine Kd.C_drew ?_))); (case side4 => exact (Kd.V_reads' HO110.out).2.1); rintro e w29 ⟨rfl, hb⟩; have n0_ := Aside0.mk (Kd.V_below (by (with_reducible repeat (first | apply Kd.V_alloc | apply Kd.V_drewN | apply Kd.V_drew)); exact HO105.out) hb); have n1_ := Aside0.mk (Kd.V_below (by (with_reducible repeat (first | apply Kd.V_alloc | apply Kd.V_drewN | apply Kd.V_drew)); exact HO110.out) hb); have n2_ := Aside0.mk (below_step (by repeat (first | (with_reducible first | exact HB.out | apply below_alloc | apply pw_below_drewN | apply below_drew1) | exact HB.out)) hb); clear HO105; clear HO110; clear HB; have HO105 := n0_; have HO110 := n1_; have HB := n2_; clear n0_ n1_ n2_; (try clear hb); (try clear hb2); (try clear hk); (try clear hi)))
              go_ret
              exact ⟨by first | rfl | (simp [errW_none, errW_some] <;> rfl) | (simp [*, errW_none, errW_some] <;> rfl), by repeat (first | (with_reducible first | exact HB.out | apply below_alloc | apply pw_below_drewN | apply below_drew1) | exact HB.out)⟩
          · replace c16 := Bool.eq_false_iff.mpr c16
            subst c16
            have H1 : (some false) = some r := by rw [if_neg (show ¬ (false = true) by decide)] at H; exact H
            clear H
            have H := H1
            clear H1
            obtain rfl := Option.some.inj H
            go_wp2_with (first | ((with_reducible refine gate_callee (f := 42) rfl ?_); refine goesL_ (some 22) rfl rfl Try.func42 (by kernel_rfl) rfl #[.slice A0 l0.length c0, .slice A1 l1.length c1] rfl (by (try simp only [List.map_toArray, List.map_cons, List.map_nil]); first | done | rfl | (simp only [List.length_drop, List.length_take]; rfl)) ?_; (with_reducible refine (match_All.calls (fun k_ => k_ < w.heap.size) _ _ l0 (fun k_ => k_ < w.heap.size) _ _ l1 t103 t106 t107 _ ?side1 ?side2 A11.out).mono ?_); (case side1 => exact Kd.V_mk HC0.out (Kd.F_below (Kd.C_F k25_heap HR0.out) (by repeat (first | (with_reducible first | exact HB.out | apply below_alloc | apply pw_below_drewN | apply below_drew1) | exact HB.out)))); (case side2 => exact Kd.V_mk HC1.out (Kd.F_below (Kd.C_F k25_heap HR1.out) (by repeat (first | (with_reducible first | exact HB.out | apply below_alloc | apply pw_below_drewN | apply below_drew1) | exact HB.out)))); rintro e w30 ⟨v104, rfl, ho0, hb⟩; refine ⟨_, rfl, ?_⟩; have n0_ := Aside0.mk (Kd.V_lower (Kd.V_mono (ok' := fun k_ => True) ho0 (fun k_ hk_ => trivial)) (below_size (by repeat (first | (with_reducible first | exact HB.out | apply below_alloc | apply pw_below_drewN | apply below_drew1) | exact HB.out)))); have n1_ := Aside0.mk (below_step (by repeat (first | (with_reducible first | exact HB.out | apply below_alloc | apply pw_below_drewN | apply below_drew1) | exact HB.out)) hb); clear HB; have HO105 := n0_; have HB := n1_; clear n0_ n1_; (try clear hb); (try clear hb2); (try clear hk); (try clear hi); (try clear ho0)) | ((with_reducible refine gate_callee (f := 43) rfl ?_); refine goesL_ (some 29) rfl rfl Try.func43 (by kernel_rfl) rfl #[.slice A0 l0.length c0, .slice A1 l1.length c1] rfl (by (try simp only [List.map_toArray, List.map_cons, List.map_nil]); first | done | rfl | (simp only [List.length_drop, List.length_take]; rfl)) ?_; (with_reducible refine (elenchusref05_All.calls (fun k_ => k_ < w.heap.size) _ _ l0 (fun k_ => k_ < w.heap.size) _ _ l1 t108 t111 t112 _ ?side1 ?side2 A12.out).mono ?_); (case side1 => exact Kd.V_mk HC0.out (Kd.F_below (Kd.C_F k25_heap HR0.out) (by repeat (first | (with_reducible first | exact HB.out | apply below_alloc | apply pw_below_drewN | apply below_drew1) | exact HB.out)))); (case side2 => exact Kd.V_mk HC1.out (Kd.F_below (Kd.C_F k25_heap HR1.out) (by repeat (first | (with_reducible first | exact HB.out | apply below_alloc | apply pw_below_drewN | apply below_drew1) | exact HB.out)))); rintro e w31 ⟨v109, rfl, ho0, hb⟩; refine ⟨_, rfl, ?_⟩; have n0_ := Aside0.mk (Kd.V_below (by (with_reducible repeat (first | apply Kd.V_alloc | apply Kd.V_drewN | apply Kd.V_drew)); exact HO105.out) hb); have n1_ := Aside0.mk (Kd.V_lower (Kd.V_mono (ok' := fun k_ => True) ho0 (fun k_ hk_ => trivial)) (below_size (by repeat (first | (with_reducible first | exact HB.out | apply below_alloc | apply pw_below_drewN | apply below_drew1) | exact HB.out)))); have n2_ := Aside0.mk (below_step (by repeat (first | (with_reducible first | exact HB.out | apply below_alloc | apply pw_below_drewN | apply below_drew1) | exact HB.out)) hb); clear HO105; clear HB; have HO105 := n0_; have HO110 := n1_; have HB := n2_; clear n0_ n1_ n2_; (try clear hb); (try clear hb2); (try clear hk); (try clear hi); (try clear ho0)) | ((with_reducible refine gate_callee (f := 44) rfl ?_); refine goesL_ (some 33) rfl rfl Try.func44 (by kernel_rfl) rfl #[] rfl (by (try simp only [List.map_toArray, List.map_cons, List.map_nil]); first | done | rfl | (simp only [List.length_drop, List.length_take]; rfl)) ?_; (with_reducible refine (elenchuslaw05_awake.calls  true _ A13.out).mono ?_); rintro e w32 ⟨rfl, hb⟩; refine ⟨_, rfl, ?_⟩; have n0_ := Aside0.mk (Kd.V_below (by (with_reducible repeat (first | apply Kd.V_alloc | apply Kd.V_drewN | apply Kd.V_drew)); exact HO105.out) hb); have n1_ := Aside0.mk (Kd.V_below (by (with_reducible repeat (first | apply Kd.V_alloc | apply Kd.V_drewN | apply Kd.V_drew)); exact HO110.out) hb); have n2_ := Aside0.mk (below_step (by repeat (first | (with_reducible first | exact HB.out | apply below_alloc | apply pw_below_drewN | apply below_drew1) | exact HB.out)) hb); clear HO105; clear HO110; clear HB; have HO105 := n0_; have HO110 := n1_; have HB := n2_; clear n0_ n1_ n2_; (try clear hb); (try clear hb2); (try clear hk); (try clear hi); obtain ⟨Ao33, co33, eo33⟩ := Kd.V_slice HO105.out; subst eo33; obtain ⟨Ao34, co34, eo34⟩ := Kd.V_slice HO110.out; subst eo34) | (go_at_call 45; (with_reducible refine (elenchusref03_Same.calls _ _ t103 _ _ t108 false _ ?side1 ?side2 ?side3 ?side4 A15.out).mono ?_); (case side1 => repeat (first | exact (Kd.V_reads' HO105.out).2.2 | (with_reducible refine Kd.C_alloc ?_ _) | (with_reducible refine Kd.C_drewN ?_ _) | (with_reducible refine Kd.C_drew ?_))); (case side2 => exact (Kd.V_reads' HO105.out).2.1); (case side3 => repeat (first | exact (Kd.V_reads' HO110.out).2.2 | (with_reducible refine Kd.C_alloc ?_ _) | (with_reducible refine Kd.C_drewN ?_ _) | (with_reducible refine Kd.C_drew ?_))); (case side4 => exact (Kd.V_reads' HO110.out).2.1); rintro e w35 ⟨rfl, hb⟩; have n0_ := Aside0.mk (Kd.V_below (by (with_reducible repeat (first | apply Kd.V_alloc | apply Kd.V_drewN | apply Kd.V_drew)); exact HO105.out) hb); have n1_ := Aside0.mk (Kd.V_below (by (with_reducible repeat (first | apply Kd.V_alloc | apply Kd.V_drewN | apply Kd.V_drew)); exact HO110.out) hb); have n2_ := Aside0.mk (below_step (by repeat (first | (with_reducible first | exact HB.out | apply below_alloc | apply pw_below_drewN | apply below_drew1) | exact HB.out)) hb); clear HO105; clear HO110; clear HB; have HO105 := n0_; have HO110 := n1_; have HB := n2_; clear n0_ n1_ n2_; (try clear hb); (try clear hb2); (try clear hk); (try clear hi)))
            go_ret
            exact ⟨by first | rfl | (simp [errW_none, errW_some] <;> rfl) | (simp [*, errW_none, errW_some] <;> rfl), by repeat (first | (with_reducible first | exact HB.out | apply below_alloc | apply pw_below_drewN | apply below_drew1) | exact HB.out)⟩
        · replace c14 := Bool.eq_false_iff.mpr c14
          subst c14
          have H1 : (some false) = some r := by rw [if_neg (show ¬ (false = true) by decide)] at H; exact H
          clear H
          have H := H1
          clear H1
          obtain rfl := Option.some.inj H
          go_wp2_with (first | ((with_reducible refine gate_callee (f := 42) rfl ?_); refine goesL_ (some 22) rfl rfl Try.func42 (by kernel_rfl) rfl #[.slice A0 l0.length c0, .slice A1 l1.length c1] rfl (by (try simp only [List.map_toArray, List.map_cons, List.map_nil]); first | done | rfl | (simp only [List.length_drop, List.length_take]; rfl)) ?_; (with_reducible refine (match_All.calls (fun k_ => k_ < w.heap.size) _ _ l0 (fun k_ => k_ < w.heap.size) _ _ l1 t103 t106 t107 _ ?side1 ?side2 A11.out).mono ?_); (case side1 => exact Kd.V_mk HC0.out (Kd.F_below (Kd.C_F k25_heap HR0.out) (by repeat (first | (with_reducible first | exact HB.out | apply below_alloc | apply pw_below_drewN | apply below_drew1) | exact HB.out)))); (case side2 => exact Kd.V_mk HC1.out (Kd.F_below (Kd.C_F k25_heap HR1.out) (by repeat (first | (with_reducible first | exact HB.out | apply below_alloc | apply pw_below_drewN | apply below_drew1) | exact HB.out)))); rintro e w36 ⟨v104, rfl, ho0, hb⟩; refine ⟨_, rfl, ?_⟩; have n0_ := Aside0.mk (Kd.V_lower (Kd.V_mono (ok' := fun k_ => True) ho0 (fun k_ hk_ => trivial)) (below_size (by repeat (first | (with_reducible first | exact HB.out | apply below_alloc | apply pw_below_drewN | apply below_drew1) | exact HB.out)))); have n1_ := Aside0.mk (below_step (by repeat (first | (with_reducible first | exact HB.out | apply below_alloc | apply pw_below_drewN | apply below_drew1) | exact HB.out)) hb); clear HB; have HO105 := n0_; have HB := n1_; clear n0_ n1_; (try clear hb); (try clear hb2); (try clear hk); (try clear hi); (try clear ho0)) | ((with_reducible refine gate_callee (f := 43) rfl ?_); refine goesL_ (some 29) rfl rfl Try.func43 (by kernel_rfl) rfl #[.slice A0 l0.length c0, .slice A1 l1.length c1] rfl (by (try simp only [List.map_toArray, List.map_cons, List.map_nil]); first | done | rfl | (simp only [List.length_drop, List.length_take]; rfl)) ?_; (with_reducible refine (elenchusref05_All.calls (fun k_ => k_ < w.heap.size) _ _ l0 (fun k_ => k_ < w.heap.size) _ _ l1 t108 t111 t112 _ ?side1 ?side2 A12.out).mono ?_); (case side1 => exact Kd.V_mk HC0.out (Kd.F_below (Kd.C_F k25_heap HR0.out) (by repeat (first | (with_reducible first | exact HB.out | apply below_alloc | apply pw_below_drewN | apply below_drew1) | exact HB.out)))); (case side2 => exact Kd.V_mk HC1.out (Kd.F_below (Kd.C_F k25_heap HR1.out) (by repeat (first | (with_reducible first | exact HB.out | apply below_alloc | apply pw_below_drewN | apply below_drew1) | exact HB.out)))); rintro e w37 ⟨v109, rfl, ho0, hb⟩; refine ⟨_, rfl, ?_⟩; have n0_ := Aside0.mk (Kd.V_below (by (with_reducible repeat (first | apply Kd.V_alloc | apply Kd.V_drewN | apply Kd.V_drew)); exact HO105.out) hb); have n1_ := Aside0.mk (Kd.V_lower (Kd.V_mono (ok' := fun k_ => True) ho0 (fun k_ hk_ => trivial)) (below_size (by repeat (first | (with_reducible first | exact HB.out | apply below_alloc | apply pw_below_drewN | apply below_drew1) | exact HB.out)))); have n2_ := Aside0.mk (below_step (by repeat (first | (with_reducible first | exact HB.out | apply below_alloc | apply pw_below_drewN | apply below_drew1) | exact HB.out)) hb); clear HO105; clear HB; have HO105 := n0_; have HO110 := n1_; have HB := n2_; clear n0_ n1_ n2_; (try clear hb); (try clear hb2); (try clear hk); (try clear hi); (try clear ho0)) | ((with_reducible refine gate_callee (f := 44) rfl ?_); refine goesL_ (some 33) rfl rfl Try.func44 (by kernel_rfl) rfl #[] rfl (by (try simp only [List.map_toArray, List.map_cons, List.map_nil]); first | done | rfl | (simp only [List.length_drop, List.length_take]; rfl)) ?_; (with_reducible refine (elenchuslaw05_awake.calls  false _ A13.out).mono ?_); rintro e w38 ⟨rfl, hb⟩; refine ⟨_, rfl, ?_⟩; have n0_ := Aside0.mk (Kd.V_below (by (with_reducible repeat (first | apply Kd.V_alloc | apply Kd.V_drewN | apply Kd.V_drew)); exact HO105.out) hb); have n1_ := Aside0.mk (Kd.V_below (by (with_reducible repeat (first | apply Kd.V_alloc | apply Kd.V_drewN | apply Kd.V_drew)); exact HO110.out) hb); have n2_ := Aside0.mk (below_step (by repeat (first | (with_reducible first | exact HB.out | apply below_alloc | apply pw_below_drewN | apply below_drew1) | exact HB.out)) hb); clear HO105; clear HO110; clear HB; have HO105 := n0_; have HO110 := n1_; have HB := n2_; clear n0_ n1_ n2_; (try clear hb); (try clear hb2); (try clear hk); (try clear hi)))
          go_ret
          exact ⟨by first | rfl | (simp [errW_none, errW_some] <;> rfl) | (simp [*, errW_none, errW_some] <;> rfl), by repeat (first | (with_reducible first | exact HB.out | apply below_alloc | apply pw_below_drewN | apply below_drew1) | exact HB.out)⟩

end Go.Proofs.Ythplndalbfcbbaa.PA
/- MatchMakes: what the law computes is true. -/
set_option linter.unusedSimpArgs false
set_option linter.unusedVariables false
namespace Go.Proofs.Ythplndalbfcbbaa
open Go.RowKit Go.Proofs.YthplndalbfcbbaaW.PrintWords

theorem tidyL_sizes {M : Nat} (hM : 1 ≤ M) {s : List Bd} (hs : ∀ b, b ∈ s → b.t.size ≤ M) {vs : List Int} : ∀ b, b ∈ tidyL s vs → b.t.size ≤ M := by
  intro b hb
  simp only [tidyL, List.mem_map] at hb
  obtain ⟨v, -, rfl⟩ := hb
  exact ofBs_size v hM s hs
theorem matchT_sizes {M : Nat} (hM : 1 ≤ M) {ps ts : List Tm} (ht : Tm.sizes ts ≤ M) : ∀ b, b ∈ (matchT ps ts).1 → b.t.size ≤ M := by
  rw [matchT_doc]
  split
  · cases hg : gathL ps ts [] with
    | none => simp
    | some g => exact tidyL_sizes hM (gathL_sizes ps ts [] g (by simp) ht hg)
  · simp
theorem same_self {l : List Bd} (h : ∀ b, b ∈ l → b.t.size ≤ 1000000000) : PA.elenchusref03_Same.f (toBL l) (toBL l) = some true := by
  unfold PA.elenchusref03_Same.f
  rw [ofBL_toBL, if_pos ⟨eqBL_iff.2 rfl, List.all_eq_true.2 fun b hb => by simpa using h b hb⟩]
theorem makes_pure (ps ts : List Tm) : PA.elenchuslaw05_MatchMakes.f 1 (toSL ps) (toSL ts) = some true := by
  unfold PA.elenchuslaw05_MatchMakes.f
  simp only [PA.elenchusref05_Few.f, Option.bind_some, ofSL_toSL, PA.elenchuslaw05_MatchMakes.j0, PA.elenchuslaw05_awake.f]
  cases h1 : fewS ps
  · simp
  cases h2 : fewS ts
  · simp
  have s1 := fewS_sizes h1
  have s2 := fewS_sizes h2
  have e1 : PA.match_All.f (toSL ps) (toSL ts) = some (toBL (matchT ps ts).1, (matchT ps ts).2.1, (matchT ps ts).2.2) := by
    unfold PA.match_All.f
    rw [ofSL_toSL, ofSL_toSL, if_pos ⟨by omega, by omega⟩]
  have e2 : PA.elenchusref05_All.f (toSL ps) (toSL ts) = some (toBL (matchT ps ts).1, (matchT ps ts).2.1, (matchT ps ts).2.2) := e1
  simp [e1, e2, same_self fun b hb => Nat.le_trans (matchT_sizes (M := 500) (by omega) s2 b hb) (by omega)]
theorem makes_calls (ps ts : List Tm) (s1 s2 : Value) (w : World) (hs : Terms (fun _ => False) w s1 ps) (ht : Terms (fun _ => False) w s2 ts) :
    Calls Try.prog 5 #[s1, s2] w fun e w' => e = .returned (.bool true) ∧ Below w.heap.size w w' := by
  obtain ⟨a1, c1, rfl, -, -⟩ := hs.shape
  obtain ⟨a2, c2, rfl, -, -⟩ := ht.shape
  obtain ⟨e1, h1, k1⟩ := c_of hs
  obtain ⟨e2, h2, k2⟩ := c_of ht
  rw [e1, e2]
  exact PA.elenchuslaw05_MatchMakes.calls 1 a1 c1 (toSL ps) a2 c2 (toSL ts) true w k1 h1 k2 h2 (makes_pure ps ts)
end Go.Proofs.Ythplndalbfcbbaa
