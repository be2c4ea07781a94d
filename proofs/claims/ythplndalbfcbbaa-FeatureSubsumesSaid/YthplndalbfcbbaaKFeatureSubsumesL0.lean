/- What the proof of the law rests on: contracts of the functions, plain laws, and words. -/
import Derived.Test.YthplndalbfcbbaaProg
import Derived.Below
import Derived.Deep.Draws
import Derived.Deep.AppendLies
import Derived.Maps.AppendAt
import Derived.OwnWalk
import Derived.Laws.BytesArg
import Derived.Laws.MakeOwn
import Derived.Laws.OwnMore
import Derived.Deep.OwnRows
import Derived.Tactics
import Derived.Lib.ConvBytes
import Derived.Laws.Slices
import Derived.WalkKit
import Derived.KernelRfl
import Derived.RowKit3
import Derived.Deep.LoopGhost
import Derived.Deep.QuietTactic
import Derived.BigQuiet
import Derived.WideLaws
import Derived.Deep.DeepCutAuto
import Derived.Deep.CutBlock
import Derived.Deep.RegionHeld3
import Derived.Laws.Rows
import Derived.Lib.AppendStr
import Derived.ArgAppend
import Derived.Laws.IdiomCopy
import Derived.OrdersHeld
import Derived.Laws.BitsLemmas
import Derived.RowKit
import Derived.Test.YthplndalbfcbbaaKFeatureSubsumesU0
import Derived.Test.YthplndalbfcbbaaKFeatureSubsumesG4
import Derived.Test.YthplndalbfcbbaaKFeatureSubsumesG1
import Derived.Test.YthplndalbfcbbaaKFeatureSubsumesG6
import Derived.Test.YthplndalbfcbbaaKFeatureSubsumesG3
import Derived.Test.YthplndalbfcbbaaKFeatureSubsumesG9
import Derived.Test.YthplndalbfcbbaaKFeatureSubsumesG2
import Derived.Test.YthplndalbfcbbaaKFeatureSubsumesXSyms
import Derived.Test.YthplndalbfcbbaaKFeatureSubsumesG7
import Derived.Test.YthplndalbfcbbaaKFeatureSubsumesG12
import Derived.Test.YthplndalbfcbbaaKFeatureSubsumesXRangeI
import Derived.Test.YthplndalbfcbbaaKFeatureSubsumesXDraw6
namespace Go.Proofs.Ythplndalbfcbbaa.PA
open Go.RowKit Go.Proofs.YthplndalbfcbbaaW.PrintWords Go.Proofs.YthplndalbfcbbaaW.PrintLast Go.Proofs.YthplndalbfcbbaaW.PrintMore
attribute [local go_sem] max2_int min2_int max_two min_two max_three min_three max_four min_four   -- for this text's walks alone
set_option linter.unusedVariables false
set_option linter.unusedSimpArgs false
def errW : Option Int → Value
  | none => .nilIface
  | some c => .iface 0 (.int .i64 c)
theorem errW_none : errW none = .nilIface := rfl
theorem errW_some (c : Int) : errW (some c) = .iface 0 (.int .i64 c) := rfl
theorem info25 : (Try.prog.info? 25).map (fun i => (i.zero, i.size, i.bytes)) = some (some (.agg #[(.int .i64 0), (.slice none 0 0)]), 2, 32) := by kernel_rfl
structure S25 where
  f0 : Int
  f1 : (List S25)
def z25 : S25 := ⟨(0 : Int), ([] : List S25)⟩
def F25 (d : Kd S25) : Kd S25 := Kd.iso (Kd.pair (Kd.int .i64) (Kd.slice 25 d)) (fun x : S25 => (x.f0, x.f1))
theorem mono25 : Kd.Mono F25 := Kd.mono_iso _ (Kd.mono_pair (Kd.mono_const _) (Kd.mono_slice 25 Kd.mono_id))
theorem sub25 : Kd.Sub F25 [25] := Kd.sub_iso _ (Kd.sub_pair (Kd.sub_const _ (by decide)) (Kd.sub_slice 25 (by decide) Kd.sub_id))
theorem sz25 : ∀ n, (Kd.upto F25 2 [25] n).sz = 2 := Kd.upto_sz (fun _ => rfl)
def k25 : Kd S25 := Kd.fix F25 2 [25] sz25 (Kd.upto_E sub25)
theorem k25_heap : Kd.Heap k25 := Kd.heap_fix (fun _ h_ => Kd.heap_iso _ (Kd.heap_pair (Kd.heap_int .i64) (Kd.heap_slice 25 h_)))
theorem k25_open {w : World} {x : S25} {cs : List Value} (h : k25.K w x cs) : ∃ A1 c1, cs = [.int .i64 x.f0, .slice A1 x.f1.length c1] ∧ x.f1.length ≤ c1 ∧ k25.C w A1 x.f1.length x.f1 := by
  obtain ⟨n, h⟩ := h
  cases n with
  | zero => exact h.elim
  | succ n =>
    obtain ⟨_, _, rfl, rfl, ⟨A1, c1, rfl, l1, g1⟩⟩ := h
    exact ⟨A1, c1, rfl, l1, Kd.fix_C g1⟩
theorem k25_mk (w : World) (x : S25) {A1 : Option Addr} {c1 : Nat} (l1 : x.f1.length ≤ c1) (g1 : k25.C w A1 x.f1.length x.f1) : k25.K w x [.int .i64 x.f0, .slice A1 x.f1.length c1] := by
  obtain ⟨n1, q1⟩ := Kd.fix_C_back mono25 g1
  have r1 := Kd.upto_C_le mono25 sz25 (show n1 ≤ n1 by omega) q1
  exact ⟨n1 + 1, ⟨[.int .i64 x.f0], [.slice A1 x.f1.length c1], rfl, rfl, ⟨A1, c1, rfl, l1, r1⟩⟩⟩
theorem k25_openF {W : World} {ok : Nat → Prop} {x : S25} {cs : List Value} (h : Kd.FK k25 W ok x cs) : ∃ A1 c1, cs = [.int .i64 x.f0, .slice A1 x.f1.length c1] ∧ x.f1.length ≤ c1 ∧ Kd.F k25 W ok A1 x.f1.length x.f1 := by
  obtain ⟨A1, c1, rfl, l1, _⟩ := k25_open (Kd.FK_now h)
  exact ⟨A1, c1, rfl, l1, (fun W' hW => by obtain ⟨A1_, c1_, he, l1_, g1_⟩ := k25_open (h W' hW); injection (Option.some.inj (show some (Value.slice A1 x.f1.length c1) = some (Value.slice A1_ x.f1.length c1_) from congrArg (fun l => l[1]?) he)) with ha_ _ _; rw [ha_]; exact g1_)⟩
theorem k25_mkF (W : World) (ok : Nat → Prop) (x : S25) {A1 : Option Addr} {c1 : Nat} (l1 : x.f1.length ≤ c1) (g1 : Kd.F k25 W ok A1 x.f1.length x.f1) : Kd.FK k25 W ok x [.int .i64 x.f0, .slice A1 x.f1.length c1] := fun W2 hW => k25_mk W2 x l1 (g1 W2 hW)
structure S148 where
  f0 : ByteArray
  f1 : Int
  f2 : Int
  f3 : Bool
def z148 : S148 := ⟨(⟨#[]⟩ : ByteArray), (0 : Int), (0 : Int), false⟩
def k148 : Kd S148 := Kd.iso (Kd.pair Kd.string (Kd.pair (Kd.int .i64) (Kd.pair (Kd.int .i64) Kd.bool))) (fun x : S148 => (x.f0, x.f1, x.f2, x.f3))
theorem k148_open {w : World} {x : S148} {cs : List Value} (h : k148.K w x cs) : cs = [.string x.f0, .int .i64 x.f1, .int .i64 x.f2, .bool x.f3] := by
  obtain ⟨_, _, rfl, rfl, ⟨_, _, rfl, rfl, ⟨_, _, rfl, rfl, rfl⟩⟩⟩ := h
  exact rfl
theorem k148_mk (w : World) (x : S148)  : k148.K w x [.string x.f0, .int .i64 x.f1, .int .i64 x.f2, .bool x.f3] := ⟨[.string x.f0], [.int .i64 x.f1, .int .i64 x.f2, .bool x.f3], rfl, rfl, ⟨[.int .i64 x.f1], [.int .i64 x.f2, .bool x.f3], rfl, rfl, ⟨[.int .i64 x.f2], [.bool x.f3], rfl, rfl, rfl⟩⟩⟩
def rd_T148 (xs : List S148) (i : Int) : S148 := xs.getD i.toNat z148
theorem at_T148 {w : World} {A : Option Addr} {n : Nat} {xs : List S148} (h : Kd.C k148 w A n xs) (i : Int) (h0 : 0 ≤ i) (h1 : i < n) : ∃ ad , A = some ad ∧ w.cell? (ad.add (i.toNat * 4)) = some (.string (rd_T148 xs i).f0) ∧ w.cell? ⟨(ad.add (i.toNat * 4)).block, (ad.add (i.toNat * 4)).off + 1, none⟩ = some (.int .i64 (rd_T148 xs i).f1) ∧ w.cell? ⟨(ad.add (i.toNat * 4)).block, (ad.add (i.toNat * 4)).off + 2, none⟩ = some (.int .i64 (rd_T148 xs i).f2) ∧ w.cell? ⟨(ad.add (i.toNat * 4)).block, (ad.add (i.toNat * 4)).off + 3, none⟩ = some (.bool (rd_T148 xs i).f3) := by
  obtain ⟨ad, c, e, _, hK, hc0⟩ := Kd.C_get h z148 i h0 h1
  have hc : ∀ j u, c[j]? = some u → w.cell? (ad.add (i.toNat * 4 + j)) = some u := hc0
  obtain rfl := k148_open hK
  exact ⟨ad, e, hc 0 _ rfl, by rw [← add_field _ _ 1 (by omega)]; exact hc 1 _ rfl, by rw [← add_field _ _ 2 (by omega)]; exact hc 2 _ rfl, by rw [← add_field _ _ 3 (by omega)]; exact hc 3 _ rfl⟩
structure S142 where
  f0 : Bool
  f1 : S25
  f2 : S25
def z142 : S142 := ⟨false, z25, z25⟩
def k142 : Kd S142 := Kd.iso (Kd.pair Kd.bool (Kd.pair k25 k25)) (fun x : S142 => (x.f0, x.f1, x.f2))
theorem k142_heap : Kd.Heap k142 := Kd.heap_iso _ (Kd.heap_pair Kd.heap_bool (Kd.heap_pair k25_heap k25_heap))
theorem k142_open {w : World} {x : S142} {cs : List Value} (h : k142.K w x cs) : ∃ A2 c2 A4 c4, cs = [.bool x.f0, .int .i64 x.f1.f0, .slice A2 x.f1.f1.length c2, .int .i64 x.f2.f0, .slice A4 x.f2.f1.length c4] ∧ x.f1.f1.length ≤ c2 ∧ k25.C w A2 x.f1.f1.length x.f1.f1 ∧ x.f2.f1.length ≤ c4 ∧ k25.C w A4 x.f2.f1.length x.f2.f1 := by
  obtain ⟨_, _, rfl, rfl, ⟨_, _, rfl, s1, s3⟩⟩ := h
  obtain ⟨A2, c2, rfl, l2, g2⟩ := k25_open s1
  obtain ⟨A4, c4, rfl, l4, g4⟩ := k25_open s3
  exact ⟨A2, c2, A4, c4, rfl, l2, g2, l4, g4⟩
theorem k142_mk (w : World) (x : S142) {A2 : Option Addr} {c2 : Nat} (l2 : x.f1.f1.length ≤ c2) (g2 : k25.C w A2 x.f1.f1.length x.f1.f1) {A4 : Option Addr} {c4 : Nat} (l4 : x.f2.f1.length ≤ c4) (g4 : k25.C w A4 x.f2.f1.length x.f2.f1) : k142.K w x [.bool x.f0, .int .i64 x.f1.f0, .slice A2 x.f1.f1.length c2, .int .i64 x.f2.f0, .slice A4 x.f2.f1.length c4] := ⟨[.bool x.f0], [.int .i64 x.f1.f0, .slice A2 x.f1.f1.length c2, .int .i64 x.f2.f0, .slice A4 x.f2.f1.length c4], rfl, rfl, ⟨[.int .i64 x.f1.f0, .slice A2 x.f1.f1.length c2], [.int .i64 x.f2.f0, .slice A4 x.f2.f1.length c4], rfl, (k25_mk w x.f1 l2 g2), (k25_mk w x.f2 l4 g4)⟩⟩
theorem k142_openF {W : World} {ok : Nat → Prop} {x : S142} {cs : List Value} (h : Kd.FK k142 W ok x cs) : ∃ A2 c2 A4 c4, cs = [.bool x.f0, .int .i64 x.f1.f0, .slice A2 x.f1.f1.length c2, .int .i64 x.f2.f0, .slice A4 x.f2.f1.length c4] ∧ x.f1.f1.length ≤ c2 ∧ Kd.F k25 W ok A2 x.f1.f1.length x.f1.f1 ∧ x.f2.f1.length ≤ c4 ∧ Kd.F k25 W ok A4 x.f2.f1.length x.f2.f1 := by
  obtain ⟨A2, c2, A4, c4, rfl, l2, _, l4, _⟩ := k142_open (Kd.FK_now h)
  exact ⟨A2, c2, A4, c4, rfl, l2, (fun W' hW => by obtain ⟨A2_, c2_, A4_, c4_, he, l2_, g2_, l4_, g4_⟩ := k142_open (h W' hW); injection (Option.some.inj (show some (Value.slice A2 x.f1.f1.length c2) = some (Value.slice A2_ x.f1.f1.length c2_) from congrArg (fun l => l[2]?) he)) with ha_ _ _; rw [ha_]; exact g2_), l4, (fun W' hW => by obtain ⟨A2_, c2_, A4_, c4_, he, l2_, g2_, l4_, g4_⟩ := k142_open (h W' hW); injection (Option.some.inj (show some (Value.slice A4 x.f2.f1.length c4) = some (Value.slice A4_ x.f2.f1.length c4_) from congrArg (fun l => l[4]?) he)) with ha_ _ _; rw [ha_]; exact g4_)⟩
def rd_T142 (xs : List S142) (i : Int) : S142 := xs.getD i.toNat z142
theorem at_T142 {w : World} {A : Option Addr} {n : Nat} {xs : List S142} (h : Kd.C k142 w A n xs) (i : Int) (h0 : 0 ≤ i) (h1 : i < n) : ∃ ad A2 c2 A4 c4, A = some ad ∧ w.cell? (ad.add (i.toNat * 5)) = some (.bool (rd_T142 xs i).f0) ∧ w.cell? ⟨(ad.add (i.toNat * 5)).block, (ad.add (i.toNat * 5)).off + 1, none⟩ = some (.int .i64 (rd_T142 xs i).f1.f0) ∧ w.cell? ⟨(ad.add (i.toNat * 5)).block, (ad.add (i.toNat * 5)).off + 2, none⟩ = some (.slice A2 (rd_T142 xs i).f1.f1.length c2) ∧ w.cell? ⟨(ad.add (i.toNat * 5)).block, (ad.add (i.toNat * 5)).off + 3, none⟩ = some (.int .i64 (rd_T142 xs i).f2.f0) ∧ w.cell? ⟨(ad.add (i.toNat * 5)).block, (ad.add (i.toNat * 5)).off + 4, none⟩ = some (.slice A4 (rd_T142 xs i).f2.f1.length c4) ∧ (rd_T142 xs i).f1.f1.length ≤ c2 ∧ k25.C w A2 (rd_T142 xs i).f1.f1.length (rd_T142 xs i).f1.f1 ∧ (rd_T142 xs i).f2.f1.length ≤ c4 ∧ k25.C w A4 (rd_T142 xs i).f2.f1.length (rd_T142 xs i).f2.f1 := by
  obtain ⟨ad, c, e, _, hK, hc0⟩ := Kd.C_get h z142 i h0 h1
  have hc : ∀ j u, c[j]? = some u → w.cell? (ad.add (i.toNat * 5 + j)) = some u := hc0
  obtain ⟨A2, c2, A4, c4, rfl, l2, g2, l4, g4⟩ := k142_open hK
  exact ⟨ad, A2, c2, A4, c4, e, hc 0 _ rfl, by rw [← add_field _ _ 1 (by omega)]; exact hc 1 _ rfl, by rw [← add_field _ _ 2 (by omega)]; exact hc 2 _ rfl, by rw [← add_field _ _ 3 (by omega)]; exact hc 3 _ rfl, by rw [← add_field _ _ 4 (by omega)]; exact hc 4 _ rfl, l2, g2, l4, g4⟩
end Go.Proofs.Ythplndalbfcbbaa.PA
set_option linter.unusedSimpArgs false
set_option linter.unusedVariables false
namespace Go.Proofs.Ythplndalbfcbbaa
open Go.RowKit Go.Proofs.YthplndalbfcbbaaW.PrintWords
abbrev TS := PA.S25
abbrev kT := PA.k25
mutual
def toS : Tm → TS
  | .node h l => ⟨h, toSL l⟩
def toSL : List Tm → List TS
  | [] => []
  | t :: ts => toS t :: toSL ts
end
mutual
def ofS : TS → Tm
  | ⟨h, l⟩ => .node h (ofSL l)
def ofSL : List TS → List Tm
  | [] => []
  | x :: xs => ofS x :: ofSL xs
end
mutual
theorem ofS_toS : ∀ t : Tm, ofS (toS t) = t
  | .node h l => by simp only [toS, ofS, ofSL_toSL l]
theorem ofSL_toSL : ∀ l : List Tm, ofSL (toSL l) = l
  | [] => rfl
  | t :: ts => by simp only [toSL, ofSL, ofS_toS t, ofSL_toSL ts]
end
theorem toSL_map (l : List Tm) : toSL l = l.map toS := by induction l <;> simp_all [toSL]
theorem ofSL_map (l : List TS) : ofSL l = l.map ofS := by induction l <;> simp_all [ofSL]
theorem toSL_length (l : List Tm) : (toSL l).length = l.length := by rw [toSL_map]; simp
theorem ofSL_length (l : List TS) : (ofSL l).length = l.length := by rw [ofSL_map]; simp
theorem toS_f0 (t : Tm) : (toS t).f0 = t.h := by cases t; rfl
theorem toS_f1 (t : Tm) : (toS t).f1 = toSL t.args := by cases t; rfl
theorem add_flat (b off k : Nat) : (⟨b, off, none⟩ : Addr).add k = ⟨b, off + k, none⟩ := by unfold Addr.add; split <;> simp_all
mutual
theorem k_of {A : Nat → Prop} {w : World} : ∀ (t : Tm) (cs : List Value), RepD A w t.d cs → kT.K w (toS t) cs
  | .node h l, cs, hr => by
    obtain ⟨s, rfl, hs⟩ := repTm.1 hr
    have hs' : RepD A w (.row 2 (Tm.ds l)) [s] := hs
    simp only [RepD] at hs'
    obtain ⟨a, n, c, h1, h2, h3, h4, h5⟩ := hs'
    simp only [List.cons.injEq, and_true] at h1
    subst h1
    have hn : n = (toSL l).length := by rw [h2, Tm.ds_eq, toSL_length]; simp
    subst hn
    refine PA.k25_mk w (toS (.node h l)) (A1 := a) (c1 := c) h3 ⟨rfl, h4, fun h0 => ?_⟩
    obtain ⟨b, off, rfl, hb, hA, hR⟩ := h5 h0
    exact ⟨_, rfl, fun j p hp => by
      obtain ⟨c1, e1, e2, e3⟩ := kr_of l off hR j p hp
      exact ⟨c1, e1, e2, fun i u hu => by rw [add_flat, ← Nat.add_assoc]; exact e3 i u hu⟩⟩
theorem kr_of {A : Nat → Prop} {w : World} {b : Nat} : ∀ (l : List Tm) (off : Nat), RepR A w b 2 off (Tm.ds l) → ∀ j p, (toSL l)[j]? = some p → ∃ c : List Value, c.length = 2 ∧ kT.K w p c ∧ ∀ i u, c[i]? = some u → w.cell? ⟨b, off + j * 2 + i, none⟩ = some u
  | [], _, _, j, p, hp => by simp [toSL] at hp
  | t :: ts, off, h, j, p, hp => by
    simp only [Tm.ds, RepR] at h
    obtain ⟨⟨cs, e1, e2, e3⟩, h2⟩ := h
    cases j with
    | zero =>
      simp only [toSL, List.getElem?_cons_zero, Option.some.injEq] at hp
      subst hp
      refine ⟨cs, e1, k_of t cs e3, fun i u hu => ?_⟩
      have hi : i < 2 := by have := (List.getElem?_eq_some_iff.1 hu).1; omega
      rw [show off + 0 * 2 + i = off + i by omega, e2 i hi, hu]
    | succ j =>
      simp only [toSL, List.getElem?_cons_succ] at hp
      obtain ⟨c1, g1, g2, g3⟩ := kr_of ts (off + 2) h2 j p hp
      exact ⟨c1, g1, g2, fun i u hu => by rw [show off + (j + 1) * 2 + i = off + 2 + j * 2 + i by omega]; exact g3 i u hu⟩
end
theorem c_of {A : Nat → Prop} {w : World} {a : Option Addr} {n c : Nat} {l : List Tm} (hs : Terms A w (.slice a n c) l) : n = (toSL l).length ∧ (toSL l).length ≤ c ∧ kT.C w a (toSL l).length (toSL l) := by
  have hs' : RepD A w (.row 2 (Tm.ds l)) [.slice a n c] := hs
  simp only [RepD] at hs'
  obtain ⟨a', n', c', h1, h2, h3, h4, h5⟩ := hs'
  simp only [List.cons.injEq, and_true, Value.slice.injEq] at h1
  obtain ⟨rfl, rfl, rfl⟩ := h1
  have hn : n = (toSL l).length := by rw [h2, Tm.ds_eq, toSL_length]; simp
  subst hn
  refine ⟨rfl, h3, rfl, h4, fun h0 => ?_⟩
  obtain ⟨b, off, rfl, hb, hA, hR⟩ := h5 h0
  exact ⟨_, rfl, fun j p hp => by
    obtain ⟨c1, e1, e2, e3⟩ := kr_of l off hR j p hp
    exact ⟨c1, e1, e2, fun i u hu => by rw [add_flat, ← Nat.add_assoc]; exact e3 i u hu⟩⟩
theorem plain_of {w : World} {ad : Addr} {u : Value} (h : w.cell? ad = some u) : ad = ⟨ad.block, ad.off, none⟩ ∧ ad.block < w.heap.size := by
  refine ⟨?_, World.block_lt_of_cell? w ad h⟩
  cases ad with
  | mk b o s =>
    cases s with
    | none => rfl
    | some x =>
      unfold World.cell? at h
      split at h
      · simp at h
      · cases h
mutual
theorem tm_of {ok : Nat → Prop} {w : World} : ∀ (x : TS) (cs : List Value), Kd.FK kT w ok x cs → RepD (fun b => ¬ ok b) w (ofS x).d cs
  | ⟨h, l⟩, cs, hf => by
    obtain ⟨A1, c1, rfl, l1, g1⟩ := PA.k25_openF hf
    refine repTm.2 ⟨_, rfl, ?_⟩
    show RepD _ w (.row 2 (Tm.ds (ofSL l))) _
    simp only [RepD]
    refine ⟨A1, l.length, c1, rfl, by rw [Tm.ds_eq, List.length_map, ofSL_length], l1, Kd.F_max g1, fun h0 => ?_⟩
    obtain ⟨ad, c0, rfl, e1, _, e2, e3⟩ := Kd.F_get g1 PA.z25 0 (by omega) (by show (0 : Int) < (l.length : Int); omega)
    have hc0 : c0.length = 2 := e1
    have hcell := e2 0 (c0[0]'(by omega)) (List.getElem?_eq_getElem (by omega))
    obtain ⟨hp, hlt⟩ := plain_of (show w.cell? ad = some (c0[0]'(by omega)) from hcell)
    refine ⟨ad.block, ad.off, by rw [← hp], hlt, fun hn => hn (e3 (by show 0 < 2; omega)), tr_of l ad.off fun j p hj => ?_⟩
    have hjl := (List.getElem?_eq_some_iff.1 hj).1
    obtain ⟨ad', cs, he, g2, g3, g4, _⟩ := Kd.F_get g1 PA.z25 j (by omega) (by show (j : Int) < (l.length : Int); omega)
    simp only [Option.some.injEq] at he
    subst he
    have hx : l.getD (j : Int).toNat PA.z25 = p := by simp [List.getD_eq_getElem?_getD, hj]
    have g3' : Kd.FK kT w ok (l.getD (j : Int).toNat PA.z25) cs := g3
    rw [hx] at g3'
    refine ⟨cs, g2, g3', fun i u hu => ?_⟩
    have := g4 i u hu
    rw [hp, add_flat] at this
    rw [show ad.off + j * 2 + i = ad.off + ((j : Int).toNat * 2 + i) by simp; omega]
    exact this
theorem tr_of {ok : Nat → Prop} {w : World} {b : Nat} : ∀ (l : List TS) (off : Nat), (∀ j p, l[j]? = some p → ∃ cs : List Value, cs.length = 2 ∧ Kd.FK kT w ok p cs ∧ ∀ i u, cs[i]? = some u → w.cell? ⟨b, off + j * 2 + i, none⟩ = some u) → RepR (fun b => ¬ ok b) w b 2 off (Tm.ds (ofSL l))
  | [], _, _ => by simp only [ofSL, Tm.ds, RepR]
  | x :: xs, off, h => by
    simp only [ofSL, Tm.ds, RepR]
    obtain ⟨cs, e1, e2, e3⟩ := h 0 x rfl
    refine ⟨⟨cs, e1, fun i hi => ?_, tm_of x cs e2⟩, tr_of xs (off + 2) fun j p hj => ?_⟩
    · have := e3 i (cs[i]'(by omega)) (List.getElem?_eq_getElem (by omega))
      rw [show off + 0 * 2 + i = off + i by omega] at this
      rw [this, List.getElem?_eq_getElem (by omega)]
    · obtain ⟨c1, g1, g2, g3⟩ := h (j + 1) p (by simpa using hj)
      exact ⟨c1, g1, g2, fun i u hu => by rw [show off + 2 + j * 2 + i = off + (j + 1) * 2 + i by omega]; exact g3 i u hu⟩
end
theorem terms_of {ok : Nat → Prop} {w : World} {a : Option Addr} {c : Nat} {l : List TS} (hc : l.length ≤ c) (hf : Kd.F kT w ok a l.length l) : Terms (fun b => ¬ ok b) w (.slice a l.length c) (ofSL l) := by
  have h : Kd.FK kT w ok (⟨0, l⟩ : TS) [.int .i64 0, .slice a l.length c] := PA.k25_mkF w ok ⟨0, l⟩ hc hf
  have h2 := tm_of _ _ h
  obtain ⟨s, e, h3⟩ := repTm.1 h2
  simp only [List.cons.injEq, and_true] at e
  rw [e.2]; exact h3
theorem terms_of_c {w : World} {a : Option Addr} {c : Nat} {l : List TS} (hc : l.length ≤ c) (h : kT.C w a l.length l) : Terms (fun _ => False) w (.slice a l.length c) (ofSL l) :=
  RepD.frame (A := fun b => ¬ (b < w.heap.size)) (B := fun _ => False) (fun _ _ _ => rfl) (fun _ _ h => h.elim) _ _ (terms_of hc (Kd.C_F PA.k25_heap h))
end Go.Proofs.Ythplndalbfcbbaa
set_option linter.unusedSimpArgs false
set_option linter.unusedVariables false
namespace Go.Proofs.Ythplndalbfcbbaa
open Go.RowKit Go.Proofs.YthplndalbfcbbaaW.PrintWords
namespace PA
def elenchusref05_Few.f (l0 : List TS) : Option Bool := some (fewS (ofSL l0))
theorem elenchusref05_Few.calls (A0 : Option Addr) (c0 : Nat) (l0 : List TS) (r : Bool) (w : World) (hr0 : Kd.C kT w A0 l0.length l0) (hc0 : l0.length ≤ c0) (h : elenchusref05_Few.f l0 = some r) :
    Calls Try.prog 41 #[.slice A0 l0.length c0] w fun e w' => e = .returned (.bool r) ∧ Below w.heap.size w w' := by
  cases h
  exact few5_calls _ _ _ w (terms_of_c hc0 hr0)
end PA
end Go.Proofs.Ythplndalbfcbbaa
namespace Go.Proofs.Ythplndalbfcbbaa.PA
open Go.RowKit Go.Proofs.YthplndalbfcbbaaW.PrintWords Go.Proofs.YthplndalbfcbbaaW.PrintLast Go.Proofs.YthplndalbfcbbaaW.PrintMore
attribute [local go_sem] max2_int min2_int max_two min_two max_three min_three max_four min_four   -- for this text's walks alone
set_option linter.unusedVariables false
set_option linter.unusedSimpArgs false
def elenchusref10_Terms.l0 : Nat → List (S142) → List (S25) → Int → Option ((List (S25)))
  | 0, _, _, _ => none
  | k + 1, x0, x3, x4 => if x4 < (x0.length : Int) then (if 0 ≤ x4 then ((some (([(⟨(rd_T142 x0 x4).f1.f0, (rd_T142 x0 x4).f1.f1⟩ : S25), (⟨(rd_T142 x0 x4).f2.f0, (rd_T142 x0 x4).f2.f1⟩ : S25)] : List (S25)) : List (S25))).bind fun y618 => (if x3.length + y618.length < 4398046511104 then (elenchusref10_Terms.l0 k x0 (x3 ++ y618) (wrap64 (x4 + 1))) else (none))) else (none)) else (some x3)
def elenchusref10_Terms.f (k : Nat) (l0 : List (S142)) : Option ((List (S25))) := elenchusref10_Terms.l0 k l0 ([] : List (S25)) 0
def elenchusref10_Terms.T5 : Bool × List (List Nat × List Nat) := (true, [([], []), ([], []), ([], []), ([1, 2], [1, 2]), ([3], [3]), ([4], [4]), ([], []), ([], []), ([6, 7], [6, 7]), ([8], [8]), ([9], [9]), ([5, 10], [5, 10]), ([0, 11], [0, 11]), ([12, 12, 0, 1, 2, 3, 4, 5, 6, 7, 8, 9, 10, 11, 12], [0, 12])])
def elenchusref10_Terms.B5 : List Nat := [0, 0, 0, 6, 14, 30, 0, 0, 192, 448, 960, 2046, 4095, 8191]
theorem elenchusref10_Terms.tab5 : rtab .any (opsOf Try.f120 5) = elenchusref10_Terms.T5 := by kernel_rfl
theorem elenchusref10_Terms.bits5 : waitsOk elenchusref10_Terms.T5.2 elenchusref10_Terms.B5 = true := by kernel_rfl
set_option maxHeartbeats 8000000 in
set_option maxRecDepth 100000 in
theorem elenchusref10_Terms.calls (k : Nat) (P0_ : Nat → Prop) (A0 : Option Addr) (c0 : Nat) (l0 : List (S142)) (r : List (S25)) (w : World) (hs0 : Kd.V k142 142 w w.heap.size (fun k_ => P0_ k_) (.slice A0 l0.length c0) l0) (h : elenchusref10_Terms.f k l0 = some r) :
    Calls Try.prog 120 #[.slice A0 l0.length c0] w fun e w' => ∃ v0_ : Value, e = .returned (v0_) ∧ Kd.N k25 25 w' w.heap.size (fun k_ => (P0_ k_ ∨ w.heap.size ≤ k_)) v0_ r ∧ Below w.heap.size w w' := by
  have hu25 := Try.underlying25
  have HO0 := Aside0.mk (show Kd.V k142 142 w w.heap.size (fun k_ => (P0_ k_ ∨ w.heap.size ≤ k_)) (.slice A0 l0.length c0) l0 from Kd.V_mono hs0 (fun k_ hk => .inl hk))
  have HB := Aside0.mk (Below.refl w.heap.size w)
  have H : (elenchusref10_Terms.l0 k l0 ([] : List (S25)) 0) = some r := h
  clear h
  have H' := Aside0.mk H
  clear H
  go_enter Try.func120, Try.ntmps120
  go_wp2
  go_loopg [3, 4] k (fun kq v3 v4 w' => ∃ (x3_1 : List (S25)) (x4_1 : Int), v4 = .int .i64 x4_1 ∧ Aside0 (elenchusref10_Terms.l0 kq l0 x3_1 x4_1 = some r) ∧ Aside0 (kq ≤ k) ∧ Aside0 (Kd.V k142 142 w' w.heap.size (fun k_ => (P0_ k_ ∨ w.heap.size ≤ k_) ∧ some k_ ≠ (v3 : Value).ownBlock) (.slice A0 l0.length c0) l0) ∧ Aside0 (Kd.N k25 25 w' w.heap.size (fun k_ => (P0_ k_ ∨ w.heap.size ≤ k_)) v3 x3_1) ∧ Aside0 (Below w.heap.size w w'))
  case atStart => exact ⟨(([] : List (S25))), (0), (by first | rfl | (simp; done) | (simp [*]; done)), H', ⟨Nat.le_refl _⟩, ⟨by (with_reducible repeat (first | apply Kd.V_alloc | apply Kd.V_drewN | apply Kd.V_drew)); exact Kd.V_mono HO0.out (fun _ hk => ⟨hk, (by simp [Value.ownBlock])⟩)⟩, ⟨by first | exact Kd.R_nil _ _ _ _ _ | exact Kd.N_nil _ _ _ _ _ | exact Kd.V_nil _ _ _ _ _ | exact Kd.Q_nil _ _ _ _ _ | exact Kd.S_nil _ _ _ _ _⟩, ⟨by repeat (first | (with_reducible first | exact HB.out | apply below_alloc | apply pw_below_drewN | apply below_drew1) | exact HB.out)⟩⟩
  case round =>
    clear H'
    try clear c1
    obtain ⟨x3_1, x4_1, rfl, HA, HK1, HO_0, HO_3, HB⟩ := hrel
    cases gk with
    | zero => exact absurd HA.out (by simp [elenchusref10_Terms.l0])
    | succ k1 =>
      have H := HA.out
      clear HA
      simp only [elenchusref10_Terms.l0] at H
      by_cases c2 : x4_1 < (l0.length : Int)
      · rw [if_pos c2] at H
        have c2b0 : decide (x4_1 < (l0.length : Int)) = true := decide_eq_true c2
        clear c2
        by_cases c3 : 0 ≤ x4_1
        · rw [if_pos c3] at H
          have c3b0 : decide (0 ≤ x4_1) = true := decide_eq_true c3
          clear c3
          obtain ⟨y618, hy618⟩ : ∃ y_ : List (S25), y_ = (([(⟨(rd_T142 l0 x4_1).f1.f0, (rd_T142 l0 x4_1).f1.f1⟩ : S25), (⟨(rd_T142 l0 x4_1).f2.f0, (rd_T142 l0 x4_1).f2.f1⟩ : S25)] : List (S25))) := ⟨_, rfl⟩
          replace H : (if x3_1.length + y618.length < 4398046511104 then (elenchusref10_Terms.l0 k1 l0 (x3_1 ++ y618) (wrap64 (x4_1 + 1))) else (none)) = some r := by first | (rw [hy618]; with_reducible exact H) | (have H2_ := (Option.bind_some _ _).symm.trans H; rw [hy618]; with_reducible exact H2_) | (have H2_ := (Option.bind_some _ _).symm.trans H; with_reducible exact H2_) | with_reducible exact H | (rw [hy618]; exact H) | exact H
          have Ny618 := Aside0.mk hy618
          clear hy618
          by_cases c4 : x3_1.length + y618.length < 4398046511104
          · rw [if_pos c4] at H
            have LMc4 := Aside0.mk c4
            clear c4
            obtain ⟨y621, hy621⟩ : ∃ y_ : List (S25), y_ = (x3_1 ++ y618) := ⟨_, rfl⟩
            replace H : (elenchusref10_Terms.l0 k1 l0 y621 (wrap64 (x4_1 + 1))) = some r := by first | (rw [hy621]; with_reducible exact H) | (have H2_ := (Option.bind_some _ _).symm.trans H; rw [hy621]; with_reducible exact H2_) | (have H2_ := (Option.bind_some _ _).symm.trans H; with_reducible exact H2_) | with_reducible exact H | (rw [hy621]; exact H) | exact H
            have Ny621 := Aside0.mk hy621
            clear hy621
            have H' := Aside0.mk H
            clear H
            try go_wp2
            have n0_ := Aside0.mk (Kd.V_drew HO_0.out)
            have n1_ := Aside0.mk (Kd.N_drew HO_3.out)
            have n2_ := Aside0.mk (below_drew1 HB.out)
            clear HO_0
            clear HO_3
            clear HB
            have HO_0 := n0_
            have HO_3 := n1_
            have HB := n2_
            clear n0_ n1_ n2_
            have p616 : 0 ≤ (x4_1 : Int) := of_decide_eq_true (by first | (with_reducible assumption) | assumption)
            have q616 : x4_1 < (l0.length : Int) := of_decide_eq_true (by first | (with_reducible assumption) | assumption)
            obtain ⟨ad616, A616_2, c616_2, A616_4, c616_4, e616, hx616_0, hx616_1, hx616_2, hx616_3, hx616_4, hl616_2, hi616_2, hl616_4, hi616_4⟩ := at_T142 (Kd.V_reads' HO_0.out).2.2 x4_1 p616 q616
            cases e616
            obtain ⟨ce616, hce616, hMe616, hcc616⟩ := Kd.V_get HO_0.out z142 x4_1 p616 (by first | exact q616 | exact of_decide_eq_true (by first | (with_reducible assumption) | assumption) | (have e_ := (Kd.V_reads' HO_0.out).1; omega))
            obtain ⟨ua616_2, uc616_2, ua616_4, uc616_4, rfl, ul616_2, ge616_2, ul616_4, ge616_4⟩ := k142_openF hMe616
            have hv616_2 := hcc616 2 _ rfl
            rw [add_field _ _ 2 (by omega)] at hv616_2
            replace hv616_2 := Option.some.inj (hv616_2.symm.trans hx616_2)
            injection hv616_2 with hva_ hvn_ hvc_
            rw [hva_] at ge616_2
            rw [hvc_] at ul616_2
            have HL616_2 := Aside0.mk (show Kd.V k25 25 _ w.heap.size _ _ ((rd_T142 l0 x4_1).f1.f1) from Kd.V_mk ul616_2 ge616_2)
            clear hva_ hvn_ hvc_ ge616_2 ul616_2
            have hv616_4 := hcc616 4 _ rfl
            rw [add_field _ _ 4 (by omega)] at hv616_4
            replace hv616_4 := Option.some.inj (hv616_4.symm.trans hx616_4)
            injection hv616_4 with hva_ hvn_ hvc_
            rw [hva_] at ge616_4
            rw [hvc_] at ul616_4
            have HL616_4 := Aside0.mk (show Kd.V k25 25 _ w.heap.size _ _ ((rd_T142 l0 x4_1).f2.f1) from Kd.V_mk ul616_4 ge616_4)
            clear hva_ hvn_ hvc_ ge616_4 ul616_4
            clear hcc616 hce616
            have HR616_2 := Aside0.mk hi616_2
            have HC616_2 := Aside0.mk hl616_2
            clear hi616_2 hl616_2
            have HR616_4 := Aside0.mk hi616_4
            have HC616_4 := Aside0.mk hl616_4
            clear hi616_4 hl616_4
            replace p616 := eq_true p616
            replace q616 := eq_true q616
            have p617 : 0 ≤ (x4_1 : Int) := of_decide_eq_true (by first | (with_reducible assumption) | assumption)
            have q617 : x4_1 < (l0.length : Int) := of_decide_eq_true (by first | (with_reducible assumption) | assumption)
            obtain ⟨ad617, A617_2, c617_2, A617_4, c617_4, e617, hx617_0, hx617_1, hx617_2, hx617_3, hx617_4, hl617_2, hi617_2, hl617_4, hi617_4⟩ := at_T142 (Kd.V_reads' HO_0.out).2.2 x4_1 p617 q617
            obtain rfl : ad616 = ad617 := (by injection e617)
            obtain ⟨ce617, hce617, hMe617, hcc617⟩ := Kd.V_get HO_0.out z142 x4_1 p617 (by first | exact q617 | exact of_decide_eq_true (by first | (with_reducible assumption) | assumption) | (have e_ := (Kd.V_reads' HO_0.out).1; omega))
            obtain ⟨ua617_2, uc617_2, ua617_4, uc617_4, rfl, ul617_2, ge617_2, ul617_4, ge617_4⟩ := k142_openF hMe617
            have hv617_2 := hcc617 2 _ rfl
            rw [add_field _ _ 2 (by omega)] at hv617_2
            replace hv617_2 := Option.some.inj (hv617_2.symm.trans hx617_2)
            injection hv617_2 with hva_ hvn_ hvc_
            rw [hva_] at ge617_2
            rw [hvc_] at ul617_2
            have HL617_2 := Aside0.mk (show Kd.V k25 25 _ w.heap.size _ _ ((rd_T142 l0 x4_1).f1.f1) from Kd.V_mk ul617_2 ge617_2)
            clear hva_ hvn_ hvc_ ge617_2 ul617_2
            have hv617_4 := hcc617 4 _ rfl
            rw [add_field _ _ 4 (by omega)] at hv617_4
            replace hv617_4 := Option.some.inj (hv617_4.symm.trans hx617_4)
            injection hv617_4 with hva_ hvn_ hvc_
            rw [hva_] at ge617_4
            rw [hvc_] at ul617_4
            have HL617_4 := Aside0.mk (show Kd.V k25 25 _ w.heap.size _ _ ((rd_T142 l0 x4_1).f2.f1) from Kd.V_mk ul617_4 ge617_4)
            clear hva_ hvn_ hvc_ ge617_4 ul617_4
            clear hcc617 hce617
            have HR617_2 := Aside0.mk hi617_2
            have HC617_2 := Aside0.mk hl617_2
            clear hi617_2 hl617_2
            have HR617_4 := Aside0.mk hi617_4
            have HC617_4 := Aside0.mk hl617_4
            clear hi617_4 hl617_4
            replace p617 := eq_true p617
            replace q617 := eq_true q617
            have ea_ := Option.some.inj (hx616_2.symm.trans hx617_2)
            injection ea_ with ea_ en_ ec_
            subst ea_
            subst ec_
            clear en_
            have ea_ := Option.some.inj (hx616_4.symm.trans hx617_4)
            injection ea_ with ea_ en_ ec_
            subst ea_
            subst ec_
            clear en_
            refine start_ (n := 14) (S := fun w' => w'.cell? (ad616.add ((x4_1).toNat * 5)) = some (.bool ((rd_T142 l0 x4_1).f0)) ∧ w'.cell? ⟨(ad616.add ((x4_1).toNat * 5)).block, (ad616.add ((x4_1).toNat * 5)).off + 1, none⟩ = some (.int .i64 ((rd_T142 l0 x4_1).f1.f0)) ∧ w'.cell? ⟨(ad616.add ((x4_1).toNat * 5)).block, (ad616.add ((x4_1).toNat * 5)).off + 2, none⟩ = some (.slice A616_2 ((rd_T142 l0 x4_1).f1.f1).length c616_2) ∧ w'.cell? ⟨(ad616.add ((x4_1).toNat * 5)).block, (ad616.add ((x4_1).toNat * 5)).off + 3, none⟩ = some (.int .i64 ((rd_T142 l0 x4_1).f2.f0)) ∧ w'.cell? ⟨(ad616.add ((x4_1).toNat * 5)).block, (ad616.add ((x4_1).toNat * 5)).off + 4, none⟩ = some (.slice A616_4 ((rd_T142 l0 x4_1).f2.f1).length c616_4) ∧ w'.cell? (ad616.add ((x4_1).toNat * 5)) = some (.bool ((rd_T142 l0 x4_1).f0)) ∧ w'.cell? ⟨(ad616.add ((x4_1).toNat * 5)).block, (ad616.add ((x4_1).toNat * 5)).off + 1, none⟩ = some (.int .i64 ((rd_T142 l0 x4_1).f1.f0)) ∧ w'.cell? ⟨(ad616.add ((x4_1).toNat * 5)).block, (ad616.add ((x4_1).toNat * 5)).off + 2, none⟩ = some (.slice A616_2 ((rd_T142 l0 x4_1).f1.f1).length c616_2) ∧ w'.cell? ⟨(ad616.add ((x4_1).toNat * 5)).block, (ad616.add ((x4_1).toNat * 5)).off + 3, none⟩ = some (.int .i64 ((rd_T142 l0 x4_1).f2.f0)) ∧ w'.cell? ⟨(ad616.add ((x4_1).toNat * 5)).block, (ad616.add ((x4_1).toNat * 5)).off + 4, none⟩ = some (.slice A616_4 ((rd_T142 l0 x4_1).f2.f1).length c616_4)) (ds := [12]) #[false, false, false, false, false, false, false, false, false, false, false, false, false, false] (by kernel_rfl) rfl rfl ⟨hx616_0, hx616_1, hx616_2, hx616_3, hx616_4, hx617_0, hx617_1, hx617_2, hx617_3, hx617_4⟩ (fun hHeld => ?_); refine with_tabW elenchusref10_Terms.tab5 elenchusref10_Terms.bits5 (fun HT_ HW_ => ?_)
            generalize wr.drew = w5 at HO_0 HO_3 HB HL616_2 HL616_4 HL617_2 HL617_4 HR616_2 HR616_4 HR617_2 HR617_4 hx616_0 hx616_1 hx616_2 hx616_3 hx616_4 hx617_0 hx617_1 hx617_2 hx617_3 hx617_4 hHeld ⊢
            refine pure_ (i := 0) (N := some 11) (v := ?_) (a' := ?_) #[true, false, false, false, false, false, false, false, false, false, false, false, false, false] rfl rfl (any_of HT_.out (by kernel_rfl)) (fun _ _ _ h => h) (Or.inl ⟨by rfl, ?_⟩) ?_ ?_
            rotate_left
            · intro w'
              go_simp
              with_reducible rfl
            rotate_left
            · simp only [Act.put, List.setIfInBounds_toArray, List.set_cons_zero, List.set_cons_succ, i64_w, i32_w]
              rfl
            refine pure_ (i := 1) (N := some 12) (v := ?_) (a' := ?_) #[true, true, false, false, false, false, false, false, false, false, false, false, false, false] rfl rfl (any_of HT_.out (by kernel_rfl)) (fun _ _ _ h => h) (Or.inl ⟨by rfl, ?_⟩) ?_ ?_
            rotate_left
            · intro w'
              go_simp
              with_reducible rfl
            rotate_left
            · simp only [Act.put, List.setIfInBounds_toArray, List.set_cons_zero, List.set_cons_succ, i64_w, i32_w]
              rfl
            refine pure_ (i := 2) (N := some 13) (v := ?_) (a' := ?_) #[true, true, true, false, false, false, false, false, false, false, false, false, false, false] rfl rfl (any_of HT_.out (by kernel_rfl)) (fun _ _ _ h => h) (Or.inl ⟨by rfl, ?_⟩) ?_ ?_
            rotate_left
            · intro w'
              go_simp
              with_reducible rfl
            rotate_left
            · simp only [Act.put, List.setIfInBounds_toArray, List.set_cons_zero, List.set_cons_succ, i64_w, i32_w]
              rfl
            refine pure_ (i := 3) (N := some 14) (v := ?_) (a' := ?_) #[true, true, true, true, false, false, false, false, false, false, false, false, false, false] rfl rfl (any_of HT_.out (by kernel_rfl)) (fun _ _ _ h => h) (Or.inl ⟨by rfl, ?_⟩) ?_ ?_
            rotate_left
            · intro w'
              go_simp
              with_reducible rfl
            rotate_left
            · simp only [Act.put, List.setIfInBounds_toArray, List.set_cons_zero, List.set_cons_succ, i64_w, i32_w]
              rfl
            refine pure_ (i := 4) (N := some 15) (v := ?_) (a' := ?_) #[true, true, true, true, true, false, false, false, false, false, false, false, false, false] rfl rfl (any_of HT_.out (by kernel_rfl)) (fun _ _ _ h => h) (Or.inl ⟨by rfl, ?_⟩) ?_ ?_
            rotate_left
            · intro w'
              go_simp
              with_reducible rfl
            rotate_left
            · simp only [Act.put, List.setIfInBounds_toArray, List.set_cons_zero, List.set_cons_succ, i64_w, i32_w]
              rfl
            refine pure_ (i := 6) (N := some 17) (v := ?_) (a' := ?_) #[true, true, true, true, true, false, true, false, false, false, false, false, false, false] rfl rfl (any_of HT_.out (by kernel_rfl)) (fun _ _ _ h => h) (Or.inl ⟨by rfl, ?_⟩) ?_ ?_
            rotate_left
            · intro w'
              go_simp
              with_reducible rfl
            rotate_left
            · simp only [Act.put, List.setIfInBounds_toArray, List.set_cons_zero, List.set_cons_succ, i64_w, i32_w]
              rfl
            refine pure_ (i := 7) (N := some 18) (v := ?_) (a' := ?_) #[true, true, true, true, true, false, true, true, false, false, false, false, false, false] rfl rfl (any_of HT_.out (by kernel_rfl)) (fun _ _ _ h => h) (Or.inl ⟨by rfl, ?_⟩) ?_ ?_
            rotate_left
            · intro w'
              go_simp
              with_reducible rfl
            rotate_left
            · simp only [Act.put, List.setIfInBounds_toArray, List.set_cons_zero, List.set_cons_succ, i64_w, i32_w]
              rfl
            refine pure_ (i := 8) (N := some 19) (v := ?_) (a' := ?_) #[true, true, true, true, true, false, true, true, true, false, false, false, false, false] rfl rfl (any_of HT_.out (by kernel_rfl)) (fun _ _ _ h => h) (Or.inl ⟨by rfl, ?_⟩) ?_ ?_
            rotate_left
            · intro w'
              go_simp
              with_reducible rfl
            rotate_left
            · simp only [Act.put, List.setIfInBounds_toArray, List.set_cons_zero, List.set_cons_succ, i64_w, i32_w]
              rfl
            refine pure_ (i := 9) (N := some 20) (v := ?_) (a' := ?_) #[true, true, true, true, true, false, true, true, true, true, false, false, false, false] rfl rfl (any_of HT_.out (by kernel_rfl)) (fun _ _ _ h => h) (Or.inl ⟨by rfl, ?_⟩) ?_ ?_
            rotate_left
            · intro w'
              go_simp
              with_reducible rfl
            rotate_left
            · simp only [Act.put, List.setIfInBounds_toArray, List.set_cons_zero, List.set_cons_succ, i64_w, i32_w]
              rfl
            refine take_ (i := 5) (N := some 16) (v := ?_) (a' := ?_) #[true, true, true, true, true, true, true, true, true, true, false, false, false, false] rfl rfl (take_ofW HT_.out HW_.out (by kernel_rfl)) (fun _ _ _ h => h) (Or.inl ⟨by rfl, ?_⟩) hHeld ?_ ?_
            rotate_left
            · rintro w' ⟨s0, s1, s2, s3, s4, s5, s6, s7, s8, s9⟩
              go_simp
              with_reducible rfl
            rotate_left
            · simp only [Act.put, List.setIfInBounds_toArray, List.set_cons_zero, List.set_cons_succ, i64_w, i32_w]
              rfl
            refine take_ (i := 10) (N := some 21) (v := ?_) (a' := ?_) #[true, true, true, true, true, true, true, true, true, true, true, false, false, false] rfl rfl (take_ofW HT_.out HW_.out (by kernel_rfl)) (fun _ _ _ h => h) (Or.inl ⟨by rfl, ?_⟩) hHeld ?_ ?_
            rotate_left
            · rintro w' ⟨s0, s1, s2, s3, s4, s5, s6, s7, s8, s9⟩
              go_simp
              with_reducible rfl
            rotate_left
            · simp only [Act.put, List.setIfInBounds_toArray, List.set_cons_zero, List.set_cons_succ, i64_w, i32_w]
              rfl
            refine one_ (i := 11) (N := some 22) #[true, true, true, true, true, true, true, true, true, true, true, true, false, false] rfl rfl (one_of HT_.out (by kernel_rfl)) (by decide) (fun K hK => ?_)
            refine Kd.N_lit_step k25 _ 25 ?hg (N' := 22) ?hd (xs := ([(⟨(rd_T142 l0 x4_1).f1.f0, (rd_T142 l0 x4_1).f1.f1⟩ : S25), (⟨(rd_T142 l0 x4_1).f2.f0, (rd_T142 l0 x4_1).f2.f1⟩ : S25)] : List (S25))) (inner := [.int .i64 ((rd_T142 l0 x4_1).f1.f0), .slice A616_2 ((rd_T142 l0 x4_1).f1.f1).length c616_2, .int .i64 ((rd_T142 l0 x4_1).f2.f0), .slice A616_4 ((rd_T142 l0 x4_1).f2.f1).length c616_4]) (ok := (fun k_ => (P0_ k_ ∨ w.heap.size ≤ k_) ∧ some k_ ≠ (u3 : Value).ownBlock)) (okp := (fun k_ => (P0_ k_ ∨ w.heap.size ≤ k_) ∧ some k_ ≠ (u3 : Value).ownBlock)) ?hr ?hp (fun _ hk => hk) ((show ∀ k_, w5.heap.size ≤ k_ → (fun k_ => (P0_ k_ ∨ w.heap.size ≤ k_) ∧ some k_ ≠ (u3 : Value).ownBlock) k_ from fun k_ hk => ⟨(.inr (Nat.le_trans (below_size (by repeat (first | (with_reducible first | exact HB.out | apply below_alloc | apply pw_below_drewN | apply below_drew1) | exact HB.out))) hk)), Kd.fresh' (Kd.N_lt (by (with_reducible repeat (first | apply Kd.N_alloc | apply Kd.N_drewN | apply Kd.N_drew)); exact HO_3.out)) k_ hk⟩) _ (Nat.le_refl _)) (Below.refl _ _) (Nat.le_refl _) (by simp) ?_; (case hd => rfl); (case hg => rfl); (case hr => first | (go_simp; done) | (go_simp; rfl)); (case hp => exact (Reps.c2 (show Kd.FK k25 _ _ (⟨(rd_T142 l0 x4_1).f1.f0, (rd_T142 l0 x4_1).f1.f1⟩ : S25) [.int .i64 ((rd_T142 l0 x4_1).f1.f0), .slice A616_2 ((rd_T142 l0 x4_1).f1.f1).length c616_2] from (k25_mkF _ _ (⟨(rd_T142 l0 x4_1).f1.f0, (rd_T142 l0 x4_1).f1.f1⟩ : S25) (Kd.V_reads' (Kd.V_mono (ok' := (fun k_ => (P0_ k_ ∨ w.heap.size ≤ k_) ∧ some k_ ≠ (u3 : Value).ownBlock)) (HL616_2.out) (fun k_ hk => ⟨hk.1, hk.2⟩))).2.1 (Kd.V_F (Kd.V_mono (ok' := (fun k_ => (P0_ k_ ∨ w.heap.size ≤ k_) ∧ some k_ ≠ (u3 : Value).ownBlock)) (HL616_2.out) (fun k_ hk => ⟨hk.1, hk.2⟩))))) (Reps.c2 (show Kd.FK k25 _ _ (⟨(rd_T142 l0 x4_1).f2.f0, (rd_T142 l0 x4_1).f2.f1⟩ : S25) [.int .i64 ((rd_T142 l0 x4_1).f2.f0), .slice A616_4 ((rd_T142 l0 x4_1).f2.f1).length c616_4] from (k25_mkF _ _ (⟨(rd_T142 l0 x4_1).f2.f0, (rd_T142 l0 x4_1).f2.f1⟩ : S25) (Kd.V_reads' (Kd.V_mono (ok' := (fun k_ => (P0_ k_ ∨ w.heap.size ≤ k_) ∧ some k_ ≠ (u3 : Value).ownBlock)) (HL617_4.out) (fun k_ hk => ⟨hk.1, hk.2⟩))).2.1 (Kd.V_F (Kd.V_mono (ok' := (fun k_ => (P0_ k_ ∨ w.heap.size ≤ k_) ∧ some k_ ≠ (u3 : Value).ownBlock)) (HL617_4.out) (fun k_ hk => ⟨hk.1, hk.2⟩))))) (Reps.none _ _))))
            intro v619 w6 ho7 hb hg_ hnew_
            have HS0_ := (hb.cell (World.block_lt_of_cell? _ _ (hHeld.1))).trans (hHeld.1)
            have HS1_ := (hb.cell (World.block_lt_of_cell? _ _ (hHeld.2.1))).trans (hHeld.2.1)
            have HS2_ := (hb.cell (World.block_lt_of_cell? _ _ (hHeld.2.2.1))).trans (hHeld.2.2.1)
            have HS3_ := (hb.cell (World.block_lt_of_cell? _ _ (hHeld.2.2.2.1))).trans (hHeld.2.2.2.1)
            have HS4_ := (hb.cell (World.block_lt_of_cell? _ _ (hHeld.2.2.2.2.1))).trans (hHeld.2.2.2.2.1)
            have HS5_ := (hb.cell (World.block_lt_of_cell? _ _ (hHeld.2.2.2.2.2.1))).trans (hHeld.2.2.2.2.2.1)
            have HS6_ := (hb.cell (World.block_lt_of_cell? _ _ (hHeld.2.2.2.2.2.2.1))).trans (hHeld.2.2.2.2.2.2.1)
            have HS7_ := (hb.cell (World.block_lt_of_cell? _ _ (hHeld.2.2.2.2.2.2.2.1))).trans (hHeld.2.2.2.2.2.2.2.1)
            have HS8_ := (hb.cell (World.block_lt_of_cell? _ _ (hHeld.2.2.2.2.2.2.2.2.1))).trans (hHeld.2.2.2.2.2.2.2.2.1)
            have HS9_ := (hb.cell (World.block_lt_of_cell? _ _ (hHeld.2.2.2.2.2.2.2.2.2))).trans (hHeld.2.2.2.2.2.2.2.2.2)
            clear hg_ hnew_
            (first | rw [← Ny618.out] at ho7 | (simp only [Int.reduceToNat] at ho7; rw [← Ny618.out] at ho7))
            have n0_ := Aside0.mk (Kd.V_elder' (by (with_reducible repeat (first | apply Kd.V_alloc | apply Kd.V_drewN | apply Kd.V_drew)); exact HO_0.out) (by first | exact Kd.N_base ho7 | exact Kd.R_base ho7) hb)
            have n1_ := Aside0.mk (Kd.N_elder' (by (with_reducible repeat (first | apply Kd.N_alloc | apply Kd.N_drewN | apply Kd.N_drew)); exact HO_3.out) (by first | exact Kd.N_base ho7 | exact Kd.R_base ho7) hb)
            have n2_ := Aside0.mk (Kd.V_elder' (by (with_reducible repeat (first | apply Kd.V_alloc | apply Kd.V_drewN | apply Kd.V_drew)); exact HL616_2.out) (by first | exact Kd.N_base ho7 | exact Kd.R_base ho7) hb)
            have n3_ := Aside0.mk (Kd.V_elder' (by (with_reducible repeat (first | apply Kd.V_alloc | apply Kd.V_drewN | apply Kd.V_drew)); exact HL616_4.out) (by first | exact Kd.N_base ho7 | exact Kd.R_base ho7) hb)
            have n4_ := Aside0.mk (Kd.V_elder' (by (with_reducible repeat (first | apply Kd.V_alloc | apply Kd.V_drewN | apply Kd.V_drew)); exact HL617_2.out) (by first | exact Kd.N_base ho7 | exact Kd.R_base ho7) hb)
            have n5_ := Aside0.mk (Kd.V_elder' (by (with_reducible repeat (first | apply Kd.V_alloc | apply Kd.V_drewN | apply Kd.V_drew)); exact HL617_4.out) (by first | exact Kd.N_base ho7 | exact Kd.R_base ho7) hb)
            have n6_ := Aside0.mk (Kd.N_lower ho7 (below_size (by repeat (first | (with_reducible first | exact HB.out | apply below_alloc | apply pw_below_drewN | apply below_drew1) | exact HB.out))))
            have n7_ := Aside0.mk (Kd.C_below (by repeat (first | (with_reducible exact HR616_2.out) | (with_reducible refine Kd.C_alloc ?_ _) | (with_reducible refine Kd.C_drewN ?_ _) | (with_reducible refine Kd.C_drew ?_) | exact HR616_2.out)) hb)
            have n8_ := Aside0.mk (Kd.C_below (by repeat (first | (with_reducible exact HR616_4.out) | (with_reducible refine Kd.C_alloc ?_ _) | (with_reducible refine Kd.C_drewN ?_ _) | (with_reducible refine Kd.C_drew ?_) | exact HR616_4.out)) hb)
            have n9_ := Aside0.mk (Kd.C_below (by repeat (first | (with_reducible exact HR617_2.out) | (with_reducible refine Kd.C_alloc ?_ _) | (with_reducible refine Kd.C_drewN ?_ _) | (with_reducible refine Kd.C_drew ?_) | exact HR617_2.out)) hb)
            have n10_ := Aside0.mk (Kd.C_below (by repeat (first | (with_reducible exact HR617_4.out) | (with_reducible refine Kd.C_alloc ?_ _) | (with_reducible refine Kd.C_drewN ?_ _) | (with_reducible refine Kd.C_drew ?_) | exact HR617_4.out)) hb)
            have n11_ := Aside0.mk (below_step (by repeat (first | (with_reducible first | exact HB.out | apply below_alloc | apply pw_below_drewN | apply below_drew1) | exact HB.out)) hb)
            clear HO_0
            clear HO_3
            clear HL616_2
            clear HL616_4
            clear HL617_2
            clear HL617_4
            clear HR616_2
            clear HR616_4
            clear HR617_2
            clear HR617_4
            clear HB
            have HO_0 := n0_
            have HO_3 := n1_
            have HL616_2 := n2_
            have HL616_4 := n3_
            have HL617_2 := n4_
            have HL617_4 := n5_
            have HO620 := n6_
            have HR616_2 := n7_
            have HR616_4 := n8_
            have HR617_2 := n9_
            have HR617_4 := n10_
            have HB := n11_
            clear n0_ n1_ n2_ n3_ n4_ n5_ n6_ n7_ n8_ n9_ n10_ n11_
            clear hb ho7
            obtain ⟨Ao9, co9, eo9⟩ := Kd.N_slice HO620.out
            (first | subst eo9 | (injection eo9 with f1_ f2_ f3_; have f4_ := f1_.symm; have f5_ := f3_.symm; clear f1_ f2_ f3_; subst f4_; subst f5_))
            refine hK.out _ _ ⟨HS0_, HS1_, HS2_, HS3_, HS4_, HS5_, HS6_, HS7_, HS8_, HS9_⟩ (fun hHeld => ?_)
            clear hK K
            refine norm_ (a' := ?_) ?_ ?_
            rotate_left
            · show Act.put _ (some 22) _ = _
              simp only [Act.put, List.setIfInBounds_toArray, List.set_cons_zero, List.set_cons_succ, i64_w, i32_w]
              rfl
            refine last_ (i := 12) (N := some 23) #[true, true, true, true, true, true, true, true, true, true, true, true, true, false] rfl rfl (one_of HT_.out (by kernel_rfl)) (by decide) (fun K hK => ?_)
            refine Kd.N_append_rows_step k25 (w0 := w) w.heap.size (by rfl) (.tmp 11) (.tmp 22) 23 25 (.agg #[(.int .i64 0), (.slice none 0 0)]) 32 rfl Try.underlying23 info25 rfl (by decide) (by omega) u3 x3_1 y618 _ _ _ (fun k_ => (P0_ k_ ∨ w.heap.size ≤ k_)) (fun k_ => ((fun k_ => (P0_ k_ ∨ w.heap.size ≤ k_))) k_ ∧ some k_ ≠ (u3 : Value).ownBlock) rfl rfl ?aO ?aR (fun _ hk => hk) ?aF ?aB ?aS ?aL ?_
            (case aR => exact (by skip; exact Kd.N_F (Kd.N_mono (ok' := (fun k_ => ((fun k_ => (P0_ k_ ∨ w.heap.size ≤ k_))) k_ ∧ some k_ ≠ (u3 : Value).ownBlock)) (HO620.out) (fun k_ hk => ⟨hk.1, hk.2⟩))))
            (case aB => exact (by repeat (first | (with_reducible first | exact HB.out | apply below_alloc | apply pw_below_drewN | apply below_drew1) | exact HB.out)))
            (case aF => exact (fun k_ hk => (.inr (Nat.le_trans (below_size (by repeat (first | (with_reducible first | exact HB.out | apply below_alloc | apply pw_below_drewN | apply below_drew1) | exact HB.out))) hk))))
            (case aO => exact (by (with_reducible repeat (first | apply Kd.N_alloc | apply Kd.N_drewN | apply Kd.N_drew)); exact Kd.N_mono HO_3.out (fun _ hk => hk.1)))
            (case aS => exact (below_size (by repeat (first | (with_reducible first | exact HB.out | apply below_alloc | apply pw_below_drewN | apply below_drew1) | exact HB.out))))
            (case aL => have := LMc4.out; omega)
            intro v622 w8 ho hb hg hat
            rw [← Ny621.out] at ho
            have n0_ := Aside0.mk (Kd.V_afterv (ok := (fun k_ => (P0_ k_ ∨ w.heap.size ≤ k_) ∧ some k_ ≠ (.slice Ao9 y618.length co9 : Value).ownBlock)) (by (with_reducible repeat (first | apply Kd.V_alloc | apply Kd.V_drewN | apply Kd.V_drew)); exact Kd.V_mono HO_0.out (fun _ hk => ⟨⟨hk.1.1, hk.2⟩, hk.1.2⟩)) hg hat)
            have n1_ := Aside0.mk (Kd.V_afterv (ok := (fun k_ => (P0_ k_ ∨ w.heap.size ≤ k_) ∧ some k_ ≠ (.slice Ao9 y618.length co9 : Value).ownBlock)) (by (with_reducible repeat (first | apply Kd.V_alloc | apply Kd.V_drewN | apply Kd.V_drew)); exact Kd.V_mono HL616_2.out (fun _ hk => ⟨⟨hk.1.1, hk.2⟩, hk.1.2⟩)) hg hat)
            have n2_ := Aside0.mk (Kd.V_afterv (ok := (fun k_ => (P0_ k_ ∨ w.heap.size ≤ k_) ∧ some k_ ≠ (.slice Ao9 y618.length co9 : Value).ownBlock)) (by (with_reducible repeat (first | apply Kd.V_alloc | apply Kd.V_drewN | apply Kd.V_drew)); exact Kd.V_mono HL616_4.out (fun _ hk => ⟨⟨hk.1.1, hk.2⟩, hk.1.2⟩)) hg hat)
            have n3_ := Aside0.mk (Kd.V_afterv (ok := (fun k_ => (P0_ k_ ∨ w.heap.size ≤ k_) ∧ some k_ ≠ (.slice Ao9 y618.length co9 : Value).ownBlock)) (by (with_reducible repeat (first | apply Kd.V_alloc | apply Kd.V_drewN | apply Kd.V_drew)); exact Kd.V_mono HL617_2.out (fun _ hk => ⟨⟨hk.1.1, hk.2⟩, hk.1.2⟩)) hg hat)
            have n4_ := Aside0.mk (Kd.V_afterv (ok := (fun k_ => (P0_ k_ ∨ w.heap.size ≤ k_) ∧ some k_ ≠ (.slice Ao9 y618.length co9 : Value).ownBlock)) (by (with_reducible repeat (first | apply Kd.V_alloc | apply Kd.V_drewN | apply Kd.V_drew)); exact Kd.V_mono HL617_4.out (fun _ hk => ⟨⟨hk.1.1, hk.2⟩, hk.1.2⟩)) hg hat)
            have n5_ := Aside0.mk (Kd.N_afterv (ok := (fun k_ => (P0_ k_ ∨ w.heap.size ≤ k_))) (by (with_reducible repeat (first | apply Kd.N_alloc | apply Kd.N_drewN | apply Kd.N_drew)); exact HO620.out) hg hat)
            have n6_ := Aside0.mk (hb)
            have n7_ := Aside0.mk (ho)
            clear HO_0
            clear HL616_2
            clear HL616_4
            clear HL617_2
            clear HL617_4
            clear HO620
            clear HB
            clear HO_3
            have HO_0 := n0_
            have HL616_2 := n1_
            have HL616_4 := n2_
            have HL617_2 := n3_
            have HL617_4 := n4_
            have HO620 := n5_
            have HB := n6_
            have HO623 := n7_
            clear n0_ n1_ n2_ n3_ n4_ n5_ n6_ n7_
            clear ho hb hg hat
            refine hK.out _ _ ?_
            clear hK K
            refine norm_ (a' := ?_) ?_ ?_
            rotate_left
            · show Act.put _ (some 23) _ = _
              simp only [Act.put, List.setIfInBounds_toArray, List.set_cons_zero, List.set_cons_succ, i64_w, i32_w]
              rfl
            refine pure_ (i := 13) (N := some 3) (v := ?_) (a' := ?_) #[true, true, true, true, true, true, true, true, true, true, true, true, true, true] rfl rfl (any_of HT_.out (by kernel_rfl)) (fun _ _ _ h => h) (Or.inl ⟨by rfl, ?_⟩) ?_ ?_
            rotate_left
            · intro w'
              go_simp
              with_reducible rfl
            rotate_left
            · simp only [Act.put, List.setIfInBounds_toArray, List.set_cons_zero, List.set_cons_succ, i64_w, i32_w]
              rfl
            refine done_ (done_of HT_.out (by kernel_rfl)) ?_
            try go_wp2
            go_roundg k1
            case measure => have := HK1.out; omega
            case rel => exact ⟨(y621), (wrap64 (x4_1 + 1)), (by first | rfl | (simp; done) | (simp [*]; done)), H', ⟨by have := HK1.out; omega⟩, ⟨by (with_reducible repeat (first | apply Kd.V_alloc | apply Kd.V_drewN | apply Kd.V_drew)); exact Kd.V_mono HO_0.out (fun _ hk => ⟨hk.1.1, hk.2⟩)⟩, ⟨by (with_reducible repeat (first | apply Kd.N_alloc | apply Kd.N_drewN | apply Kd.N_drew)); exact HO623.out⟩, ⟨by repeat (first | (with_reducible first | exact HB.out | apply below_alloc | apply pw_below_drewN | apply below_drew1) | exact HB.out)⟩⟩
          · rw [if_neg c4] at H
            exact absurd H (by simp)
        · rw [if_neg c3] at H
          exact absurd H (by simp)
      · rw [if_neg c2] at H
        have c2b0 : decide (x4_1 < (l0.length : Int)) = false := decide_eq_false c2
        clear c2
        obtain rfl := Option.some.inj H
        go_wp2
        go_ret
        exact ⟨_, by first | rfl | (simp [errW_none, errW_some] <;> rfl) | (simp [*, errW_none, errW_some] <;> rfl), by (with_reducible repeat (first | apply Kd.N_alloc | apply Kd.N_drewN | apply Kd.N_drew)); exact HO_3.out, by repeat (first | (with_reducible first | exact HB.out | apply below_alloc | apply pw_below_drewN | apply below_drew1) | exact HB.out)⟩
end Go.Proofs.Ythplndalbfcbbaa.PA
namespace Go.Proofs.Ythplndalbfcbbaa.PA
open Go.RowKit Go.Proofs.YthplndalbfcbbaaW.PrintWords Go.Proofs.YthplndalbfcbbaaW.PrintLast Go.Proofs.YthplndalbfcbbaaW.PrintMore
attribute [local go_sem] max2_int min2_int max_two min_two max_three min_three max_four min_four   -- for this text's walks alone
set_option linter.unusedVariables false
set_option linter.unusedSimpArgs false
def elenchusref10_Few.f (k : Nat) (l0 : List (S142)) : Option (Bool) := if (l0.length : Int) ≤ 40 then ((elenchusref10_Terms.f k l0).bind fun t624 => ((elenchusref05_Few.f t624).bind fun t627 => (some t627))) else (some false)
set_option maxHeartbeats 8000000 in
set_option maxRecDepth 100000 in
theorem elenchusref10_Few.calls (k : Nat) (A0 : Option Addr) (c0 : Nat) (l0 : List (S142)) (r : Bool) (w : World) (hr0 : Kd.C k142 w A0 l0.length l0) (hc0 : l0.length ≤ c0) (h : elenchusref10_Few.f k l0 = some r) :
    Calls Try.prog 119 #[.slice A0 l0.length c0] w fun e w' => e = .returned (.bool r) ∧ Below w.heap.size w w' := by
  have HR0 := Aside0.mk hr0
  have HC0 := Aside0.mk hc0
  clear hr0 hc0
  have HB := Aside0.mk (Below.refl w.heap.size w)
  have H : (if (l0.length : Int) ≤ 40 then ((elenchusref10_Terms.f k l0).bind fun t624 => ((elenchusref05_Few.f t624).bind fun t627 => (some t627))) else (some false)) = some r := h
  clear h
  by_cases c2 : (l0.length : Int) ≤ 40
  · rw [if_pos c2] at H
    have c2b0 : decide ((l0.length : Int) ≤ 40) = true := decide_eq_true c2
    have c2b1 : decide (l0.length ≤ 40) = true := decide_eq_true (by omega)
    clear c2
    replace H := Option.bind_eq_some_iff.mp H
    obtain ⟨t624, A30, H⟩ := H
    replace H : ((elenchusref05_Few.f t624).bind fun t627 => (some t627)) = some r := H
    have A3 := Aside0.mk A30
    clear A30
    replace H := Option.bind_eq_some_iff.mp H
    obtain ⟨t627, A40, H⟩ := H
    replace H : (some t627) = some r := H
    have A4 := Aside0.mk A40
    clear A40
    obtain rfl := Option.some.inj H
    go_enter Try.func119, Try.ntmps119
    go_wp2_with (first | (go_at_call 120; (with_reducible refine (elenchusref10_Terms.calls k (fun k_ => k_ < w.heap.size) _ _ l0 t624 _ ?side1 A3.out).mono ?_); (case side1 => exact Kd.V_mk HC0.out (Kd.F_below (Kd.C_F k142_heap HR0.out) (by repeat (first | (with_reducible first | exact HB.out | apply below_alloc | apply pw_below_drewN | apply below_drew1) | exact HB.out)))); rintro e w5 ⟨v625, rfl, ho0, hb⟩; have n0_ := Aside0.mk (Kd.N_lower (Kd.N_mono (ok' := fun k_ => True) ho0 (fun k_ hk_ => trivial)) (below_size (by repeat (first | (with_reducible first | exact HB.out | apply below_alloc | apply pw_below_drewN | apply below_drew1) | exact HB.out)))); have n1_ := Aside0.mk (below_step (by repeat (first | (with_reducible first | exact HB.out | apply below_alloc | apply pw_below_drewN | apply below_drew1) | exact HB.out)) hb); clear HB; have HO626 := n0_; have HB := n1_; clear n0_ n1_; (try clear hb); (try clear hb2); (try clear hk); (try clear hi); (try clear ho0); obtain ⟨Ao6, co6, eo6⟩ := Kd.N_slice HO626.out; subst eo6) | (go_at_call 41; (with_reducible refine (elenchusref05_Few.calls _ _ t624 t627 _ ?side1 ?side2 A4.out).mono ?_); (case side1 => repeat (first | exact (Kd.N_reads' HO626.out).2.2 | (with_reducible refine Kd.C_alloc ?_ _) | (with_reducible refine Kd.C_drewN ?_ _) | (with_reducible refine Kd.C_drew ?_))); (case side2 => exact (Kd.N_reads' HO626.out).2.1); rintro e w7 ⟨rfl, hb⟩; have n0_ := Aside0.mk (Kd.N_below (by (with_reducible repeat (first | apply Kd.N_alloc | apply Kd.N_drewN | apply Kd.N_drew)); exact HO626.out) hb); have n1_ := Aside0.mk (below_step (by repeat (first | (with_reducible first | exact HB.out | apply below_alloc | apply pw_below_drewN | apply below_drew1) | exact HB.out)) hb); clear HO626; clear HB; have HO626 := n0_; have HB := n1_; clear n0_ n1_; (try clear hb); (try clear hb2); (try clear hk); (try clear hi)))
    go_ret
    exact ⟨by first | rfl | (simp [errW_none, errW_some] <;> rfl) | (simp [*, errW_none, errW_some] <;> rfl), by repeat (first | (with_reducible first | exact HB.out | apply below_alloc | apply pw_below_drewN | apply below_drew1) | exact HB.out)⟩
  · rw [if_neg c2] at H
    have c2b0 : decide ((l0.length : Int) ≤ 40) = false := decide_eq_false c2
    have c2b1 : decide (l0.length ≤ 40) = false := decide_eq_false (by omega)
    clear c2
    obtain rfl := Option.some.inj H
    go_enter Try.func119, Try.ntmps119
    go_wp2
    go_ret
    exact ⟨by first | rfl | (simp [errW_none, errW_some] <;> rfl) | (simp [*, errW_none, errW_some] <;> rfl), by repeat (first | (with_reducible first | exact HB.out | apply below_alloc | apply pw_below_drewN | apply below_drew1) | exact HB.out)⟩
end Go.Proofs.Ythplndalbfcbbaa.PA
namespace Go.Proofs.Ythplndalbfcbbaa.PA
open Go.RowKit Go.Proofs.YthplndalbfcbbaaW.PrintWords Go.Proofs.YthplndalbfcbbaaW.PrintLast Go.Proofs.YthplndalbfcbbaaW.PrintMore
attribute [local go_sem] max2_int min2_int max_two min_two max_three min_three max_four min_four   -- for this text's walks alone
set_option linter.unusedVariables false
set_option linter.unusedSimpArgs false
def elenchusref15_Few.f (k : Nat) (l0 : List (S142)) : Option (Bool) := (elenchusref10_Few.f k l0).bind fun t702 => (if t702 = true then (if (l0.length : Int) ≤ 6 then (some true) else (some (decide ((l0.length : Int) > 32)))) else (some false))
set_option maxHeartbeats 8000000 in
set_option maxRecDepth 100000 in
theorem elenchusref15_Few.calls (k : Nat) (A0 : Option Addr) (c0 : Nat) (l0 : List (S142)) (r : Bool) (w : World) (hr0 : Kd.C k142 w A0 l0.length l0) (hc0 : l0.length ≤ c0) (h : elenchusref15_Few.f k l0 = some r) :
    Calls Try.prog 78 #[.slice A0 l0.length c0] w fun e w' => e = .returned (.bool r) ∧ Below w.heap.size w w' := by
  have HR0 := Aside0.mk hr0
  have HC0 := Aside0.mk hc0
  clear hr0 hc0
  have HB := Aside0.mk (Below.refl w.heap.size w)
  have H : ((elenchusref10_Few.f k l0).bind fun t702 => (if t702 = true then (if (l0.length : Int) ≤ 6 then (some true) else (some (decide ((l0.length : Int) > 32)))) else (some false))) = some r := h
  clear h
  replace H := Option.bind_eq_some_iff.mp H
  obtain ⟨t702, A20, H⟩ := H
  replace H : (if t702 = true then (if (l0.length : Int) ≤ 6 then (some true) else (some (decide ((l0.length : Int) > 32)))) else (some false)) = some r := H
  have A2 := Aside0.mk A20
  clear A20
  by_cases c3 : t702 = true
  · subst c3
    have H1 : (if (l0.length : Int) ≤ 6 then (some true) else (some (decide ((l0.length : Int) > 32)))) = some r := by rw [if_pos rfl] at H; exact H
    clear H
    have H := H1
    clear H1
    by_cases c4 : (l0.length : Int) ≤ 6
    · rw [if_pos c4] at H
      have c4b0 : decide ((l0.length : Int) ≤ 6) = true := decide_eq_true c4
      have c4b1 : decide (l0.length ≤ 6) = true := decide_eq_true (by omega)
      clear c4
      obtain rfl := Option.some.inj H
      go_enter Try.func78, Try.ntmps78
      go_wp2_with (first | ((with_reducible refine gate_callee (f := 119) rfl ?_); refine goesL_ (some 4) rfl rfl Try.func119 (by kernel_rfl) rfl #[.slice A0 l0.length c0] rfl (by (try simp only [List.map_toArray, List.map_cons, List.map_nil]); first | done | rfl | (simp only [List.length_drop, List.length_take]; rfl)) ?_; (with_reducible refine (elenchusref10_Few.calls k _ _ l0 true _ ?side1 ?side2 A2.out).mono ?_); (case side1 => repeat (first | exact HR0.out | (with_reducible refine Kd.C_alloc ?_ _) | (with_reducible refine Kd.C_drewN ?_ _) | (with_reducible refine Kd.C_drew ?_))); (case side2 => exact HC0.out); rintro e w5 ⟨rfl, hb⟩; refine ⟨_, rfl, ?_⟩; have n0_ := Aside0.mk (below_step (by repeat (first | (with_reducible first | exact HB.out | apply below_alloc | apply pw_below_drewN | apply below_drew1) | exact HB.out)) hb); clear HB; have HB := n0_; clear n0_; (try clear hb); (try clear hb2); (try clear hk); (try clear hi)))
      go_ret
      exact ⟨by first | rfl | (simp [errW_none, errW_some] <;> rfl) | (simp [*, errW_none, errW_some] <;> rfl), by repeat (first | (with_reducible first | exact HB.out | apply below_alloc | apply pw_below_drewN | apply below_drew1) | exact HB.out)⟩
    · rw [if_neg c4] at H
      have c4b0 : decide ((l0.length : Int) ≤ 6) = false := decide_eq_false c4
      have c4b1 : decide (l0.length ≤ 6) = false := decide_eq_false (by omega)
      clear c4
      obtain rfl := Option.some.inj H
      go_enter Try.func78, Try.ntmps78
      go_wp2_with (first | ((with_reducible refine gate_callee (f := 119) rfl ?_); refine goesL_ (some 4) rfl rfl Try.func119 (by kernel_rfl) rfl #[.slice A0 l0.length c0] rfl (by (try simp only [List.map_toArray, List.map_cons, List.map_nil]); first | done | rfl | (simp only [List.length_drop, List.length_take]; rfl)) ?_; (with_reducible refine (elenchusref10_Few.calls k _ _ l0 true _ ?side1 ?side2 A2.out).mono ?_); (case side1 => repeat (first | exact HR0.out | (with_reducible refine Kd.C_alloc ?_ _) | (with_reducible refine Kd.C_drewN ?_ _) | (with_reducible refine Kd.C_drew ?_))); (case side2 => exact HC0.out); rintro e w6 ⟨rfl, hb⟩; refine ⟨_, rfl, ?_⟩; have n0_ := Aside0.mk (below_step (by repeat (first | (with_reducible first | exact HB.out | apply below_alloc | apply pw_below_drewN | apply below_drew1) | exact HB.out)) hb); clear HB; have HB := n0_; clear n0_; (try clear hb); (try clear hb2); (try clear hk); (try clear hi)))
      go_ret
      exact ⟨by first | rfl | (simp [errW_none, errW_some] <;> rfl) | (simp [*, errW_none, errW_some] <;> rfl), by repeat (first | (with_reducible first | exact HB.out | apply below_alloc | apply pw_below_drewN | apply below_drew1) | exact HB.out)⟩
  · replace c3 := Bool.eq_false_iff.mpr c3
    subst c3
    have H1 : (some false) = some r := by rw [if_neg (show ¬ (false = true) by decide)] at H; exact H
    clear H
    have H := H1
    clear H1
    obtain rfl := Option.some.inj H
    go_enter Try.func78, Try.ntmps78
    go_wp2_with (first | ((with_reducible refine gate_callee (f := 119) rfl ?_); refine goesL_ (some 4) rfl rfl Try.func119 (by kernel_rfl) rfl #[.slice A0 l0.length c0] rfl (by (try simp only [List.map_toArray, List.map_cons, List.map_nil]); first | done | rfl | (simp only [List.length_drop, List.length_take]; rfl)) ?_; (with_reducible refine (elenchusref10_Few.calls k _ _ l0 false _ ?side1 ?side2 A2.out).mono ?_); (case side1 => repeat (first | exact HR0.out | (with_reducible refine Kd.C_alloc ?_ _) | (with_reducible refine Kd.C_drewN ?_ _) | (with_reducible refine Kd.C_drew ?_))); (case side2 => exact HC0.out); rintro e w7 ⟨rfl, hb⟩; refine ⟨_, rfl, ?_⟩; have n0_ := Aside0.mk (below_step (by repeat (first | (with_reducible first | exact HB.out | apply below_alloc | apply pw_below_drewN | apply below_drew1) | exact HB.out)) hb); clear HB; have HB := n0_; clear n0_; (try clear hb); (try clear hb2); (try clear hk); (try clear hi)))
    go_ret
    exact ⟨by first | rfl | (simp [errW_none, errW_some] <;> rfl) | (simp [*, errW_none, errW_some] <;> rfl), by repeat (first | (with_reducible first | exact HB.out | apply below_alloc | apply pw_below_drewN | apply below_drew1) | exact HB.out)⟩
end Go.Proofs.Ythplndalbfcbbaa.PA
set_option linter.unusedSimpArgs false
set_option linter.unusedVariables false
namespace Go.Proofs.Ythplndalbfcbbaa
open Go.RowKit Go.Proofs.YthplndalbfcbbaaW.PrintWords
def sameN (x y : Sy) : Bool := y.name.toList == x.name.toList
def firstN (x : Sy) : List Sy → Int → Int
  | [], _ => -1
  | y :: ys, k => if sameN x y = true then k else firstN x ys (k + 1)
theorem firstN_drop (x : Sy) (l : List Sy) (k : Nat) (h : k < l.length) : firstN x (l.drop k) k = if sameN x l[k] = true then (k : Int) else firstN x (l.drop (k + 1)) ((k + 1 : Nat) : Int) := by
  rw [List.drop_eq_getElem_cons h, firstN]; rfl
theorem firstN_any (x : Sy) : ∀ (l : List Sy) (k : Int), 0 ≤ k → decide (0 ≤ firstN x l k) = l.any (sameN x)
  | [], k, _ => by simp [firstN]
  | y :: ys, k, h => by
    have ih := firstN_any x ys (k + 1) (by omega)
    simp only [firstN, List.any_cons]
    split
    · rename_i hc; simp [hc, h]
    · rename_i hc
      rw [ih]
      have : sameN x y = false := by simpa using hc
      rw [this, Bool.false_or]
set_option maxHeartbeats 2000000 in
set_option maxRecDepth 100000 in
theorem indexS_calls (gs : List Sy) (x : Sy) (xb : Nat) (A : Nat → Prop) (s : Value) (w : World) (hs : Syms A w s gs) (hx : w.cell? ⟨xb, 0, none⟩ = some (.string x.name)) (hxl : xb < w.heap.size) :
    Calls Try.prog 191 #[s, .func (.func 162) #[] #[.pointer (some ⟨xb, 0, none⟩)]] w fun e w' => e = .returned (.int .i64 (firstN x gs 0)) ∧ Below w.heap.size w w' := by
  obtain ⟨a, c, rfl, hlc, hc⟩ := hs.shape
  have HX0 := hide hx
  clear hx
  have HG := hide (show firstN x (gs.drop 0) ((0 : Nat) : Int) = firstN x gs 0 by simp)
  go_enter Try.func191, Try.ntmps191
  go_wp2
  go_loopw [8] (fun i wr => ∃ (k : Nat), k ≤ gs.length ∧ i = .int .i64 k ∧ Hid (firstN x (gs.drop k) k = firstN x gs 0) ∧ Below w.heap.size w wr) (fun i _ => gs.length - (intOf i).toNat)
  case atStart => exact ⟨0, by omega, rfl, HG, Below.refl _ _⟩
  case round =>
    obtain ⟨k, hk, rfl, hx, hB⟩ := hrel
    by_cases hlt : k < gs.length
    · obtain ⟨b, off, rfl, g0, g1, g2, g3⟩ := hs.getW hB k hlt
      have HX2 := hide (hx.out.symm.trans (firstN_drop x _ _ hlt))
      have hbx := (hB.cell (p := ⟨xb, 0, none⟩) hxl).trans HX0.out
      have hxl2 : xb < wr.heap.size := Nat.lt_of_lt_of_le hxl hB.size
      have HC := fun y W hW hl => wcheck1_calls x y xb W hW hl
      clear hx
      go_wp2_with fail
      refine (wcheck1_calls x gs[k] xb _ (by first | exact hbx | exact (World.cell?_alloc_lt _ _ _ hxl2).trans hbx) (by first | exact hxl2 | (rw [World.size_alloc]; omega))).mono ?_
      rintro e w4 ⟨rfl, h4⟩
      have hB4 : Below w.heap.size w w4 := by first | exact more_below hB h4 | exact more_below (hB.alloc hB.size _) h4
      have HN := hide (show sameN x gs[k] = (gs[k].name.toList == x.name.toList) from rfl)
      generalize (gs[k].name.toList == x.name.toList) = q at *
      clear h4 hB g0 g1 g2 g3 hbx HC
      cases q
      · have HX := hide (show firstN x (gs.drop (k + 1)) ((k + 1 : Nat) : Int) = firstN x gs 0 by rw [HX2.out, HN.out]; rfl)
        clear HX2
        go_wp2
        go_roundw
        case rel => exact ⟨k + 1, by omega, by go_num, HX, hB4⟩
        case measure => simp [intOf]; omega
      · have HX := hide (show (k : Int) = firstN x gs 0 by rw [HX2.out, HN.out]; rfl)
        clear HX2
        go_wp2
        go_ret
        rw [← HX.out]
        exact ⟨rfl, hB4⟩
    · have HX := hide (show -1 = firstN x gs 0 by have := hx.out; rw [List.drop_of_length_le (by omega)] at this; simpa [firstN] using this)
      clear hx
      go_wp2
      go_ret
      rw [← HX.out]
      exact ⟨rfl, hB⟩
theorem containsS_calls (gs : List Sy) (x : Sy) (xb : Nat) (A : Nat → Prop) (s : Value) (w : World) (hs : Syms A w s gs) (hx : w.cell? ⟨xb, 0, none⟩ = some (.string x.name)) (hxl : xb < w.heap.size) :
    Calls Try.prog 161 #[s, .func (.func 162) #[] #[.pointer (some ⟨xb, 0, none⟩)]] w fun e w' => e = .returned (.bool (gs.any (sameN x))) ∧ Below w.heap.size w w' := by
  obtain ⟨a, c, rfl, hlc, hc⟩ := hs.shape
  have H9 := hide (firstN_any x gs 0 (by omega))
  have hi := indexS_calls gs x xb A _ w hs hx hxl
  clear hx
  go_enter Try.func161, Try.ntmps161
  go_wp2_with fail
  refine hi.mono ?_
  rintro e w1 ⟨rfl, h1⟩
  generalize firstN x gs 0 = q at *
  by_cases h0 : 0 ≤ q
  · have HY := hide (show true = gs.any (sameN x) by rw [← H9.out]; simp [h0])
    clear H9
    go_wp2
    go_ret
    rw [← HY.out]
    exact ⟨rfl, h1⟩
  · have HY := hide (show false = gs.any (sameN x) by rw [← H9.out]; simp [h0])
    clear H9
    go_wp2
    go_ret
    rw [← HY.out]
    exact ⟨by simp [h0], h1⟩
end Go.Proofs.Ythplndalbfcbbaa
set_option linter.unusedSimpArgs false
set_option linter.unusedVariables false
namespace Go.Proofs.Ythplndalbfcbbaa
open Go.RowKit Go.Proofs.YthplndalbfcbbaaW.PrintWords
def symOk (pre : List Sy) (x : Sy) : Bool :=
  !x.name.toList.isEmpty && (decide (x.name.size ≤ 64) && (!pre.any (sameN x) && (decide (0 ≤ x.ar) && (decide (x.ar ≤ 8) && (decide (1 ≤ x.wt) && decide (x.wt ≤ 1000))))))
def symsOk : List Sy → List Sy → Bool
  | _, [] => true
  | pre, x :: r => symOk pre x && symsOk (pre ++ [x]) r
def trueN : ByteArray := ⟨#[36, 116, 114, 117, 101]⟩
def isTrueS (x : Sy) : Bool := x.name.toList == trueN.toList && (x.ar == 0 && (x.wt == 1 && (x.tr == true)))
def weighC : List Sy → Int
  | [] => 1
  | x :: r => if r.length ≤ 255 ∧ isTrueS x = true ∧ symsOk [] (x :: r) = true then 0 else 1
theorem symsOk_drop (gs : List Sy) (k : Nat) (h : k < gs.length) : symsOk (gs.take k) (gs.drop k) = (symOk (gs.take k) gs[k] && symsOk (gs.take (k + 1)) (gs.drop (k + 1))) := by
  rw [List.drop_eq_getElem_cons h, symsOk, List.take_succ_eq_append_getElem h]
theorem eqSy (d : Nat) (w : World) (x0 y0 : ByteArray) (x1 y1 : Int) (x2 y2 : Int) (x3 y3 : Bool) :
    (Op.equalIn (d + 2) 148 (.agg #[.string x0, .int .i64 x1, .int .i64 x2, .bool x3]) (.agg #[.string y0, .int .i64 y1, .int .i64 y2, .bool y3])).run Try.prog w = .ok (x0.toList == y0.toList && (x1 == y1 && (x2 == y2 && (x3 == y3)))) w := by
  refine eqA_of Try.underlying148 (by kernel_rfl) ?_
  refine eqf_cons (by rfl) (by go_simp; rfl) (by go_simp; rfl) (by go_simp) ?_
  refine eqf_cons (by rfl) (by go_simp; rfl) (by go_simp; rfl) (by go_simp) ?_
  refine eqf_cons (by rfl) (by go_simp; rfl) (by go_simp; rfl) (by go_simp) ?_
  exact eqf_last (by rfl) (by go_simp; rfl) (by go_simp; rfl) (by go_simp)
theorem neqSy (w : World) (x : Sy) : (binOp .neq 148 (.agg #[.string x.name, .int .i64 x.ar, .int .i64 x.wt, .bool x.tr]) (.agg #[.string ⟨#[36, 116, 114, 117, 101]⟩, .int .i64 0, .int .i64 1, .bool true])).run Try.prog w = .ok (.bool (!isTrueS x)) w := by
  have h := eqSy (Op.maxDepth - 2) w x.name trueN x.ar 0 x.wt 1 x.tr true
  rw [show Op.maxDepth - 2 + 2 = Op.maxDepth from rfl] at h
  simp only [trueN] at h
  simp only [binOp, Op.equal, Sem.run_bind, h, Result.andThen]
  rfl
set_option maxHeartbeats 4000000 in
set_option maxRecDepth 100000 in
theorem weighc_calls (gs : List Sy) (A : Nat → Prop) (s : Value) (w : World) (hs : Syms A w s gs) :
    Calls Try.prog 126 #[s] w fun e w' => e = .returned (.int .i64 (weighC gs)) ∧ Below w.heap.size w w' := by
  obtain ⟨a, c, rfl, hlc, hc⟩ := hs.shape
  by_cases h0 : gs.length = 0
  · have HR := hide (show weighC gs = 1 by cases gs with | nil => rfl | cons x r => simp at h0)
    have h1 : (gs.length : Int) < 1 := by omega
    have hl0 : gs.length < 1 := by omega
    clear h0
    go_enter Try.func126, Try.ntmps126
    go_wp2
    go_ret
    exact ⟨ret_int HR.out.symm, Below.refl _ _⟩
  obtain ⟨b0, off0, ha, hbs, -, g0, g1, g2, g3⟩ := hs.get 0 (by omega)
  subst ha
  rw [show off0 + 0 * 4 = off0 by omega] at g0 g1 g2 g3
  by_cases h1 : 256 < gs.length
  · have HR := hide (show weighC gs = 1 by
      cases gs with
      | nil => rfl
      | cons x r => rw [weighC, if_neg]; simp only [List.length_cons] at h1; omega)
    have hp : 1 ≤ gs.length := by omega
    go_enter Try.func126, Try.ntmps126
    go_wp2
    go_ret
    exact ⟨ret_int HR.out.symm, Below.refl _ _⟩
  have hp : 0 < gs.length := by omega
  have hp1 : 1 ≤ gs.length := by omega
  have hu : gs.length ≤ 256 := by omega
  obtain ⟨x0, hx0⟩ : ∃ x, x = gs[0] := ⟨_, rfl⟩
  rw [← hx0] at g0 g1 g2 g3
  have HGS := hide hx0
  by_cases h2 : isTrueS x0 = true
  rotate_left
  · have HR := hide (show weighC gs = 1 by
      cases gs with
      | nil => rfl
      | cons x r => simp only [List.getElem_cons_zero] at hx0; rw [weighC, if_neg]; rw [← hx0]; exact fun h => h2 h.2.1)
    have hrun : ∀ W, (binOp .neq 148 (.agg #[.string x0.name, .int .i64 x0.ar, .int .i64 x0.wt, .bool x0.tr]) (.agg #[.string ⟨#[36, 116, 114, 117, 101]⟩, .int .i64 0, .int .i64 1, .bool true])).run Try.prog W = .ok (.bool true) W := fun W => by
      rw [neqSy]; simp [h2]
    clear h2 hx0 h0 h1
    go_enter Try.func126, Try.ntmps126
    go_wp2
    go_ret
    exact ⟨ret_int HR.out.symm, Below.refl _ _⟩
  have hrun : ∀ W, (binOp .neq 148 (.agg #[.string x0.name, .int .i64 x0.ar, .int .i64 x0.wt, .bool x0.tr]) (.agg #[.string ⟨#[36, 116, 114, 117, 101]⟩, .int .i64 0, .int .i64 1, .bool true])).run Try.prog W = .ok (.bool false) W := fun W => by
    rw [neqSy]; simp [h2]
  have HW := hide (show weighC gs = if symsOk [] gs = true then 0 else 1 by
    cases gs with
    | nil => simp at hp
    | cons x r =>
      simp only [List.getElem_cons_zero] at hx0
      simp only [List.length_cons] at hu
      rw [weighC]
      by_cases hq : symsOk [] (x :: r) = true
      · rw [if_pos hq, if_pos ⟨by omega, hx0 ▸ h2, hq⟩]
      · rw [if_neg hq, if_neg (fun h => hq h.2.2)])
  have HQ0 := hide (show symsOk (gs.take 0) (gs.drop 0) = symsOk [] gs by simp)
  clear h2 hx0 h0 h1 HGS
  have hpl : (0 : Int) < (gs.length : Int) := by omega
  go_enter Try.func126, Try.ntmps126
  go_wp2
  clear hrun
  go_loopw [23] (fun i wr => ∃ (k : Nat), k ≤ gs.length ∧ i = .int .i64 k ∧ Hid (symsOk (gs.take k) (gs.drop k) = symsOk [] gs) ∧ Below w.heap.size w wr) (fun i _ => gs.length - (intOf i).toNat)
  case atStart => exact ⟨0, by omega, rfl, HQ0, Below.refl _ _⟩
  case round =>
    obtain ⟨k, hk, rfl, hq, hB⟩ := hrel
    by_cases hlt : k < gs.length
    · obtain ⟨b, off, hab, q0, q1, q2, q3⟩ := hs.getW hB k hlt
      simp only [Option.some.injEq, Addr.mk.injEq, and_true] at hab
      obtain ⟨rfl, rfl⟩ := hab
      have hal : Below wr.heap.size wr (wr.alloc (.cells #[.string gs[k].name, .int .i64 gs[k].ar, .int .i64 gs[k].wt, .bool gs[k].tr] 148)) := (Below.refl _ _).alloc (Nat.le_refl _) _
      have kb := World.alloc_heap_new wr (.cells #[.string gs[k].name, .int .i64 gs[k].ar, .int .i64 gs[k].wt, .bool gs[k].tr] 148)
      have BA := more_below hB hal
      have hc0 := (box4 kb).1
      have hct := containsS_calls (gs.take k) gs[k] wr.heap.size A (.slice (some ⟨b0, off0, none⟩) k c) _ ((hs.below BA).take k hk) hc0 (by rw [World.size_alloc]; omega)
      have HST := hide (hq.out.symm.trans (symsOk_drop gs k hlt))
      have hkc : k ≤ c := by omega
      clear hq
      go_wp2_with fail
      refine hct.mono ?_
      rintro e w4 ⟨rfl, h4⟩
      have B4 := more_below BA h4
      have kb4 := (h4.block _ (by rw [World.size_alloc]; omega)).trans kb
      obtain ⟨z0, z1, z2, z3⟩ := box4 kb4
      generalize htw : (gs.take k).any (sameN gs[k]) = tw at *
      have HTW := hide htw
      clear htw hct kb hal BA h4 hc0 q0 q1 q2 q3 hB
      by_cases hi0 : gs[k].name.toList = []
      · have HF := hide (show symOk (gs.take k) gs[k] = false by
          simp [symOk, hi0])
        have HR := hide (show weighC gs = 1 by rw [HW.out, HST.out, HF.out]; rfl)
        have hi9 : gs[k].name.toList.isEmpty = true := by rw [hi0]; rfl
        go_wp2
        go_ret
        exact ⟨ret_int HR.out.symm, B4⟩
      have hi9 : (!gs[k].name.toList.isEmpty) = true := by cases hq9 : gs[k].name.toList with | nil => exact absurd hq9 hi0 | cons _ _ => rfl
      have hi8 : gs[k].name.toList.isEmpty = false := by simpa using hi9
      by_cases hi1 : 64 < gs[k].name.size
      · have HF := hide (show symOk (gs.take k) gs[k] = false by
          simp [symOk]; omega)
        have HR := hide (show weighC gs = 1 by rw [HW.out, HST.out, HF.out]; rfl)
        go_wp2
        go_ret
        exact ⟨ret_int HR.out.symm, B4⟩
      by_cases hi2 : tw = true
      · have HF := hide (show symOk (gs.take k) gs[k] = false by
          have h9 := HTW.out; rw [hi2] at h9; simp [symOk, ← h9])
        have HR := hide (show weighC gs = 1 by rw [HW.out, HST.out, HF.out]; rfl)
        subst hi2
        go_wp2
        go_ret
        exact ⟨ret_int HR.out.symm, B4⟩
      have hi2' : tw = false := by simpa using hi2
      subst hi2'
      clear hi2
      by_cases hi3 : gs[k].ar < 0
      · have HF := hide (show symOk (gs.take k) gs[k] = false by
          simp [symOk]; omega)
        have HR := hide (show weighC gs = 1 by rw [HW.out, HST.out, HF.out]; rfl)
        go_wp2
        go_ret
        exact ⟨ret_int HR.out.symm, B4⟩
      by_cases hi4 : 8 < gs[k].ar
      · have HF := hide (show symOk (gs.take k) gs[k] = false by
          simp [symOk]; omega)
        have HR := hide (show weighC gs = 1 by rw [HW.out, HST.out, HF.out]; rfl)
        go_wp2
        go_ret
        exact ⟨ret_int HR.out.symm, B4⟩
      by_cases hi5 : gs[k].wt < 1
      · have HF := hide (show symOk (gs.take k) gs[k] = false by
          simp [symOk]; omega)
        have HR := hide (show weighC gs = 1 by rw [HW.out, HST.out, HF.out]; rfl)
        go_wp2
        go_ret
        exact ⟨ret_int HR.out.symm, B4⟩
      by_cases hi6 : 1000 < gs[k].wt
      · have HF := hide (show symOk (gs.take k) gs[k] = false by
          simp [symOk]; omega)
        have HR := hide (show weighC gs = 1 by rw [HW.out, HST.out, HF.out]; rfl)
        go_wp2
        go_ret
        exact ⟨ret_int HR.out.symm, B4⟩
      have HF := hide (show symOk (gs.take k) gs[k] = true by
          have h9 := HTW.out
          have h8 : gs[k].name.toList.isEmpty = false := hi8
          simp only [symOk, h9, h8, Bool.not_false, Bool.true_and, Bool.and_eq_true, decide_eq_true_eq]
          omega)
      have HQ := hide (show symsOk (gs.take (k + 1)) (gs.drop (k + 1)) = symsOk [] gs by rw [HST.out, HF.out]; rfl)
      go_wp2
      go_roundw
      case rel => exact ⟨k + 1, by omega, by go_num, HQ, B4⟩
      case measure => simp [intOf]; omega
    · obtain rfl : k = gs.length := by omega
      have HR := hide (show weighC gs = 0 by
        have h9 := hq.out
        rw [List.drop_of_length_le (Nat.le_refl _), symsOk] at h9
        rw [HW.out, ← h9]; rfl)
      clear hq
      go_wp2
      go_ret
      exact ⟨ret_int HR.out.symm, hB⟩
end Go.Proofs.Ythplndalbfcbbaa
set_option linter.unusedSimpArgs false
set_option linter.unusedVariables false
namespace Go.Proofs.Ythplndalbfcbbaa
open Go.RowKit
def gAt (gs : List Sy) (h : Int) : Sy := gs.getD h.toNat ⟨⟨#[]⟩, 0, 0, false⟩
def unkP (gs : List Sy) (t : Tm) : Bool := !decide (t.h < 0) && (decide ((gs.length : Int) ≤ t.h) || decide ((t.args.length : Int) ≠ (gAt gs t.h).ar))
def mixP (gs : List Sy) (top : Bool) (t : Tm) : Bool := !decide (t.h < 0) && !unkP gs t && (gAt gs t.h).tr && !top
mutual
def unkT (gs : List Sy) : Tm → Bool
  | .node h l => unkP gs (.node h l) || unkL gs l
def unkL (gs : List Sy) : List Tm → Bool
  | [] => false
  | t :: ts => unkT gs t || unkL gs ts
end
mutual
def mixT (gs : List Sy) (top : Bool) : Tm → Bool
  | .node h l => mixP gs top (.node h l) || mixL gs l
def mixL (gs : List Sy) : List Tm → Bool
  | [] => false
  | t :: ts => mixT gs false t || mixL gs ts
end
theorem unkT_eq (gs : List Sy) (t : Tm) : unkT gs t = (unkP gs t || unkL gs t.args) := by cases t; rfl
theorem mixT_eq (gs : List Sy) (top : Bool) (t : Tm) : mixT gs top t = (mixP gs top t || mixL gs t.args) := by cases t; rfl
theorem unkL_take (gs : List Sy) (l : List Tm) (k : Nat) (h : k < l.length) : unkL gs (l.take (k + 1)) = (unkL gs (l.take k) || unkT gs l[k]) := by
  rw [List.take_succ_eq_append_getElem h]
  generalize l.take k = m
  induction m with
  | nil => simp [unkL]
  | cons x m ih => simp only [List.cons_append, unkL, ih, Bool.or_assoc]
theorem mixL_take (gs : List Sy) (l : List Tm) (k : Nat) (h : k < l.length) : mixL gs (l.take (k + 1)) = (mixL gs (l.take k) || mixT gs false l[k]) := by
  rw [List.take_succ_eq_append_getElem h]
  generalize l.take k = m
  induction m with
  | nil => simp [mixL]
  | cons x m ih => simp only [List.cons_append, mixL, ih, Bool.or_assoc]
structure SeeAt (A : Nat → Prop) (w : World) (gs : List Sy) (pg pu pm : Nat) (sg : Value) (u m : Bool) : Prop where
  g : w.heap[pg]? = some (.cells #[sg] 62 (0, 0))
  u : w.heap[pu]? = some (.cells #[.bool u] 4 (0, 0))
  m : w.heap[pm]? = some (.cells #[.bool m] 4 (0, 0))
  gs : Syms (fun b => b = pu ∨ b = pm ∨ A b) w sg gs
  ne : pu ≠ pm ∧ pg ≠ pu ∧ pg ≠ pm
theorem SeeAt.below {A : Nat → Prop} {w w' : World} {gs : List Sy} {pg pu pm : Nat} {sg : Value} {u m : Bool} (h : SeeAt A w gs pg pu pm sg u m) (hB : Below w.heap.size w w') : SeeAt A w' gs pg pu pm sg u m :=
  ⟨(hB.block _ (Array.getElem?_eq_some_iff.1 h.g).1).trans h.g, (hB.block _ (Array.getElem?_eq_some_iff.1 h.u).1).trans h.u, (hB.block _ (Array.getElem?_eq_some_iff.1 h.m).1).trans h.m, h.gs.below hB, h.ne⟩
theorem SeeAt.lt {A : Nat → Prop} {w : World} {gs : List Sy} {pg pu pm : Nat} {sg : Value} {u m : Bool} (h : SeeAt A w gs pg pu pm sg u m) : pg < w.heap.size ∧ pu < w.heap.size ∧ pm < w.heap.size :=
  ⟨(Array.getElem?_eq_some_iff.1 h.g).1, (Array.getElem?_eq_some_iff.1 h.u).1, (Array.getElem?_eq_some_iff.1 h.m).1⟩
theorem SeeAt.setU {A : Nat → Prop} {w : World} {gs : List Sy} {pg pu pm : Nat} {sg : Value} {u m : Bool} (h : SeeAt A w gs pg pu pm sg u m) (b : Bool) : SeeAt A (w.setCell ⟨pu, 0, none⟩ (.bool b)) gs pg pu pm sg b m := by
  have hk : Keep (fun c => c ≠ pu) w (w.setCell ⟨pu, 0, none⟩ (.bool b)) := (Keep.refl _ _).setCell (p := ⟨pu, 0, none⟩) (by simp) _
  exact ⟨hk.obj h.ne.2.1 h.g, setCell_box h.u _, hk.obj (Ne.symm h.ne.1) h.m, RepD.frame (fun b hb hlt => hk.block b hlt fun e => hb (.inl e)) (fun _ _ h => h) _ _ h.gs, h.ne⟩
theorem SeeAt.setM {A : Nat → Prop} {w : World} {gs : List Sy} {pg pu pm : Nat} {sg : Value} {u m : Bool} (h : SeeAt A w gs pg pu pm sg u m) (b : Bool) : SeeAt A (w.setCell ⟨pm, 0, none⟩ (.bool b)) gs pg pu pm sg u b := by
  have hk : Keep (fun c => c ≠ pm) w (w.setCell ⟨pm, 0, none⟩ (.bool b)) := (Keep.refl _ _).setCell (p := ⟨pm, 0, none⟩) (by simp) _
  exact ⟨hk.obj h.ne.2.2 h.g, hk.obj h.ne.1 h.u, setCell_box h.m _, RepD.frame (fun b hb hlt => hk.block b hlt fun e => hb (.inr (.inl e))) (fun _ _ h => h) _ _ h.gs, h.ne⟩
def SeePost (A : Nat → Prop) (gs : List Sy) (pg pu pm : Nat) (sg : Value) (u m : Bool) (w : World) (e : Ending) (w' : World) : Prop :=
  e = .returned (.tuple #[]) ∧ SeeAt A w' gs pg pu pm sg u m ∧ Keep (fun b => b ≠ pu ∧ b ≠ pm) w w'
set_option maxHeartbeats 4000000 in
set_option maxRecDepth 100000 in
theorem see_calls (gs : List Sy) (A : Nat → Prop) (pg pu pm : Nat) (sg : Value) (u m top : Bool) (t : Tm) (a : Option Addr) (c : Nat) (w : World) (hl : t.args.length ≤ 9223372036854775807) (hsee : SeeAt A w gs pg pu pm sg u m) :
    Calls Try.prog 211 #[.agg #[.int .i64 t.h, .slice a t.args.length c], .bool top, .pointer (some ⟨pg, 0, none⟩), .pointer (some ⟨pu, 0, none⟩), .pointer (some ⟨pm, 0, none⟩)] w fun e w' => SeePost A gs pg pu pm sg (u || unkP gs t) (m || mixP gs top t) w e w' := by
  have hB : Below w.heap.size w (w.alloc (.cells #[.int .i64 t.h, .slice a t.args.length c] 25)) := (Below.refl _ _).alloc (Nat.le_refl _) _
  have kb := World.alloc_heap_new w (.cells #[.int .i64 t.h, .slice a t.args.length c] 25)
  have HSE := hide (hsee.below hB)
  have hk0 : Keep (fun b => b ≠ pu ∧ b ≠ pm) w (w.alloc (.cells #[.int .i64 t.h, .slice a t.args.length c] 25)) := (Keep.refl _ _).alloc _
  have HK0 := hide hk0
  obtain ⟨-, z0, z1, -, -⟩ := box2 kb
  have HKB := hide kb
  clear hsee hB kb hk0
  by_cases h0 : t.h < 0
  · have HU := hide (show unkP gs t = false by simp [unkP, h0])
    have HM := hide (show mixP gs top t = false by simp [mixP, h0])
    go_enter Try.func211, Try.ntmps211
    go_wp2
    refine bodyPost_end (results_none rfl _ _ _) rfl ⟨rfl, ?_, HK0.out⟩
    rw [HU.out, HM.out, Bool.or_false, Bool.or_false]; exact HSE.out
  obtain ⟨ag, cg, hsg, hcl, hcl'⟩ := HSE.out.gs.shape
  subst hsg
  have y0 := (box1 HSE.out.g).2.1
  by_cases h1 : (gs.length : Int) ≤ t.h
  · have HU := hide (show unkP gs t = true by simp [unkP, h1]; omega)
    have HM := hide (show mixP gs top t = false by simp [mixP, HU.out])
    have hge : (gs.length : Int) ≤ t.h := h1
    have hd : decide ((gs.length : Int) ≤ t.h) = true := by simpa using h1
    generalize hW : w.alloc (.cells #[.int .i64 t.h, .slice a t.args.length c] 25) = W at *
    go_enter Try.func211, Try.ntmps211
    go_wp2_with fail
    refine drawn_mix (fun W' => W'.cell? ⟨w.heap.size, 0, none⟩ = some (.int .i64 t.h) ∧ W'.cell? ⟨w.heap.size, 1, none⟩ = some (.slice a t.args.length c) ∧ W'.cell? ⟨pg, 0, none⟩ = some (.slice ag gs.length cg) ∧ True) [.take 0, .take 1, .take 2, .take 3, .take 4, .take 5, .take 6, .take 7, .take 8, .take 9, .take 10, .take 11, .take 12, .take 13, .take 14, .take 15, .take 16, .take 17] (by kernel_rfl) (by kernel_rfl) (by kernel_rfl) (by kernel_rfl) (fun _ _ _ _ _ h => h) ?_ ?_
    · exact ⟨by go_simp, by go_simp, by go_simp, trivial⟩
    iterate 6 (refine m_take (v := ?_) rfl (by rfl) ?_ ?_; rotate_left; (intro w hS; obtain ⟨hS1, hS2, hS3, hS4⟩ := hS; go_simp; try with_reducible rfl); simp only [Act.put, List.setIfInBounds_toArray, List.set_cons_zero, List.set_cons_succ])
    iterate 10 (refine m_skip rfl (by rfl) ?_; simp only [Act.put, List.setIfInBounds_toArray, List.set_cons_zero, List.set_cons_succ])
    iterate 2 (refine m_take (v := ?_) rfl (by rfl) ?_ ?_; rotate_left; (intro w hS; obtain ⟨hS1, hS2, hS3, hS4⟩ := hS; go_simp; try with_reducible rfl); simp only [Act.put, List.setIfInBounds_toArray, List.set_cons_zero, List.set_cons_succ])
    refine m_done ?_
    have HS2 := hide (HSE.out.below (Below.refl _ _).drew)
    have HK2 := hide (HK0.out.trans (Keep.of_below (S := fun b => b ≠ pu ∧ b ≠ pm) (Below.refl W.heap.size W).drew))
    obtain ⟨-, x1, x2⟩ := box1 HS2.out.u
    clear y0 z0 z1
    generalize W.drew = W2 at *
    go_wp2
    refine bodyPost_end (results_none rfl _ _ _) rfl ⟨rfl, ?_, HK2.out.trans ((Keep.refl _ _).setCell (p := ⟨pu, 0, none⟩) (by simp) _ |>.mono fun b _ hb => hb)⟩
    rw [HU.out, HM.out, Bool.or_false, Bool.or_true]
    exact HS2.out.setU true
  · have hlt : t.h.toNat < gs.length := by omega
    obtain ⟨bg, og, hag, hbl, hbA, q0, q1, q2, q3⟩ := HSE.out.gs.get t.h.toNat hlt
    subst hag
    have hga : gAt gs t.h = gs[t.h.toNat] := by simp [gAt, hlt]
    have HGA := hide hga
    have hn1 : t.h < (gs.length : Int) := by omega
    have hd : decide ((gs.length : Int) ≤ t.h) = false := by simpa using h1
    have hn0 : 0 ≤ t.h := by omega
    generalize hW : w.alloc (.cells #[.int .i64 t.h, .slice a t.args.length c] 25) = W at *
    by_cases h2 : (t.args.length : Int) = gs[t.h.toNat].ar
    · have hdn : ((t.args.length : Int) != gs[t.h.toNat].ar) = false := by simpa using h2
      have HU := hide (show unkP gs t = false by simp [unkP, HGA.out, h0, h1, h2])
      clear h2
      go_enter Try.func211, Try.ntmps211
      go_wp2_with fail
      refine drawn_mix (fun W' => W'.cell? ⟨w.heap.size, 0, none⟩ = some (.int .i64 t.h) ∧ W'.cell? ⟨w.heap.size, 1, none⟩ = some (.slice a t.args.length c) ∧ W'.cell? ⟨pg, 0, none⟩ = some (.slice (some ⟨bg, og, none⟩) gs.length cg) ∧ W'.cell? ⟨bg, og + t.h.toNat * 4 + 1, none⟩ = some (.int .i64 gs[t.h.toNat].ar)) [.take 0, .take 1, .take 2, .take 3, .take 4, .take 5, .take 6, .take 7, .take 8, .take 9, .take 10, .take 11, .take 12, .take 13, .take 14, .take 15, .take 16, .take 17] (by kernel_rfl) (by kernel_rfl) (by kernel_rfl) (by kernel_rfl) (fun _ _ _ _ _ h => h) ?_ ?_
      · exact ⟨by go_simp, by go_simp, by go_simp, by go_simp⟩
      iterate 18 (refine m_take (v := ?_) rfl (by rfl) ?_ ?_; rotate_left; (intro w hS; obtain ⟨hS1, hS2, hS3, hS4⟩ := hS; go_simp; try with_reducible rfl); simp only [Act.put, List.setIfInBounds_toArray, List.set_cons_zero, List.set_cons_succ])
      refine m_done ?_
      have HS2 := hide (HSE.out.below (Below.refl _ _).drew)
      have HK2 := hide (HK0.out.trans (Keep.of_below (S := fun b => b ≠ pu ∧ b ≠ pm) (Below.refl W.heap.size W).drew))
      have u0 : W.drew.cell? ⟨w.heap.size, 0, none⟩ = some (.int .i64 t.h) := by go_simp
      have u1 : W.drew.cell? ⟨pg, 0, none⟩ = some (.slice (some ⟨bg, og, none⟩) gs.length cg) := by go_simp
      have u2 : W.drew.cell? ⟨bg, og + t.h.toNat * 4 + 3, none⟩ = some (.bool gs[t.h.toNat].tr) := by go_simp
      obtain ⟨-, x1, x2⟩ := box1 HS2.out.m
      clear y0 z0 z1 q0 q1 q2 q3
      generalize W.drew = W2 at *
      generalize htr : gs[t.h.toNat].tr = tr at *
      have HTR := hide htr
      clear htr
      cases tr
      · have HM := hide (show mixP gs top t = false by simp [mixP, HGA.out, HTR.out])
        go_wp2
        refine bodyPost_end (results_none rfl _ _ _) rfl ⟨rfl, ?_, HK2.out⟩
        rw [HU.out, HM.out, Bool.or_false, Bool.or_false]; exact HS2.out
      · cases top
        · have HM := hide (show mixP gs false t = true by simp [mixP, HU.out, HGA.out, HTR.out]; omega)
          go_wp2
          refine bodyPost_end (results_none rfl _ _ _) rfl ⟨rfl, ?_, HK2.out.trans ((Keep.refl _ _).setCell (p := ⟨pm, 0, none⟩) (by simp) _ |>.mono fun b _ hb => hb)⟩
          rw [HU.out, HM.out, Bool.or_false, Bool.or_true]
          exact HS2.out.setM true
        · have HM := hide (show mixP gs true t = false by simp [mixP])
          go_wp2
          refine bodyPost_end (results_none rfl _ _ _) rfl ⟨rfl, ?_, HK2.out⟩
          rw [HU.out, HM.out, Bool.or_false, Bool.or_false]; exact HS2.out
    · have hdn : ((t.args.length : Int) != gs[t.h.toNat].ar) = true := by simpa using h2
      have HU := hide (show unkP gs t = true by simp [unkP, HGA.out, h2]; omega)
      have HM := hide (show mixP gs top t = false by simp [mixP, HU.out])
      clear h2
      go_enter Try.func211, Try.ntmps211
      go_wp2_with fail
      refine drawn_mix (fun W' => W'.cell? ⟨w.heap.size, 0, none⟩ = some (.int .i64 t.h) ∧ W'.cell? ⟨w.heap.size, 1, none⟩ = some (.slice a t.args.length c) ∧ W'.cell? ⟨pg, 0, none⟩ = some (.slice (some ⟨bg, og, none⟩) gs.length cg) ∧ W'.cell? ⟨bg, og + t.h.toNat * 4 + 1, none⟩ = some (.int .i64 gs[t.h.toNat].ar)) [.take 0, .take 1, .take 2, .take 3, .take 4, .take 5, .take 6, .take 7, .take 8, .take 9, .take 10, .take 11, .take 12, .take 13, .take 14, .take 15, .take 16, .take 17] (by kernel_rfl) (by kernel_rfl) (by kernel_rfl) (by kernel_rfl) (fun _ _ _ _ _ h => h) ?_ ?_
      · exact ⟨by go_simp, by go_simp, by go_simp, by go_simp⟩
      iterate 18 (refine m_take (v := ?_) rfl (by rfl) ?_ ?_; rotate_left; (intro w hS; obtain ⟨hS1, hS2, hS3, hS4⟩ := hS; go_simp; try with_reducible rfl); simp only [Act.put, List.setIfInBounds_toArray, List.set_cons_zero, List.set_cons_succ])
      refine m_done ?_
      have HS2 := hide (HSE.out.below (Below.refl _ _).drew)
      have HK2 := hide (HK0.out.trans (Keep.of_below (S := fun b => b ≠ pu ∧ b ≠ pm) (Below.refl W.heap.size W).drew))
      have u0 : W.drew.cell? ⟨w.heap.size, 0, none⟩ = some (.int .i64 t.h) := by go_simp
      have u1 : W.drew.cell? ⟨pg, 0, none⟩ = some (.slice (some ⟨bg, og, none⟩) gs.length cg) := by go_simp
      have u2 : W.drew.cell? ⟨bg, og + t.h.toNat * 4 + 3, none⟩ = some (.bool gs[t.h.toNat].tr) := by go_simp
      obtain ⟨-, x1, x2⟩ := box1 HS2.out.u
      clear y0 z0 z1 q0 q1 q2 q3
      generalize W.drew = W2 at *
      go_wp2
      refine bodyPost_end (results_none rfl _ _ _) rfl ⟨rfl, ?_, HK2.out.trans ((Keep.refl _ _).setCell (p := ⟨pu, 0, none⟩) (by simp) _ |>.mono fun b _ hb => hb)⟩
      rw [HU.out, HM.out, Bool.or_false, Bool.or_true]
      exact HS2.out.setU true
theorem Terms.keepS {A S : Nat → Prop} {w w' : World} {s : Value} {ts : List Tm} (h : Terms A w s ts) (hk : Keep S w w') (hS : ∀ b, b < w.heap.size → ¬ A b → S b) : Terms A w' s ts :=
  RepD.frame (fun b hb hlt => hk.block b hlt (hS b hlt hb)) (fun _ _ h => h) _ _ h
set_option maxHeartbeats 4000000 in
set_option maxRecDepth 100000 in
theorem wwalk_calls (gs : List Sy) (A : Nat → Prop) (pg pu pm : Nat) (sg : Value) (n0 : Nat) : ∀ (t : Tm) (top u m : Bool) (h : Int) (s : Value) (w : World), t.size ≤ n0 → IsTm (fun b => b = pu ∨ b = pm) w h s t → SeeAt A w gs pg pu pm sg u m →
    Calls Try.prog 210 #[.agg #[.int .i64 h, s], .bool top, .func (.func 211) #[] #[.pointer (some ⟨pg, 0, none⟩), .pointer (some ⟨pu, 0, none⟩), .pointer (some ⟨pm, 0, none⟩)]] w fun e w' => SeePost A gs pg pu pm sg (u || unkT gs t) (m || mixT gs top t) w e w' := by
  induction n0 with
  | zero => intro t _ _ _ _ _ _ ht; have := t.size_eq; omega
  | succ n0 ih =>
    rintro t top u m h s w ht hs hsee
    obtain ⟨rfl, a, c, rfl, hlc, hc⟩ := hs.shape
    have hsz := hide t.size_eq
    have hB : Below w.heap.size w (w.alloc (.cells #[.int .i64 t.h, .slice a t.args.length c] 25)) := (Below.refl _ _).alloc (Nat.le_refl _) _
    have kb := World.alloc_heap_new w (.cells #[.int .i64 t.h, .slice a t.args.length c] 25)
    have HSE := hide (hsee.below hB)
    have HTS := hide (hs.2.below hB)
    have hk0 : Keep (fun b => b ≠ pu ∧ b ≠ pm) w (w.alloc (.cells #[.int .i64 t.h, .slice a t.args.length c] 25)) := (Keep.refl _ _).alloc _
    have HK0 := hide hk0
    have hlt0 := hsee.lt
    have hbn : w.heap.size ≠ pu ∧ w.heap.size ≠ pm := by omega
    have HKB := hide kb
    obtain ⟨-, z0, z1, -, -⟩ := box2 kb
    clear hs hsee hB kb hk0 hlt0
    go_enter Try.func210, Try.ntmps210
    go_wp2_with fail
    generalize w.alloc (.cells #[.int .i64 t.h, .slice a t.args.length c] 25) = W at *
    refine (see_calls gs A pg pu pm sg u m top t a c W hc HSE.out).mono ?_
    rintro e w1 ⟨rfl, s1, k1⟩
    have HS1 := hide s1
    have HK1 := hide (HK0.out.trans k1)
    have HT1 := hide (HTS.out.keepS k1 fun b _ hb => by simpa [not_or] using hb)
    obtain ⟨-, y0, y1, -, -⟩ := box2 (k1.obj hbn HKB.out)
    clear s1 k1 z0 z1 HSE HTS HK0 HKB
    go_wp2
    go_loopw [15] (fun i wr => ∃ (k : Nat), k ≤ t.args.length ∧ i = .int .i64 k ∧ Hid (SeeAt A wr gs pg pu pm sg (u || unkP gs t || unkL gs (t.args.take k)) (m || mixP gs top t || mixL gs (t.args.take k))) ∧ Hid (Keep (fun b => b ≠ pu ∧ b ≠ pm) w wr) ∧ Hid (Terms (fun b => b = pu ∨ b = pm) wr (.slice a t.args.length c) t.args)) (fun i _ => t.args.length - (intOf i).toNat)
    case atStart => exact ⟨0, by omega, rfl, by simpa [unkL, mixL] using HS1, HK1, HT1⟩
    case round =>
      obtain ⟨k, hk, rfl, hse, hkp, hts⟩ := hrel
      by_cases hlt : k < t.args.length
      · obtain ⟨b, off, a', c', rfl, hbs, hbA, g0, g1, gt⟩ := hts.out.get k hlt
        have hk2 := Tm.size_get t.args k hlt
        have hn : t.args[k].size ≤ n0 := by have := hsz.out; omega
        have HU := hide (unkL_take gs t.args k hlt)
        have HM := hide (mixL_take gs t.args k hlt)
        have hal : Below wr.heap.size wr (wr.alloc (.cells #[.int .i64 t.args[k].h, .slice a' t.args[k].args.length c'] 25)) := (Below.refl _ _).alloc (Nat.le_refl _) _
        have HSE2 := hide (hse.out.below hal)
        have HT2 := hide (hts.out.below hal)
        have HG := hide (gt.below hal)
        have HK2 := hide (hkp.out.alloc (.cells #[.int .i64 t.args[k].h, .slice a' t.args[k].args.length c'] 25))
        clear hal gt hse hts hkp
        go_wp2_with fail
        generalize wr.alloc (.cells #[.int .i64 t.args[k].h, .slice a' t.args[k].args.length c'] 25) = W2 at *
        refine (ih t.args[k] false _ _ _ _ W2 hn ⟨rfl, HG.out⟩ HSE2.out).mono ?_
        rintro e w4 ⟨rfl, s4, k4⟩
        have HS4 := hide s4
        have HK4 := hide (HK2.out.trans k4)
        have HT4 := hide (HT2.out.keepS k4 fun b _ hb => by simpa [not_or] using hb)
        clear s4 k4 g0 g1
        go_wp2
        go_roundw
        case rel => exact ⟨k + 1, by omega, by go_num, hide (by rw [HU.out, HM.out, ← Bool.or_assoc, ← Bool.or_assoc]; exact HS4.out), HK4, HT4⟩
        case measure => simp [intOf]; omega
      · obtain rfl : k = t.args.length := by omega
        have HR := hide (show SeePost A gs pg pu pm sg (u || unkT gs t) (m || mixT gs top t) w (.returned (.tuple #[])) wr from ⟨rfl, by
          have h9 := hse.out
          rw [List.take_length] at h9
          rw [unkT_eq, mixT_eq, ← Bool.or_assoc, ← Bool.or_assoc]; exact h9, hkp.out⟩)
        clear hse hkp hts
        go_wp2
        exact bodyPost_end (results_none rfl _ _ _) rfl HR.out
def termC (gs : List Sy) (t : Tm) : Int := if weighC gs ≠ 0 then weighC gs else if chk t ≠ 0 then chk t else if unkT gs t = true then 1 else if mixT gs true t = true then 10 else 0
set_option maxHeartbeats 4000000 in
set_option maxRecDepth 100000 in
theorem wterm_calls (gs : List Sy) (t : Tm) (A B : Nat → Prop) (h : Int) (s sg : Value) (w : World) (ht9 : t.size ≤ 1000000000) (hg : Syms A w sg gs) (hs : IsTm B w h s t) :
    Calls Try.prog 204 #[sg, .agg #[.int .i64 h, s]] w fun e w' => e = .returned (.int .i64 (termC gs t)) ∧ Below w.heap.size w w' := by
  obtain ⟨rfl, a, c, rfl, hlc, hc⟩ := hs.shape
  obtain ⟨ag, cg, rfl, hgl, hgc⟩ := hg.shape
  have hB : Below w.heap.size w (allocs w [.cells #[.slice ag gs.length cg] 62, .cells #[.int .i64 t.h, .slice a t.args.length c] 25]) := allocs_below _ _
  have hz : (allocs w [.cells #[.slice ag gs.length cg] 62, .cells #[.int .i64 t.h, .slice a t.args.length c] 25]).heap.size = w.heap.size + 2 := allocs_size _ _
  have b0 : (allocs w [.cells #[.slice ag gs.length cg] 62, .cells #[.int .i64 t.h, .slice a t.args.length c] 25]).heap[w.heap.size]? = some (.cells #[.slice ag gs.length cg] 62 (0, 0)) := allocs_get _ _ 0 _ rfl
  have b1 : (allocs w [.cells #[.slice ag gs.length cg] 62, .cells #[.int .i64 t.h, .slice a t.args.length c] 25]).heap[w.heap.size + 1]? = some (.cells #[.int .i64 t.h, .slice a t.args.length c] 25 (0, 0)) := allocs_get _ _ 1 _ rfl
  have HG0 := hide (hg.below hB)
  have HT0 := hide (hs.below hB)
  have HB0 := hide b0
  have HB1 := hide b1
  have HBL := hide hB
  go_enter Try.func204, Try.ntmps204
  have hgen : (w.alloc (.cells #[.slice ag gs.length cg] 62)).alloc (.cells #[.int .i64 t.h, .slice a t.args.length c] 25) = allocs w [.cells #[.slice ag gs.length cg] 62, .cells #[.int .i64 t.h, .slice a t.args.length c] 25] := rfl
  have z0 := (box1 b0).2.1
  clear hB b0 b1 hg hs
  go_wp2_with fail
  clear hgen
  generalize allocs w [.cells #[.slice ag gs.length cg] 62, .cells #[.int .i64 t.h, .slice a t.args.length c] 25] = W at *
  clear z0
  refine (weighc_calls gs A _ W HG0.out).mono ?_
  rintro e w1 ⟨rfl, h1⟩
  have HBL1 := hide (HBL.out.trans (h1.mono HBL.out.size))
  have c0 := (h1.block _ (by omega)).trans HB0.out
  have c1 := (h1.block _ (by omega)).trans HB1.out
  have HG1 := hide (HG0.out.below h1)
  have HT1 := hide (HT0.out.below h1)
  have hz1 := h1.size
  have HC0 := hide c0
  have HC1 := hide c1
  obtain ⟨-, q0, q1, -, -⟩ := box2 c1
  have HTC := hide (show termC gs t = if weighC gs ≠ 0 then weighC gs else if chk t ≠ 0 then chk t else if unkT gs t = true then 1 else if mixT gs true t = true then 10 else 0 from rfl)
  generalize weighC gs = wc at *
  clear h1 c0 c1 HG0 HT0 HB0 HB1 HBL
  by_cases hw : wc = 0
  rotate_left
  · have HR := hide (show termC gs t = wc by rw [HTC.out, if_pos hw])
    have hne : (wc != 0) = true := by simpa using hw
    clear HTC hw
    go_wp2
    go_ret
    exact ⟨ret_int HR.out.symm, HBL1.out⟩
  subst hw
  go_wp2_with fail
  refine (check_calls t B _ _ w1 HT1.out ht9).mono ?_
  rintro e w2 ⟨rfl, h2⟩
  have HBL2 := hide (more_below HBL1.out h2)
  have c1 := (h2.block _ (by omega)).trans HC1.out
  have HC2 := hide ((h2.block _ (by omega)).trans HC0.out)
  have HG2 := hide (HG1.out.below h2)
  have HT2 := hide (HT1.out.below h2)
  have hz2 := h2.size
  clear q0 q1
  obtain ⟨-, q0, q1, -, -⟩ := box2 c1
  generalize chk t = ct at *
  clear h2 HG1 HT1 HC0 HC1 HBL1
  by_cases hw : ct = 0
  rotate_left
  · have HR := hide (show termC gs t = ct by rw [HTC.out, if_neg (by simp), if_pos hw])
    have hne : (ct != 0) = true := by simpa using hw
    clear HTC hw c1
    go_wp2
    go_ret
    exact ⟨ret_int HR.out.symm, HBL2.out⟩
  subst hw
  have hB3 : Below w2.heap.size w2 (allocs w2 [.cells #[.bool false] 4, .cells #[.bool false] 4]) := allocs_below _ _
  have HB3 := hide hB3
  have hz3 : (allocs w2 [.cells #[.bool false] 4, .cells #[.bool false] 4]).heap.size = w2.heap.size + 2 := allocs_size _ _
  have HSE := hide (show SeeAt A (allocs w2 [.cells #[.bool false] 4, .cells #[.bool false] 4]) gs w.heap.size w2.heap.size (w2.heap.size + 1) (.slice ag gs.length cg) false false from
    ⟨(hB3.block _ (by omega)).trans HC2.out, allocs_get _ _ 0 _ rfl, allocs_get _ _ 1 _ rfl, RepD.frame (fun b _ hlt => hB3.block b hlt) (fun b hb h => by
      rcases h with h | h | h
      · omega
      · omega
      · exact h) _ _ HG2.out, by omega⟩)
  have HTM := hide (show IsTm (fun b => b = w2.heap.size ∨ b = w2.heap.size + 1) (allocs w2 [.cells #[.bool false] 4, .cells #[.bool false] 4]) t.h (.slice a t.args.length c) t from
    ⟨rfl, RepD.frame (fun b _ hlt => hB3.block b hlt) (fun b hb h => by exfalso; rcases h with h | h <;> omega) _ _ (RepD.bar (B := fun _ => False) HT2.out.2 fun _ _ h => h.elim)⟩)
  have c2 := (hB3.block _ (by omega)).trans c1
  obtain ⟨-, r0, r1, -, -⟩ := box2 c2
  have hgen : (w2.alloc (.cells #[.bool false] 4)).alloc (.cells #[.bool false] 4) = allocs w2 [.cells #[.bool false] 4, .cells #[.bool false] 4] := rfl
  obtain ⟨-, x1, x2⟩ := box1 HSE.out.u
  obtain ⟨-, y1, y2⟩ := box1 HSE.out.m
  have hkB := hide (Keep.of_below (S := fun b => b ≠ w2.heap.size ∧ b ≠ w2.heap.size + 1) hB3)
  have HS2 := hide ((HSE.out.setU false).setM false)
  have hk2 : Keep (fun b => b ≠ w2.heap.size ∧ b ≠ w2.heap.size + 1) (allocs w2 [.cells #[.bool false] 4, .cells #[.bool false] 4]) (((allocs w2 [.cells #[.bool false] 4, .cells #[.bool false] 4]).setCell ⟨w2.heap.size, 0, none⟩ (.bool false)).setCell ⟨w2.heap.size + 1, 0, none⟩ (.bool false)) :=
    ((Keep.refl _ _).setCell (p := ⟨w2.heap.size, 0, none⟩) (by simp) _).setCell (p := ⟨w2.heap.size + 1, 0, none⟩) (by simp) _
  have HT3 := hide (show IsTm _ _ t.h _ t from ⟨rfl, HTM.out.2.keepS hk2 fun b _ hb => by simpa [not_or] using hb⟩)
  have HKA := hide (hkB.out.trans (Keep.trans (Keep.refl _ _) hk2))
  clear c1 c2 q0 q1 hB3 hk2 HSE HTM HC2 HG2 HT2
  go_wp2_with fail
  clear r0 r1 x1 x2 y1 y2 hgen
  generalize ((allocs w2 [.cells #[.bool false] 4, .cells #[.bool false] 4]).setCell ⟨w2.heap.size, 0, none⟩ (.bool false)).setCell ⟨w2.heap.size + 1, 0, none⟩ (.bool false) = W3 at *
  clear hz3 HB3 hkB
  refine (wwalk_calls gs A w.heap.size w2.heap.size (w2.heap.size + 1) _ t.size t true false false _ _ W3 (Nat.le_refl _) HT3.out HS2.out).mono ?_
  rintro e w4 ⟨rfl, s4, k4⟩
  have HB4 := hide (more_below HBL2.out ((HKA.out.trans k4).below (B := w2.heap.size) (fun b hb => by omega) (Nat.le_refl _)))
  have u1 := (box1 s4.u).2.1
  have m1 := (box1 s4.m).2.1
  rw [Bool.false_or] at u1 m1
  clear s4 k4 HS2 HT3 HKA HBL2
  generalize unkT gs t = bu at *
  generalize mixT gs true t = bm at *
  cases bu
  · cases bm
    · have HR := hide (show termC gs t = 0 by rw [HTC.out]; simp)
      clear HTC
      go_wp2
      go_ret
      exact ⟨ret_int HR.out.symm, HB4.out⟩
    · have HR := hide (show termC gs t = 10 by rw [HTC.out]; simp)
      clear HTC
      go_wp2
      go_ret
      exact ⟨ret_int HR.out.symm, HB4.out⟩
  · have HR := hide (show termC gs t = 1 by rw [HTC.out]; simp)
    clear HTC
    go_wp2
    go_ret
    exact ⟨ret_int HR.out.symm, HB4.out⟩
end Go.Proofs.Ythplndalbfcbbaa
set_option linter.unusedSimpArgs false
set_option linter.unusedVariables false
namespace Go.Proofs.Ythplndalbfcbbaa
open Go.RowKit
theorem box6 {w : World} {b : Nat} {x y z u v q : Value} {t : TypeId} (h : w.heap[b]? = some (.cells #[x, y, z, u, v, q] t (0, 0))) :
    w.cell? ⟨b, 0, none⟩ = some x ∧ w.cell? ⟨b, 1, none⟩ = some y ∧ w.cell? ⟨b, 2, none⟩ = some z ∧ w.cell? ⟨b, 3, none⟩ = some u ∧ w.cell? ⟨b, 4, none⟩ = some v ∧ w.cell? ⟨b, 5, none⟩ = some q :=
  ⟨by simp [World.cell?, h], by simp [World.cell?, h], by simp [World.cell?, h], by simp [World.cell?, h], by simp [World.cell?, h], by simp [World.cell?, h]⟩
def truthP (gs : List Sy) (t : Tm) : Bool := !decide (t.h < 0) && (gAt gs t.h).tr
def sortC (gs : List Sy) (x : Lt) : Int := if (truthP gs x.l && decide (x.r.h ≠ 0) || !truthP gs x.l && truthP gs x.r) = true then 10 else 0
def litC (gs : List Sy) (x : Lt) : Int := if termC gs x.l ≠ 0 then termC gs x.l else if termC gs x.r ≠ 0 then termC gs x.r else sortC gs x
theorem termC_h {gs : List Sy} {t : Tm} (h : termC gs t = 0) : t.h < (gs.length : Int) := by
  simp only [termC] at h
  split at h
  · contradiction
  split at h
  · contradiction
  split at h
  · contradiction
  next h3 =>
  rw [unkT_eq] at h3
  simp only [Bool.or_eq_true, not_or, unkP, Bool.not_eq_true, Bool.and_eq_false_imp] at h3
  by_cases hh : t.h < 0
  · omega
  · have := h3.1 (by simp; omega)
    simp at this
    omega
def ltV (x : Lt) (s1 s2 : Value) : Value := .agg #[.bool x.neg, .int .i64 x.l.h, s1, .int .i64 x.r.h, s2]
def sdObj (x : Lt) (sg s1 s2 : Value) : Obj := .cells #[sg, .bool x.neg, .int .i64 x.l.h, s1, .int .i64 x.r.h, s2] 218
set_option maxHeartbeats 4000000 in
set_option maxRecDepth 100000 in
theorem struth_calls (gs : List Sy) (x : Lt) (t : Tm) (A : Nat → Prop) (s1 s2 sg s : Value) (w : World) (hh : t.h < (gs.length : Int)) (hg : Syms A w sg gs) :
    Calls Try.prog 205 #[.agg #[sg, .bool x.neg, .int .i64 x.l.h, s1, .int .i64 x.r.h, s2], .agg #[.int .i64 t.h, s]] w fun e w' => e = .returned (.bool (truthP gs t)) ∧ Below w.heap.size w w' := by
  obtain ⟨ag, cg, rfl, hgl, hgc⟩ := hg.shape
  have hB : Below w.heap.size w (allocs w [sdObj x (.slice ag gs.length cg) s1 s2, .cells #[.int .i64 t.h, s] 25]) := allocs_below _ _
  have hz : (allocs w [sdObj x (.slice ag gs.length cg) s1 s2, .cells #[.int .i64 t.h, s] 25]).heap.size = w.heap.size + 2 := allocs_size _ _
  have b0 : (allocs w [sdObj x (.slice ag gs.length cg) s1 s2, .cells #[.int .i64 t.h, s] 25]).heap[w.heap.size]? = some (sdObj x (.slice ag gs.length cg) s1 s2) := allocs_get _ _ 0 _ rfl
  have b1 : (allocs w [sdObj x (.slice ag gs.length cg) s1 s2, .cells #[.int .i64 t.h, s] 25]).heap[w.heap.size + 1]? = some (.cells #[.int .i64 t.h, s] 25 (0, 0)) := allocs_get _ _ 1 _ rfl
  obtain ⟨y0, y1, y2, y3, y4, y5⟩ := box6 b0
  obtain ⟨-, z0, z1, -, -⟩ := box2 b1
  have HBL := hide hB
  have HG := hide hg
  by_cases h0 : t.h < 0
  · have HR := hide (show truthP gs t = false by simp [truthP, h0])
    have hd : decide (t.h ≥ 0) = false := by simp; omega
    clear hB b0 b1 hg
    simp only [sdObj] at *
    go_enter Try.func205, Try.ntmps205
    go_wp2
    go_ret
    exact ⟨ret_bool HR.out.symm, HBL.out⟩
  · have hlt : t.h.toNat < gs.length := by omega
    obtain ⟨bg, og, rfl, q0, q1, q2, q3⟩ := HG.out.getW hB t.h.toNat hlt
    have HR := hide (show truthP gs t = gs[t.h.toNat].tr by simp [truthP, h0, gAt, hlt])
    have hd : decide (t.h ≥ 0) = true := by simp; omega
    have hn1 : t.h < (gs.length : Int) := hh
    have hn0 : 0 ≤ t.h := by omega
    clear hB b0 b1 hg q0 q1 q2
    simp only [sdObj] at *
    have hgen : (w.alloc (.cells #[.slice (some ⟨bg, og, none⟩) gs.length cg, .bool x.neg, .int .i64 x.l.h, s1, .int .i64 x.r.h, s2] 218)).alloc (.cells #[.int .i64 t.h, s] 25) = allocs w [.cells #[.slice (some ⟨bg, og, none⟩) gs.length cg, .bool x.neg, .int .i64 x.l.h, s1, .int .i64 x.r.h, s2] 218, .cells #[.int .i64 t.h, s] 25] := rfl
    go_enter Try.func205, Try.ntmps205
    go_wp2
    go_ret
    exact ⟨ret_bool HR.out.symm, HBL.out⟩
set_option maxHeartbeats 4000000 in
set_option maxRecDepth 100000 in
theorem sleft_calls (gs : List Sy) (x : Lt) (A B : Nat → Prop) (s1 s2 sg : Value) (w : World) (h9 : x.l.size ≤ 1000000000) (hg : Syms A w sg gs) (hs : Terms B w s1 x.l.args) :
    Calls Try.prog 186 #[.agg #[sg, .bool x.neg, .int .i64 x.l.h, s1, .int .i64 x.r.h, s2]] w fun e w' => e = .returned (.int .i64 (termC gs x.l)) ∧ Below w.heap.size w w' := by
  obtain ⟨ag, cg, rfl, hgl, hgc⟩ := hg.shape
  obtain ⟨a1, c1, rfl, hsl, hsc⟩ := hs.shape
  have hB : Below w.heap.size w (w.alloc (sdObj x (.slice ag gs.length cg) (.slice a1 x.l.args.length c1) s2)) := (Below.refl _ _).alloc (Nat.le_refl _) _
  have b0 := World.alloc_heap_new w (sdObj x (.slice ag gs.length cg) (.slice a1 x.l.args.length c1) s2)
  obtain ⟨y0, y1, y2, y3, y4, y5⟩ := box6 b0
  have HBL := hide hB
  have HG := hide (hg.below hB)
  have HS := hide (hs.below hB)
  clear hB b0 hg hs
  simp only [sdObj] at *
  go_enter Try.func186, Try.ntmps186
  go_wp2_with fail
  generalize w.alloc (.cells #[.slice ag gs.length cg, .bool x.neg, .int .i64 x.l.h, .slice a1 x.l.args.length c1, .int .i64 x.r.h, s2] 218) = W at *
  refine (wterm_calls gs x.l A B _ _ _ W h9 HG.out ⟨rfl, HS.out⟩).mono ?_
  rintro e w1 ⟨rfl, h1⟩
  have HR := hide (more_below HBL.out h1)
  clear h1 y0 y1 y2 y3 y4 y5
  go_wp2
  go_ret
  exact ⟨rfl, HR.out⟩
set_option maxHeartbeats 4000000 in
set_option maxRecDepth 100000 in
theorem sright_calls (gs : List Sy) (x : Lt) (A B : Nat → Prop) (s1 s2 sg : Value) (w : World) (h9 : x.r.size ≤ 1000000000) (hg : Syms A w sg gs) (hs : Terms B w s2 x.r.args) :
    Calls Try.prog 187 #[.agg #[sg, .bool x.neg, .int .i64 x.l.h, s1, .int .i64 x.r.h, s2]] w fun e w' => e = .returned (.int .i64 (termC gs x.r)) ∧ Below w.heap.size w w' := by
  obtain ⟨ag, cg, rfl, hgl, hgc⟩ := hg.shape
  obtain ⟨a2, c2, rfl, hsl, hsc⟩ := hs.shape
  have hB : Below w.heap.size w (w.alloc (sdObj x (.slice ag gs.length cg) s1 (.slice a2 x.r.args.length c2))) := (Below.refl _ _).alloc (Nat.le_refl _) _
  have b0 := World.alloc_heap_new w (sdObj x (.slice ag gs.length cg) s1 (.slice a2 x.r.args.length c2))
  obtain ⟨y0, y1, y2, y3, y4, y5⟩ := box6 b0
  have HBL := hide hB
  have HG := hide (hg.below hB)
  have HS := hide (hs.below hB)
  clear hB b0 hg hs
  simp only [sdObj] at *
  go_enter Try.func187, Try.ntmps187
  go_wp2_with fail
  generalize w.alloc (.cells #[.slice ag gs.length cg, .bool x.neg, .int .i64 x.l.h, s1, .int .i64 x.r.h, .slice a2 x.r.args.length c2] 218) = W at *
  refine (wterm_calls gs x.r A B _ _ _ W h9 HG.out ⟨rfl, HS.out⟩).mono ?_
  rintro e w1 ⟨rfl, h1⟩
  have HR := hide (more_below HBL.out h1)
  clear h1 y0 y1 y2 y3 y4 y5
  go_wp2
  go_ret
  exact ⟨rfl, HR.out⟩
set_option maxHeartbeats 4000000 in
set_option maxRecDepth 100000 in
theorem ssorts_calls (gs : List Sy) (x : Lt) (A : Nat → Prop) (s1 s2 sg : Value) (w : World) (hh1 : x.l.h < (gs.length : Int)) (hh2 : x.r.h < (gs.length : Int)) (hg : Syms A w sg gs) :
    Calls Try.prog 188 #[.agg #[sg, .bool x.neg, .int .i64 x.l.h, s1, .int .i64 x.r.h, s2]] w fun e w' => e = .returned (.int .i64 (sortC gs x)) ∧ Below w.heap.size w w' := by
  obtain ⟨ag, cg, rfl, hgl, hgc⟩ := hg.shape
  have hB : Below w.heap.size w (w.alloc (sdObj x (.slice ag gs.length cg) s1 s2)) := (Below.refl _ _).alloc (Nat.le_refl _) _
  have b0 := World.alloc_heap_new w (sdObj x (.slice ag gs.length cg) s1 s2)
  have hz : w.heap.size < (w.alloc (sdObj x (.slice ag gs.length cg) s1 s2)).heap.size := by simp [World.size_alloc]
  obtain ⟨y0, y1, y2, y3, y4, y5⟩ := box6 b0
  have HBL := hide hB
  have HG := hide (hg.below hB)
  have HB0 := hide b0
  clear hB b0 hg
  have HSC := hide (show sortC gs x = if (truthP gs x.l && decide (x.r.h ≠ 0) || !truthP gs x.l && truthP gs x.r) = true then 10 else 0 from rfl)
  simp only [sdObj] at *
  go_enter Try.func188, Try.ntmps188
  go_wp2_with fail
  generalize w.alloc (.cells #[.slice ag gs.length cg, .bool x.neg, .int .i64 x.l.h, s1, .int .i64 x.r.h, s2] 218) = W at *
  refine (struth_calls gs x x.l A s1 s2 _ s1 W hh1 HG.out).mono ?_
  rintro e w1 ⟨rfl, h1⟩
  have HBL1 := hide (more_below HBL.out h1)
  have HG1 := hide (HG.out.below h1)
  have b1 := (h1.block _ hz).trans HB0.out
  clear y0 y1 y2 y3 y4 y5 HBL HG HB0 h1
  obtain ⟨y0, y1, y2, y3, y4, y5⟩ := box6 b1
  clear b1
  generalize truthP gs x.l = tl at *
  cases tl
  · go_wp2_with fail
    refine (struth_calls gs x x.r A s1 s2 _ s2 w1 hh2 HG1.out).mono ?_
    rintro e w2 ⟨rfl, h2⟩
    have HBL2 := hide (more_below HBL1.out h2)
    generalize truthP gs x.r = tr at *
    clear y0 y1 y2 y3 y4 y5 HBL1 HG1 h2
    cases tr
    · have HR := hide (show sortC gs x = 0 by rw [HSC.out]; rfl)
      clear HSC
      go_wp2
      go_ret
      exact ⟨ret_int HR.out.symm, HBL2.out⟩
    · have HR := hide (show sortC gs x = 10 by rw [HSC.out]; rfl)
      clear HSC
      go_wp2
      go_ret
      exact ⟨ret_int HR.out.symm, HBL2.out⟩
  · by_cases hr : x.r.h = 0
    · have hd : (x.r.h != 0) = false := by simpa using hr
      have HR := hide (show sortC gs x = 0 by rw [HSC.out]; simp [hr])
      clear HSC hr
      go_wp2
      go_ret
      exact ⟨ret_int HR.out.symm, HBL1.out⟩
    · have hd : (x.r.h != 0) = true := by simpa using hr
      have HR := hide (show sortC gs x = 10 by rw [HSC.out]; simp [hr])
      clear HSC hr
      go_wp2
      go_ret
      exact ⟨ret_int HR.out.symm, HBL1.out⟩
def sideF (k : Nat) : FuncId := if k = 0 then 186 else if k = 1 then 187 else 188
def sideV (k : Nat) : Value := .func (.func (sideF k)) #[] #[]
def sideAt (gs : List Sy) (x : Lt) (k : Nat) : Int := if k = 0 then termC gs x.l else if k = 1 then termC gs x.r else sortC gs x
theorem side_calls (gs : List Sy) (x : Lt) (A B C : Nat → Prop) (s1 s2 sg : Value) (k : Nat) (w : World) (h9 : x.l.size ≤ 1000000000 ∧ x.r.size ≤ 1000000000) (hz : ∀ j, j < k → sideAt gs x j = 0) (hg : Syms A w sg gs) (h1 : Terms B w s1 x.l.args) (h2 : Terms C w s2 x.r.args) :
    Calls Try.prog (sideF k) #[.agg #[sg, .bool x.neg, .int .i64 x.l.h, s1, .int .i64 x.r.h, s2]] w fun e w' => e = .returned (.int .i64 (sideAt gs x k)) ∧ Below w.heap.size w w' := by
  match k with
  | 0 => exact sleft_calls gs x A B s1 s2 sg w h9.1 hg h1
  | 1 => exact sright_calls gs x A C s1 s2 sg w h9.2 hg h2
  | k + 2 => exact ssorts_calls gs x A s1 s2 sg w (termC_h (hz 0 (by omega))) (termC_h (hz 1 (by omega))) hg
theorem litC_at {gs : List Sy} {x : Lt} {k : Nat} (hk : k < 3) (hz : ∀ j, j < k → sideAt gs x j = 0) (hn : sideAt gs x k ≠ 0 ∨ k = 2) : litC gs x = sideAt gs x k := by
  rcases (show k = 0 ∨ k = 1 ∨ k = 2 by omega) with rfl | rfl | rfl
  · have h : termC gs x.l ≠ 0 := by simpa [sideAt] using hn
    simp [litC, sideAt, h]
  · have h0 : termC gs x.l = 0 := hz 0 (by omega)
    have h : termC gs x.r ≠ 0 := by simpa [sideAt] using hn
    simp [litC, sideAt, h, h0]
  · have h0 : termC gs x.l = 0 := hz 0 (by omega)
    have h1 : termC gs x.r = 0 := hz 1 (by omega)
    simp [litC, sideAt, h0, h1]
set_option maxHeartbeats 4000000 in
set_option maxRecDepth 100000 in
theorem lfirst_calls (gs : List Sy) (x : Lt) (A B C : Nat → Prop) (s1 s2 sg : Value) (w : World) (fb : Nat) (ft : TypeId) (h9 : x.l.size ≤ 1000000000 ∧ x.r.size ≤ 1000000000) (hg : Syms A w sg gs) (h1 : Terms B w s1 x.l.args) (h2 : Terms C w s2 x.r.args)
    (hf : w.heap[fb]? = some (.cells #[sideV 0, sideV 1, sideV 2] ft (0, 0))) :
    Calls Try.prog 185 #[.agg #[sg, .bool x.neg, .int .i64 x.l.h, s1, .int .i64 x.r.h, s2], .slice (some ⟨fb, 0, none⟩) 3 3] w fun e w' => e = .returned (.int .i64 (litC gs x)) ∧ Below w.heap.size w w' := by
  have hB : Below w.heap.size w (w.alloc (sdObj x sg s1 s2)) := (Below.refl _ _).alloc (Nat.le_refl _) _
  have b0 := World.alloc_heap_new w (sdObj x sg s1 s2)
  have hz0 : w.heap.size < (w.alloc (sdObj x sg s1 s2)).heap.size := by simp [World.size_alloc]
  have HB0 := hide b0
  have HBL := hide hB
  have HF := hide ((hB.block _ (Array.getElem?_eq_some_iff.1 hf).1).trans hf)
  have hfl := (Array.getElem?_eq_some_iff.1 hf).1
  have HG := hide (hg.below hB)
  have H1 := hide (h1.below hB)
  have H2 := hide (h2.below hB)
  clear hB b0 hf hg h1 h2
  simp only [sdObj] at *
  go_enter Try.func185, Try.ntmps185
  go_wp2_with fail
  generalize w.alloc (.cells #[sg, .bool x.neg, .int .i64 x.l.h, s1, .int .i64 x.r.h, s2] 218) = W at *
  go_loopw [10] (fun i wr => ∃ k : Nat, k ≤ 3 ∧ i = .int .i64 k ∧ Hid (∀ j, j < k → sideAt gs x j = 0) ∧ Hid (Below W.heap.size W wr)) (fun i _ => 3 - (intOf i).toNat)
  case atStart => exact ⟨0, by omega, rfl, hide (fun j hj => by omega), hide (Below.refl _ _)⟩
  case round =>
    obtain ⟨k, hk, rfl, hzs, hbl⟩ := hrel
    by_cases hlt : k < 3
    · obtain ⟨y0, y1, y2, y3, y4, y5⟩ := box6 ((hbl.out.block _ hz0).trans HB0.out)
      have hfb := (hbl.out.block _ (Nat.lt_trans hfl hz0)).trans HF.out
      have hcell : wr.cell? ⟨fb, k, none⟩ = some (sideV k) := by
        rcases (show k = 0 ∨ k = 1 ∨ k = 2 by omega) with rfl | rfl | rfl
        · exact (box3 hfb).2.1
        · exact (box3 hfb).2.2.1
        · exact (box3 hfb).2.2.2
      simp only [sideV] at hcell
      have HCA := hide (side_calls gs x A B C s1 s2 sg k wr h9 hzs.out (HG.out.below hbl.out) (H1.out.below hbl.out) (H2.out.below hbl.out))
      clear hfb
      have HL := hide (fun hn => litC_at (gs := gs) (x := x) hlt hzs.out hn)
      have HZ := hide (fun (h : sideAt gs x k = 0) j (hj : j < k + 1) => show sideAt gs x j = 0 from if e : j = k then e ▸ h else hzs.out j (by omega))
      generalize sideAt gs x k = sv at *
      rcases (show sideF k = 186 ∨ sideF k = 187 ∨ sideF k = 188 by
        simp only [sideF]; split
        · exact .inl rfl
        split
        · exact .inr (.inl rfl)
        · exact .inr (.inr rfl)) with hF | hF | hF
      all_goals
        rw [hF] at hcell HCA
        clear hF
        go_wp2_with fail
        refine HCA.out.mono ?_
        rintro e w1 ⟨rfl, k1⟩
        have HB1 := hide (more_below hbl.out k1)
        clear k1 y0 y1 y2 y3 y4 y5 hcell HCA
        by_cases hs : sv = 0
        · subst hs
          go_wp2
          go_roundw
          case rel => exact ⟨k + 1, by omega, by go_num, hide (HZ.out trivial), HB1⟩
          case measure => simp [intOf]; omega
        · have hne : (sv != 0) = true := by simpa using hs
          have HR := hide (HL.out (.inl hs))
          have HBB := hide (HBL.out.trans (HB1.out.mono HBL.out.size))
          clear HL HZ hs
          go_wp2
          go_ret
          exact ⟨ret_int HR.out.symm, HBB.out⟩
    · obtain rfl : k = 3 := by omega
      have HR := hide (litC_at (gs := gs) (x := x) (k := 2) (by omega) (fun j hj => hzs.out j (by omega)) (.inr rfl))
      have HZ := hide (hzs.out 2 (by omega))
      have HBB := hide (HBL.out.trans (hbl.out.mono HBL.out.size))
      clear hzs hbl
      go_wp2
      go_ret
      exact ⟨ret_int (by rw [HR.out, HZ.out]), HBB.out⟩
set_option maxHeartbeats 4000000 in
set_option maxRecDepth 100000 in
theorem litcheck_calls (gs : List Sy) (x : Lt) (A B C : Nat → Prop) (s1 s2 sg : Value) (w : World) (h9 : x.l.size ≤ 1000000000 ∧ x.r.size ≤ 1000000000) (hg : Syms A w sg gs) (h1 : Terms B w s1 x.l.args) (h2 : Terms C w s2 x.r.args) :
    Calls Try.prog 158 #[sg, .agg #[.bool x.neg, .int .i64 x.l.h, s1, .int .i64 x.r.h, s2]] w fun e w' => e = .returned (.int .i64 (litC gs x)) ∧ Below w.heap.size w w' := by
  obtain ⟨ag, cg, rfl, hgl, hgc⟩ := hg.shape
  have b0 := World.alloc_heap_new w (.cells #[.bool x.neg, .int .i64 x.l.h, s1, .int .i64 x.r.h, s2] 142)
  obtain ⟨y0, y1, y2, y3, y4⟩ := box5 b0
  have hB : Below w.heap.size w (allocs w [.cells #[.bool x.neg, .int .i64 x.l.h, s1, .int .i64 x.r.h, s2] 142, .cells #[sideV 0, sideV 1, sideV 2] 219]) := allocs_below _ _
  have b1 : (allocs w [.cells #[.bool x.neg, .int .i64 x.l.h, s1, .int .i64 x.r.h, s2] 142, .cells #[sideV 0, sideV 1, sideV 2] 219]).heap[w.heap.size + 1]? = some (.cells #[sideV 0, sideV 1, sideV 2] 219 (0, 0)) := allocs_get _ _ 1 _ rfl
  have HBL := hide hB
  have HC := hide (lfirst_calls gs x A B C s1 s2 _ _ _ _ h9 (hg.below hB) (h1.below hB) (h2.below hB) b1)
  clear b0 b1 hB hg h1 h2
  go_enter Try.func158, Try.ntmps158
  go_wp2_with fail
  refine HC.out.mono ?_
  rintro e w1 ⟨rfl, k1⟩
  have HR := hide (more_below HBL.out k1)
  clear k1 y0 y1 y2 y3 y4 HC
  go_wp2
  go_ret
  exact ⟨rfl, HR.out⟩
end Go.Proofs.Ythplndalbfcbbaa
set_option linter.unusedSimpArgs false
set_option linter.unusedVariables false
namespace Go.Proofs.Ythplndalbfcbbaa
open Go.RowKit
def litsC (gs : List Sy) : List Lt → Int
  | [] => 0
  | x :: r => if litC gs x ≠ 0 then litC gs x else litsC gs r
def clauseC (gs : List Sy) (ls : List Lt) : Int := if weighC gs ≠ 0 then weighC gs else if 32 < ls.length then 2 else litsC gs ls
theorem litsC_at {gs : List Sy} : ∀ {ls : List Lt} {k : Nat} (h : k < ls.length), (∀ j (hj : j < k), litC gs (ls[j]'(by omega)) = 0) → litC gs ls[k] ≠ 0 → litsC gs ls = litC gs ls[k]
  | x :: r, 0, h, _, hn => by simp only [List.getElem_cons_zero] at hn ⊢; rw [litsC, if_pos hn]
  | x :: r, k + 1, h, hz, hn => by
    have h0 : litC gs x = 0 := hz 0 (by omega)
    simp only [List.getElem_cons_succ] at hn ⊢
    rw [litsC, if_neg (by simp [h0])]
    exact litsC_at (by simpa using h) (fun j hj => hz (j + 1) (by omega)) hn
theorem litsC_zero {gs : List Sy} : ∀ {ls : List Lt}, (∀ j (hj : j < ls.length), litC gs ls[j] = 0) → litsC gs ls = 0
  | [], _ => rfl
  | x :: r, h => by
    have h0 : litC gs x = 0 := h 0 (by simp)
    rw [litsC, if_neg (by simp [h0])]
    exact litsC_zero fun j hj => h (j + 1) (by simpa using hj)
def LtsOk (ls : List Lt) : Prop := ∀ x ∈ ls, x.l.size ≤ 1000000000 ∧ x.r.size ≤ 1000000000
set_option maxHeartbeats 4000000 in
set_option maxRecDepth 100000 in
theorem clausecheck_calls (gs : List Sy) (ls : List Lt) (A B : Nat → Prop) (sg sl : Value) (w : World) (h9 : LtsOk ls) (hg : Syms A w sg gs) (hl : Lits B w sl ls) :
    Calls Try.prog 121 #[sg, sl] w fun e w' => e = .returned (.int .i64 (clauseC gs ls)) ∧ Below w.heap.size w w' := by
  obtain ⟨a, c, rfl, hlc, hc⟩ := hl.shape
  have HG := hide hg
  have HL := hide hl
  have HCC := hide (show clauseC gs ls = if weighC gs ≠ 0 then weighC gs else if 32 < ls.length then 2 else litsC gs ls from rfl)
  clear hg hl
  go_enter Try.func121, Try.ntmps121
  go_wp2_with fail
  refine (weighc_calls gs A _ w HG.out).mono ?_
  rintro e w1 ⟨rfl, h1⟩
  have HB1 := hide h1
  have HG1 := hide (HG.out.below h1)
  have HL1 := hide (HL.out.below h1)
  generalize weighC gs = wc at *
  clear h1 HG HL
  by_cases hw : wc = 0
  rotate_left
  · have HR := hide (show clauseC gs ls = wc by rw [HCC.out, if_pos hw])
    have hne : (wc != 0) = true := by simpa using hw
    clear HCC hw
    go_wp2
    go_ret
    exact ⟨ret_int HR.out.symm, HB1.out⟩
  subst hw
  by_cases h32 : 32 < ls.length
  · have HR := hide (show clauseC gs ls = 2 by rw [HCC.out, if_neg (by simp), if_pos h32])
    have hd : decide ((ls.length : Int) > 32) = true := by simp; omega
    clear HCC h32
    go_wp2
    go_ret
    exact ⟨ret_int HR.out.symm, HB1.out⟩
  have HRR := hide (show clauseC gs ls = litsC gs ls by rw [HCC.out, if_neg (by simp), if_neg h32])
  have hd : decide ((ls.length : Int) > 32) = false := by simp; omega
  clear HCC h32
  go_wp2
  go_loopw [19] (fun i wr => ∃ k : Nat, k ≤ ls.length ∧ i = .int .i64 k ∧ Hid (∀ j (hj : j < ls.length), j < k → litC gs ls[j] = 0) ∧ Hid (Below w1.heap.size w1 wr)) (fun i _ => ls.length - (intOf i).toNat)
  case atStart => exact ⟨0, by omega, rfl, hide (fun j _ hj => by omega), hide (Below.refl _ _)⟩
  case round =>
    obtain ⟨k, hk, rfl, hzs, hbl⟩ := hrel
    by_cases hlt : k < ls.length
    · obtain ⟨b, off, a1, c1, a2, c2, rfl, q0, q1, q2, q3, q4, t1, t2⟩ := HL1.out.getW hbl.out k hlt
      have hsz := hide (h9 ls[k] (List.getElem_mem hlt))
      have hB : Below wr.heap.size wr (wr.alloc (.cells #[.bool ls[k].neg, .int .i64 ls[k].l.h, .slice a1 ls[k].l.args.length c1, .int .i64 ls[k].r.h, .slice a2 ls[k].r.args.length c2] 142)) := (Below.refl _ _).alloc (Nat.le_refl _) _
      have HCA := hide (litcheck_calls gs ls[k] A B B (.slice a1 ls[k].l.args.length c1) (.slice a2 ls[k].r.args.length c2) _ _ hsz.out (HG1.out.below (more_below hbl.out hB)) (t1.2.below hB) (t2.2.below hB))
      have HBB := hide (more_below hbl.out hB)
      have HZ := hide (fun (h : litC gs ls[k] = 0) j (hj : j < ls.length) (hjk : j < k + 1) => show litC gs ls[j] = 0 by
        rcases Nat.lt_or_ge j k with h8 | h8
        · exact hzs.out j hj h8
        · obtain rfl : j = k := by omega
          exact h)
      have HLA := hide (fun hn => litsC_at (gs := gs) hlt (fun j hj => hzs.out j (by omega) hj) hn)
      clear hB t1 t2 hbl hzs
      generalize litC gs ls[k] = v at *
      go_wp2_with fail
      refine HCA.out.mono ?_
      rintro e w4 ⟨rfl, k4⟩
      have HB4 := hide (more_below HBB.out k4)
      clear k4 HCA q0 q1 q2 q3 q4
      by_cases hs : v = 0
      · subst hs
        go_wp2
        go_roundw
        case rel => exact ⟨k + 1, by omega, by go_num, hide (HZ.out trivial), HB4⟩
        case measure => simp [intOf]; omega
      · have hne : (v != 0) = true := by simpa using hs
        have HR := hide (HRR.out.trans (HLA.out hs))
        have HBW := hide (more_below HB1.out HB4.out)
        clear HLA HZ hs
        go_wp2
        go_ret
        exact ⟨ret_int HR.out.symm, HBW.out⟩
    · obtain rfl : k = ls.length := by omega
      have HR := hide (HRR.out.trans (litsC_zero (gs := gs) (fun j hj => hzs.out j hj hj)))
      have HBW := hide (more_below HB1.out hbl.out)
      clear hzs hbl
      go_wp2
      go_ret
      exact ⟨ret_int HR.out.symm, HBW.out⟩
end Go.Proofs.Ythplndalbfcbbaa
set_option linter.unusedSimpArgs false
set_option linter.unusedVariables false
namespace Go.Proofs.Ythplndalbfcbbaa
open Go.RowKit
def rowObj (l : List Int) (t : TypeId) : Obj := .cells (l.map fun v => Value.int .i64 v).toArray t (0, 0)
def RowAt (w : World) (b : Nat) (l : List Int) (t : TypeId) : Prop := w.heap[b]? = some (rowObj l t)
theorem RowAt.get {w : World} {b : Nat} {l : List Int} {t : TypeId} (h : RowAt w b l t) (i : Nat) (hi : i < l.length) : w.cell? ⟨b, i, none⟩ = some (.int .i64 l[i]) ∧ w.frozen? ⟨b, i, none⟩ = false := by
  simp only [RowAt, rowObj] at h
  exact ⟨by simp [World.cell?, h, hi], by simp [World.frozen?, h]⟩
theorem RowAt.set {w : World} {b : Nat} {l : List Int} {t : TypeId} (h : RowAt w b l t) (i : Nat) (v : Int) : RowAt (w.setCell ⟨b, i, none⟩ (.int .i64 v)) b (l.set i v) t := by
  simp only [RowAt, rowObj] at h ⊢
  simp [World.setCell, Array.getElem?_modify, h, List.map_set]
def bump (l : List Int) (i : Nat) : List Int := l.set i (l.getD i 0 + 1)
mutual
def addT (k : Nat) : Tm → List Int → List Int
  | .node h ts, l => addL k ts (if h < 0 then l else bump l (2 + 2 * h.toNat + k))
def addL (k : Nat) : List Tm → List Int → List Int
  | [], l => l
  | t :: ts, l => addL k ts (addT k t l)
end
theorem addT_eq (k : Nat) (t : Tm) (l : List Int) : addT k t l = addL k t.args (if t.h < 0 then l else bump l (2 + 2 * t.h.toNat + k)) := by cases t; rw [addT, Tm.args, Tm.h]
theorem addL_take (k : Nat) (ts : List Tm) (i : Nat) (h : i < ts.length) (l : List Int) : addL k (ts.take (i + 1)) l = addT k ts[i] (addL k (ts.take i) l) := by
  rw [List.take_succ_eq_append_getElem h]
  generalize ts.take i = m
  induction m generalizing l with
  | nil => simp [addL]
  | cons x m ih => simp only [List.cons_append, addL, ih]
theorem bump_length (l : List Int) (i : Nat) : (bump l i).length = l.length := by simp [bump]
mutual
theorem addT_length (k : Nat) : ∀ (t : Tm) (l : List Int), (addT k t l).length = l.length
  | .node h ts, l => by
    rw [addT, addL_length]
    split
    · rfl
    · exact bump_length _ _
theorem addL_length (k : Nat) : ∀ (ts : List Tm) (l : List Int), (addL k ts l).length = l.length
  | [], l => rfl
  | t :: ts, l => by rw [addL, addL_length, addT_length]
end
def Cnt (m : Int) (l : List Int) : Prop := ∀ v ∈ l, 0 ≤ v ∧ v ≤ m
theorem Cnt.mono {m n : Int} {l : List Int} (h : Cnt m l) (hm : m ≤ n) : Cnt n l := fun v hv => ⟨(h v hv).1, by have := (h v hv).2; omega⟩
theorem Cnt.at {m : Int} {l : List Int} (h : Cnt m l) (i : Nat) (hi : i < l.length) : 0 ≤ l[i] ∧ l[i] ≤ m := h _ (List.getElem_mem hi)
theorem Cnt.bump {m : Int} {l : List Int} (h : Cnt m l) (i : Nat) (hm : 0 ≤ m) : Cnt (m + 1) (bump l i) := by
  intro v hv
  rcases List.mem_or_eq_of_mem_set hv with h1 | h1
  · have := h v h1; omega
  · subst h1
    by_cases hi : i < l.length
    · have := h.at i hi
      rw [List.getD_eq_getElem?_getD, List.getElem?_eq_getElem hi, Option.getD_some]
      omega
    · rw [List.getD_eq_getElem?_getD, List.getElem?_eq_none (by omega), Option.getD_none]
      omega
mutual
theorem Cnt.addT {m : Int} (k : Nat) (hm : 0 ≤ m) : ∀ (t : Tm) (l : List Int), Cnt m l → Cnt (m + t.size) (addT k t l)
  | .node h ts, l, hc => by
    rw [Go.Proofs.Ythplndalbfcbbaa.addT]
    have hs := (Tm.node h ts).size_eq
    simp only [Tm.args] at hs
    have h1 : Cnt (m + 1) (if h < 0 then l else Go.Proofs.Ythplndalbfcbbaa.bump l (2 + 2 * h.toNat + k)) := by
      split
      · exact hc.mono (by omega)
      · exact hc.bump _ hm
    exact (Cnt.addL k (by omega) ts _ h1).mono (by omega)
theorem Cnt.addL {m : Int} (k : Nat) (hm : 0 ≤ m) : ∀ (ts : List Tm) (l : List Int), Cnt m l → Cnt (m + Tm.sizes ts) (addL k ts l)
  | [], l, hc => by rw [Go.Proofs.Ythplndalbfcbbaa.addL]; exact hc.mono (by omega)
  | t :: ts, l, hc => by
    rw [Go.Proofs.Ythplndalbfcbbaa.addL]
    have h1 := Cnt.addT k hm t l hc
    exact (Cnt.addL k (by omega) ts _ h1).mono (by simp [Tm.sizes]; omega)
end
theorem unkL_get {gs : List Sy} : ∀ {l : List Tm}, unkL gs l = false → ∀ (i : Nat) (h : i < l.length), unkT gs l[i] = false
  | t :: ts, h, 0, _ => by rw [unkL, Bool.or_eq_false_iff] at h; exact h.1
  | t :: ts, h, i + 1, hi => by rw [unkL, Bool.or_eq_false_iff] at h; exact unkL_get h.2 i (by simpa using hi)
theorem sizes_take1 : ∀ (l : List Tm) (i : Nat) (h : i < l.length), Tm.sizes (l.take (i + 1)) = Tm.sizes (l.take i) + l[i].size
  | t :: ts, 0, _ => by simp [Tm.sizes]
  | t :: ts, i + 1, hi => by
    have := sizes_take1 ts i (by simpa using hi)
    simp only [List.take_succ_cons, Tm.sizes, List.getElem_cons_succ] at this ⊢
    omega
theorem sizes_le1 : ∀ (l : List Tm) (i : Nat), Tm.sizes (l.take i) ≤ Tm.sizes l
  | [], i => by simp
  | t :: ts, 0 => by simp [Tm.sizes]
  | t :: ts, i + 1 => by
    have := sizes_le1 ts i
    simp only [List.take_succ_cons, Tm.sizes]
    omega
set_option maxHeartbeats 4000000 in
set_option maxRecDepth 100000 in
theorem add_calls (gs : List Sy) (hgl : gs.length ≤ 256) (k : Nat) (hk : k < 2) (nb : Nat) (nt : TypeId) (N : Nat) (hN : N = 2 + 2 * gs.length) (n0 : Nat) : ∀ (t : Tm) (m : Int) (l : List Int) (h : Int) (s : Value) (w : World), t.size ≤ n0 → unkT gs t = false → l.length = N → 0 ≤ m → m + t.size ≤ 1000000000000000000 → Cnt m l → RowAt w nb l nt → IsTm (fun b => b = nb) w h s t →
    Calls Try.prog 122 #[.slice (some ⟨nb, 0, none⟩) N N, .agg #[.int .i64 h, s], .int .i64 k] w fun e w' => e = .returned (.tuple #[]) ∧ RowAt w' nb (addT k t l) nt ∧ Keep (fun b => b ≠ nb) w w' := by
  induction n0 with
  | zero => intro t _ _ _ _ _ ht; have := t.size_eq; omega
  | succ n0 ih =>
    rintro t m l h s w ht hu hl hm0 hm hcn hrow hs
    obtain ⟨rfl, a, c, rfl, hlc, hc⟩ := hs.shape
    have hsz := hide t.size_eq
    have hlt0 : nb < w.heap.size := (Array.getElem?_eq_some_iff.1 hrow).1
    have hbn : w.heap.size ≠ nb := by omega
    have hB : Below w.heap.size w (w.alloc (.cells #[.int .i64 t.h, .slice a t.args.length c] 25)) := (Below.refl _ _).alloc (Nat.le_refl _) _
    have kb := World.alloc_heap_new w (.cells #[.int .i64 t.h, .slice a t.args.length c] 25)
    have hk0 : Keep (fun b => b ≠ nb) w (w.alloc (.cells #[.int .i64 t.h, .slice a t.args.length c] 25)) := (Keep.refl _ _).alloc _
    have HKB := hide kb
    have HK0 := hide hk0
    have hrow1 : RowAt (w.alloc (.cells #[.int .i64 t.h, .slice a t.args.length c] 25)) nb l nt := (hB.block _ hlt0).trans hrow
    have HROW := hide hrow1
    have HTS := hide (hs.2.below hB)
    obtain ⟨-, z0, z1, -, -⟩ := box2 kb
    rw [unkT_eq, Bool.or_eq_false_iff] at hu
    obtain ⟨hu1, hu2⟩ := hu
    have HU2 := hide hu2
    have HM := hide hm
    have HL := hide hl
    have HN := hide hN
    have HA := hide (addT_eq k t l)
    have HCN := hide hcn
    clear hs hB kb hk0 hlt0 hrow hu2 hcn hm hN hl
    have hend : ∀ (l1 : List Int) (W1 : World), l1.length = N → Cnt (m + 1) l1 → addT k t l = addL k t.args l1 → RowAt W1 nb l1 nt → Keep (fun b => b ≠ nb) (w.alloc (.cells #[.int .i64 t.h, .slice a t.args.length c] 25)) W1 →
        Hid (l1.length = N) ∧ Hid (Cnt (m + 1) l1) ∧ Hid (addT k t l = addL k t.args l1) ∧ Hid (RowAt W1 nb l1 nt) ∧ Hid (Keep (fun b => b ≠ nb) w W1) ∧ Hid (Terms (fun b => b = nb) W1 (.slice a t.args.length c) t.args) ∧ W1.cell? ⟨w.heap.size, 0, none⟩ = some (.int .i64 t.h) ∧ W1.cell? ⟨w.heap.size, 1, none⟩ = some (.slice a t.args.length c) := by
      intro l1 W1 e1 e2 e3 e4 e5
      obtain ⟨-, q0, q1, -, -⟩ := box2 (e5.obj hbn HKB.out)
      exact ⟨hide e1, hide e2, hide e3, hide e4, hide (HK0.out.trans e5), hide (HTS.out.keepS e5 fun b _ hb => hb), q0, q1⟩
    by_cases h0 : t.h < 0
    · have hge : decide (t.h ≥ 0) = false := by simp; omega
      obtain ⟨HL1, HC1, HA1, HR1, HK1, HT1, x0, x1⟩ := hend l (w.alloc (.cells #[.int .i64 t.h, .slice a t.args.length c] 25)) HL.out (HCN.out.mono (by omega)) (by rw [HA.out, if_pos h0]) hrow1 (Keep.refl _ _)
      clear hend hu1 hrow1 h0 HCN HL HKB HK0 HROW HTS HA z0 z1
      go_enter Try.func122, Try.ntmps122
      go_wp2
      generalize HW : (w.alloc (.cells #[.int .i64 t.h, .slice a t.args.length c] 25)) = W at *
      clear HW
      go_loopw [25] (fun i wr => ∃ (j : Nat), j ≤ t.args.length ∧ i = .int .i64 j ∧ Hid ((addL k (t.args.take j) l).length = N) ∧ Hid (Cnt (m + 1 + Tm.sizes (t.args.take j)) (addL k (t.args.take j) l)) ∧ Hid (RowAt wr nb (addL k (t.args.take j) l) nt) ∧ Hid (Keep (fun b => b ≠ nb) w wr) ∧ Hid (Terms (fun b => b = nb) wr (.slice a t.args.length c) t.args)) (fun i _ => t.args.length - (intOf i).toNat)
      case atStart => exact ⟨0, by omega, rfl, hide (by rw [List.take_zero, addL]; exact HL1.out), hide (by rw [List.take_zero, addL]; exact HC1.out.mono (by simp [Tm.sizes])), hide (by rw [List.take_zero, addL]; exact HR1.out), HK1, HT1⟩
      case round =>
        obtain ⟨j, hj, rfl, hln, hcn, hrw, hkp, hts⟩ := hrel
        by_cases hlt : j < t.args.length
        · obtain ⟨b, off, a', c', rfl, hbs, hbA, g0, g1, gt⟩ := hts.out.get j hlt
          have hk2' := Tm.size_get t.args j hlt
          have hn : t.args[j].size ≤ n0 := by have := hsz.out; omega
          have hst := sizes_take1 t.args j hlt
          have hsu := sizes_le1 t.args (j + 1)
          have HUJ := hide (unkL_get HU2.out j hlt)
          have HSZ := hide (show m + 1 + (Tm.sizes (t.args.take j) : Int) + t.args[j].size ≤ 1000000000000000000 by have := hsz.out; have := HM.out; omega)
          have HCJ := hide (show Cnt (m + 1 + Tm.sizes (t.args.take (j + 1))) (addT k t.args[j] (addL k (t.args.take j) l)) from (hcn.out.addT k (by omega) t.args[j]).mono (by rw [hst]; omega))
          have HAJ := hide (addL_take k t.args j hlt l)
          have HLJ := hide ((addT_length k t.args[j] (addL k (t.args.take j) l)).trans hln.out)
          have hal : Below wr.heap.size wr (wr.alloc (.cells #[.int .i64 t.args[j].h, .slice a' t.args[j].args.length c'] 25)) := (Below.refl _ _).alloc (Nat.le_refl _) _
          have HR2 := hide (show RowAt (wr.alloc (.cells #[.int .i64 t.args[j].h, .slice a' t.args[j].args.length c'] 25)) nb (addL k (t.args.take j) l) nt from (hal.block _ (Array.getElem?_eq_some_iff.1 hrw.out).1).trans hrw.out)
          have HT2 := hide (hts.out.below hal)
          have HG := hide (gt.below hal)
          have HK2 := hide (hkp.out.alloc (.cells #[.int .i64 t.args[j].h, .slice a' t.args[j].args.length c'] 25))
          clear hal gt hts hkp hrw hk2' hst hsu
          go_wp2_with fail
          generalize wr.alloc (.cells #[.int .i64 t.args[j].h, .slice a' t.args[j].args.length c'] 25) = W2 at *
          refine (ih t.args[j] _ _ _ _ W2 hn HUJ.out hln.out (by omega) HSZ.out hcn.out HR2.out ⟨rfl, HG.out⟩).mono ?_
          rintro e w4 ⟨rfl, s4, k4⟩
          have HR4 := hide s4
          have HK4 := hide (HK2.out.trans k4)
          have HT4 := hide (HT2.out.keepS k4 fun b _ hb => hb)
          clear s4 k4 g0 g1 hln hcn
          go_wp2
          go_roundw
          case rel => exact ⟨j + 1, by omega, by go_num, hide (by rw [HAJ.out]; exact HLJ.out), hide (by rw [HAJ.out]; exact HCJ.out), hide (by rw [HAJ.out]; exact HR4.out), HK4, HT4⟩
          case measure => simp [intOf]; omega
        · obtain rfl : j = t.args.length := by omega
          have HR := hide (show RowAt wr nb (addT k t l) nt by
            have h9 := hrw.out
            rw [List.take_length] at h9
            rw [HA1.out]; exact h9)
          clear hln hcn hrw hts
          go_wp2
          exact bodyPost_end (results_none rfl _ _ _) rfl ⟨rfl, HR.out, hkp.out⟩
    · have hn0 : 0 ≤ t.h := by omega
      have hn1 : t.h < gs.length := by
        simp only [unkP, Bool.and_eq_false_imp] at hu1
        have := hu1 (by simp; omega)
        simp at this
        omega
      have hn2 : t.h < 256 := by omega
      have hk2 : (k : Int) < 2 := by omega
      have hix : 2 + 2 * t.h.toNat + k < l.length := by rw [HL.out, HN.out]; omega
      have hge : decide (t.h ≥ 0) = true := by simp; omega
      have hj : (2 + 2 * t.h + (k : Int)).toNat = 2 + 2 * t.h.toNat + k := by omega
      have hiN : 2 + 2 * t.h + (k : Int) < N := by have := HN.out; omega
      have hN9 : N ≤ 1000 := by have := HN.out; omega
      obtain ⟨y0, y1⟩ := hrow1.get _ hix
      obtain ⟨hv0, hv1⟩ := HCN.out.at _ hix
      have hv2 : l[2 + 2 * t.h.toNat + k] < 1000000000000000000 := by have := HM.out; have := hsz.out; omega
      have hb1 : bump l (2 + 2 * t.h.toNat + k) = l.set (2 + 2 * t.h.toNat + k) (l[2 + 2 * t.h.toNat + k] + 1) := by
        rw [bump, List.getD_eq_getElem?_getD, List.getElem?_eq_getElem hix, Option.getD_some]
      generalize l[2 + 2 * t.h.toNat + k] = v at *
      rw [← hj] at y0 y1 hb1
      obtain ⟨HL1, HC1, HA1, HR1, HK1, HT1, x0, x1⟩ := hend (bump l (2 + 2 * t.h + (k : Int)).toNat) ((w.alloc (.cells #[.int .i64 t.h, .slice a t.args.length c] 25)).setCell ⟨nb, (2 + 2 * t.h + (k : Int)).toNat, none⟩ (.int .i64 (v + 1))) ((bump_length _ _).trans HL.out) (HCN.out.bump _ hm0) (by rw [HA.out, if_neg h0, hj]) (by rw [hb1]; exact hrow1.set _ _) ((Keep.refl _ _).setCell (p := ⟨nb, _, none⟩) (by simp) _)
      clear hend hu1 hrow1 h0 HCN HL HKB HK0 HROW HTS HA hj hb1 hix
      go_enter Try.func122, Try.ntmps122
      go_wp2
      generalize HW : (w.alloc (.cells #[.int .i64 t.h, .slice a t.args.length c] 25)).setCell ⟨nb, (2 + 2 * t.h + (k : Int)).toNat, none⟩ (.int .i64 (v + 1)) = W at *
      clear HW y0 y1 z0 z1 hv0 hv1 hv2
      generalize bump l (2 + 2 * t.h + (k : Int)).toNat = l1 at *
      go_loopw [25] (fun i wr => ∃ (j : Nat), j ≤ t.args.length ∧ i = .int .i64 j ∧ Hid ((addL k (t.args.take j) l1).length = N) ∧ Hid (Cnt (m + 1 + Tm.sizes (t.args.take j)) (addL k (t.args.take j) l1)) ∧ Hid (RowAt wr nb (addL k (t.args.take j) l1) nt) ∧ Hid (Keep (fun b => b ≠ nb) w wr) ∧ Hid (Terms (fun b => b = nb) wr (.slice a t.args.length c) t.args)) (fun i _ => t.args.length - (intOf i).toNat)
      case atStart => exact ⟨0, by omega, rfl, hide (by rw [List.take_zero, addL]; exact HL1.out), hide (by rw [List.take_zero, addL]; exact HC1.out.mono (by simp [Tm.sizes])), hide (by rw [List.take_zero, addL]; exact HR1.out), HK1, HT1⟩
      case round =>
        obtain ⟨j, hj, rfl, hln, hcn, hrw, hkp, hts⟩ := hrel
        by_cases hlt : j < t.args.length
        · obtain ⟨b, off, a', c', rfl, hbs, hbA, g0, g1, gt⟩ := hts.out.get j hlt
          have hk2' := Tm.size_get t.args j hlt
          have hn : t.args[j].size ≤ n0 := by have := hsz.out; omega
          have hst := sizes_take1 t.args j hlt
          have hsu := sizes_le1 t.args (j + 1)
          have HUJ := hide (unkL_get HU2.out j hlt)
          have HSZ := hide (show m + 1 + (Tm.sizes (t.args.take j) : Int) + t.args[j].size ≤ 1000000000000000000 by have := hsz.out; have := HM.out; omega)
          have HCJ := hide (show Cnt (m + 1 + Tm.sizes (t.args.take (j + 1))) (addT k t.args[j] (addL k (t.args.take j) l1)) from (hcn.out.addT k (by omega) t.args[j]).mono (by rw [hst]; omega))
          have HAJ := hide (addL_take k t.args j hlt l1)
          have HLJ := hide ((addT_length k t.args[j] (addL k (t.args.take j) l1)).trans hln.out)
          have hal : Below wr.heap.size wr (wr.alloc (.cells #[.int .i64 t.args[j].h, .slice a' t.args[j].args.length c'] 25)) := (Below.refl _ _).alloc (Nat.le_refl _) _
          have HR2 := hide (show RowAt (wr.alloc (.cells #[.int .i64 t.args[j].h, .slice a' t.args[j].args.length c'] 25)) nb (addL k (t.args.take j) l1) nt from (hal.block _ (Array.getElem?_eq_some_iff.1 hrw.out).1).trans hrw.out)
          have HT2 := hide (hts.out.below hal)
          have HG := hide (gt.below hal)
          have HK2 := hide (hkp.out.alloc (.cells #[.int .i64 t.args[j].h, .slice a' t.args[j].args.length c'] 25))
          clear hal gt hts hkp hrw hk2' hst hsu
          go_wp2_with fail
          generalize wr.alloc (.cells #[.int .i64 t.args[j].h, .slice a' t.args[j].args.length c'] 25) = W2 at *
          refine (ih t.args[j] _ _ _ _ W2 hn HUJ.out hln.out (by omega) HSZ.out hcn.out HR2.out ⟨rfl, HG.out⟩).mono ?_
          rintro e w4 ⟨rfl, s4, k4⟩
          have HR4 := hide s4
          have HK4 := hide (HK2.out.trans k4)
          have HT4 := hide (HT2.out.keepS k4 fun b _ hb => hb)
          clear s4 k4 g0 g1 hln hcn
          go_wp2
          go_roundw
          case rel => exact ⟨j + 1, by omega, by go_num, hide (by rw [HAJ.out]; exact HLJ.out), hide (by rw [HAJ.out]; exact HCJ.out), hide (by rw [HAJ.out]; exact HR4.out), HK4, HT4⟩
          case measure => simp [intOf]; omega
        · obtain rfl : j = t.args.length := by omega
          have HR := hide (show RowAt wr nb (addT k t l) nt by
            have h9 := hrw.out
            rw [List.take_length] at h9
            rw [HA1.out]; exact h9)
          clear hln hcn hrw hts
          go_wp2
          exact bodyPost_end (results_none rfl _ _ _) rfl ⟨rfl, HR.out, hkp.out⟩
end Go.Proofs.Ythplndalbfcbbaa
set_option linter.unusedSimpArgs false
set_option linter.unusedVariables false
namespace Go.Proofs.Ythplndalbfcbbaa
open Go.RowKit
def kOf (x : Lt) : Nat := if x.neg = true then 1 else 0
def featL : List Lt → List Int → List Int
  | [], l => l
  | x :: r, l => featL r (addT (kOf x) x.r (addT (kOf x) x.l (bump l (kOf x))))
def feat (gs : List Sy) (ls : List Lt) : List Int := featL ls (List.replicate (2 + 2 * gs.length) 0)
theorem weighC_len {gs : List Sy} (h : weighC gs = 0) : 1 ≤ gs.length ∧ gs.length ≤ 256 := by
  match gs, h with
  | [], h => simp [weighC] at h
  | x :: r, h =>
    simp only [weighC] at h
    split at h
    · next h1 => simp only [List.length_cons]; omega
    · contradiction
theorem clauseC_weigh {gs : List Sy} {ls : List Lt} (h : clauseC gs ls = 0) : weighC gs = 0 := by
  simp only [clauseC] at h
  split at h
  · contradiction
  · next h1 => simpa using h1
theorem clauseC_len {gs : List Sy} {ls : List Lt} (h : clauseC gs ls = 0) : ls.length ≤ 32 := by
  simp only [clauseC] at h
  split at h
  · contradiction
  split at h
  · contradiction
  · omega
theorem litsC_get {gs : List Sy} : ∀ {ls : List Lt}, litsC gs ls = 0 → ∀ x ∈ ls, litC gs x = 0
  | y :: r, h, x, hx => by
    simp only [litsC] at h
    split at h
    · contradiction
    · next h1 =>
      rcases List.mem_cons.1 hx with rfl | hx
      · simpa using h1
      · exact litsC_get h x hx
theorem clauseC_lits {gs : List Sy} {ls : List Lt} (h : clauseC gs ls = 0) : ∀ x ∈ ls, litC gs x = 0 := by
  simp only [clauseC] at h
  split at h
  · contradiction
  split at h
  · contradiction
  · exact litsC_get h
theorem litC_terms {gs : List Sy} {x : Lt} (h : litC gs x = 0) : termC gs x.l = 0 ∧ termC gs x.r = 0 := by
  simp only [litC] at h
  split at h
  · contradiction
  split at h
  · contradiction
  · next h1 h2 => exact ⟨by simpa using h1, by simpa using h2⟩
theorem termC_unk {gs : List Sy} {t : Tm} (h : termC gs t = 0) : unkT gs t = false ∧ chk t = 0 := by
  simp only [termC] at h
  split at h
  · contradiction
  split at h
  · contradiction
  split at h
  · contradiction
  · next h1 h2 h3 => exact ⟨by simpa using h3, by simpa using h2⟩
theorem featL_take (ls : List Lt) (i : Nat) (h : i < ls.length) (l : List Int) : featL (ls.take (i + 1)) l = addT (kOf ls[i]) ls[i].r (addT (kOf ls[i]) ls[i].l (bump (featL (ls.take i) l) (kOf ls[i]))) := by
  rw [List.take_succ_eq_append_getElem h]
  generalize ls.take i = m
  induction m generalizing l with
  | nil => simp [featL]
  | cons x m ih => simp only [List.cons_append, featL, ih]
set_option maxRecDepth 100000 in
theorem mk_row (w : World) (n : Int) (h0 : 0 ≤ n) (h1 : n ≤ 1000) : (Instr.makeSlice 140 (.int .i64 n) (.int .i64 n)).run Try.prog w = .ok (.slice (some ⟨w.heap.size, 0, none⟩) n.toNat n.toNat) (w.alloc (rowObj (List.replicate n.toNat 0) 3)) := by
  have hinfo : (Try.prog.info? 3).map (fun i => (i.zero, i.size, i.bytes)) = some (some (.int .i64 0), 1, 8) := by kernel_rfl
  simp only [Option.map_eq_some_iff, Prod.mk.injEq] at hinfo
  obtain ⟨i, hi, hz, hs, hb⟩ := hinfo
  rw [run_make w 140 3 i _ (by kernel_rfl) hi hz .i64 .i64 n n h0 (Int.le_refl _) (by rw [hb]; omega) (by omega)]
  rw [hs]
  congr 3
  apply Array.ext
  · simp [size_madeCells]
  · intro j h1 h2
    simp [madeCells, Value.cells, Nat.mod_one]
set_option maxHeartbeats 4000000 in
set_option maxRecDepth 100000 in
theorem fof_calls (gs : List Sy) (ls : List Lt) (A B : Nat → Prop) (sg sl : Value) (w : World) (N : Nat) (hN : N = 2 + 2 * gs.length) (h9 : LtsOk ls) (hg : Syms A w sg gs) (hl : Lits B w sl ls) :
    Calls Try.prog 61 #[sg, sl] w fun e w' => Below w.heap.size w w' ∧
      ((clauseC gs ls ≠ 0 ∧ e = .returned (.tuple #[.slice none 0 0, .int .i64 (clauseC gs ls)])) ∨
       (clauseC gs ls = 0 ∧ ∃ nb, w.heap.size ≤ nb ∧ e = .returned (.tuple #[.slice (some ⟨nb, 0, none⟩) N N, .int .i64 0]) ∧ RowAt w' nb (feat gs ls) 3)) := by
  obtain ⟨a, c, rfl, hlc, hc⟩ := hl.shape
  obtain ⟨ag, cg, rfl, hgl, hgc⟩ := hg.shape
  have HG := hide hg
  have HL := hide hl
  clear hg hl
  go_enter Try.func61, Try.ntmps61
  go_wp2_with fail
  refine (clausecheck_calls gs ls A B _ _ w h9 HG.out HL.out).mono ?_
  rintro e w1 ⟨rfl, h1⟩
  have HB1 := hide h1
  have HG1 := hide (HG.out.below h1)
  have HL1 := hide (HL.out.below h1)
  have HCL := hide (show clauseC gs ls = clauseC gs ls from rfl)
  generalize hw : clauseC gs ls = cc at HCL ⊢
  clear h1 HG HL
  by_cases hw0 : cc = 0
  rotate_left
  · have hne : (cc != 0) = true := by simpa using hw0
    have HR := hide (show clauseC gs ls ≠ 0 by rw [hw]; exact hw0)
    clear hw0
    go_wp2
    exact bodyPost_ret (v := .tuple #[.slice none 0 0, .int .i64 cc]) (by simp [results, Try.results61, go_sem]) rfl ⟨HB1.out, .inl ⟨HR.out, by rw [hw]⟩⟩
  subst hw0
  have hgl2 := (weighC_len (clauseC_weigh hw)).2
  have hll := clauseC_len hw
  have HW := hide hw
  have HU := hide (fun x hx => litC_terms (clauseC_lits hw x hx))
  clear hw
  have hmk := mk_row w1 (2 + 2 * (gs.length : Int)) (by omega) (by omega)
  rw [show (2 + 2 * (gs.length : Int)).toNat = N by omega] at hmk
  have hBr : Below w1.heap.size w1 (w1.alloc (rowObj (List.replicate N 0) 3)) := (Below.refl _ _).alloc (Nat.le_refl _) _
  have HR0 := hide (show RowAt _ _ _ _ from World.alloc_heap_new w1 (rowObj (List.replicate N 0) 3))
  have HL2 := hide (show Lits (fun b => b = w1.heap.size) (w1.alloc (rowObj (List.replicate N 0) 3)) (.slice a ls.length c) ls from RepD.frame (fun b _ hlt => hBr.block b hlt) (fun b hb h => by omega) _ _ HL1.out)
  have HBR := hide hBr
  have HFE := hide (show feat gs ls = featL ls (List.replicate N 0) by rw [feat, hN])
  have HN := hide hN
  have hN9 : N ≤ 1000 := by omega
  have hN2 : 2 ≤ N := by omega
  have hbl1 := HB1.out.size
  have hnb : w1.heap.size < (w1.alloc (rowObj (List.replicate N 0) 3)).heap.size := by simp [World.size_alloc]
  clear hBr hN HL1 HG1
  go_wp2
  clear hmk
  generalize w1.alloc (rowObj (List.replicate N 0) 3) = W1 at *
  obtain ⟨nb, hnbd⟩ : ∃ nb, nb = w1.heap.size := ⟨_, rfl⟩
  rw [← hnbd] at hnb HR0 HL2 hbl1 ⊢
  have HNB := hide hnbd
  clear hnbd
  go_loopw [24] (fun i wr => ∃ (j : Nat), j ≤ ls.length ∧ i = .int .i64 j ∧ Hid ((featL (ls.take j) (List.replicate N 0)).length = N) ∧ Hid (Cnt (3000000000 * j) (featL (ls.take j) (List.replicate N 0))) ∧ Hid (RowAt wr nb (featL (ls.take j) (List.replicate N 0)) 3) ∧ Hid (Keep (fun b => b ≠ nb) W1 wr) ∧ Hid (Lits (fun b => b = nb) wr (.slice a ls.length c) ls)) (fun i _ => ls.length - (intOf i).toNat)
  case atStart => exact ⟨0, by omega, rfl, hide (by simp [featL]), hide (by intro v hv; simp [featL] at hv; omega), hide (by rw [List.take_zero, featL]; exact HR0.out), hide (Keep.refl _ _), HL2⟩
  case round =>
    obtain ⟨j, hj, rfl, hln, hcn, hrw, hkp, hts⟩ := hrel
    by_cases hlt : j < ls.length
    · obtain ⟨b, off, a1, c1, a2, c2, rfl, hbs, hbA, q0, q1, q2, q3, q4, t1, t2⟩ := hts.out.get j hlt
      have hsz := h9 ls[j] (List.getElem_mem hlt)
      have hus := HU.out ls[j] (List.getElem_mem hlt)
      have HU1 := hide (termC_unk hus.1).1
      have HU2 := hide (termC_unk hus.2).1
      have HAT := hide (featL_take ls j hlt (List.replicate N 0))
      have hwz : nb < wr.heap.size := Nat.lt_of_lt_of_le hnb hkp.out.size
      have hbn : wr.heap.size ≠ nb := by omega
      have HK1 := hide (hkp.out.alloc (.cells #[.bool ls[j].neg, .int .i64 ls[j].l.h, .slice a1 ls[j].l.args.length c1, .int .i64 ls[j].r.h, .slice a2 ls[j].r.args.length c2] 142))
      have hB : Below wr.heap.size wr (wr.alloc (.cells #[.bool ls[j].neg, .int .i64 ls[j].l.h, .slice a1 ls[j].l.args.length c1, .int .i64 ls[j].r.h, .slice a2 ls[j].r.args.length c2] 142)) := (Below.refl _ _).alloc (Nat.le_refl _) _
      have kb := World.alloc_heap_new wr (.cells #[.bool ls[j].neg, .int .i64 ls[j].l.h, .slice a1 ls[j].l.args.length c1, .int .i64 ls[j].r.h, .slice a2 ls[j].r.args.length c2] 142)
      have HKB := hide kb
      have hrow : RowAt (wr.alloc (.cells #[.bool ls[j].neg, .int .i64 ls[j].l.h, .slice a1 ls[j].l.args.length c1, .int .i64 ls[j].r.h, .slice a2 ls[j].r.args.length c2] 142)) nb _ _ := (hB.block _ hwz).trans hrw.out
      have HT1 := hide (t1.below hB)
      have HT2 := hide (t2.below hB)
      have HTS := hide (hts.out.below hB)
      obtain ⟨z0, z1, z2, z3, z4⟩ := box5 kb
      have hko : kOf ls[j] < 2 := by simp only [kOf]; split <;> omega
      have HLN := hide hln.out
      have HCN := hide hcn.out
      obtain ⟨y0, y1⟩ := hrow.get (kOf ls[j]) (by rw [HLN.out]; omega)
      obtain ⟨hv0, hv1⟩ := HCN.out.at (kOf ls[j]) (by rw [HLN.out]; omega)
      have hkb2 : bump (featL (ls.take j) (List.replicate N 0)) (kOf ls[j]) = (featL (ls.take j) (List.replicate N 0)).set (kOf ls[j]) ((featL (ls.take j) (List.replicate N 0))[kOf ls[j]]'(by rw [HLN.out]; omega) + 1) := by
        rw [bump, List.getD_eq_getElem?_getD, List.getElem?_eq_getElem (by rw [HLN.out]; omega), Option.getD_some]
      generalize (featL (ls.take j) (List.replicate N 0))[kOf ls[j]]'(by rw [HLN.out]; omega) = v at *
      have hv2 : v < 1000000000000000000 := by omega
      have HROW := hide (show RowAt _ nb (bump (featL (ls.take j) (List.replicate N 0)) (kOf ls[j])) 3 by rw [hkb2]; exact hrow.set (kOf ls[j]) (v + 1))
      have HKS := hide (show Keep (fun b => b ≠ nb) _ _ from (Keep.refl _ (wr.alloc (.cells #[.bool ls[j].neg, .int .i64 ls[j].l.h, .slice a1 ls[j].l.args.length c1, .int .i64 ls[j].r.h, .slice a2 ls[j].r.args.length c2] 142))).setCell (p := ⟨nb, kOf ls[j], none⟩) (by simp) (.int .i64 (v + 1)))
      have HCB := hide (HCN.out.bump (kOf ls[j]) (by omega))
      have HLB := hide ((bump_length (featL (ls.take j) (List.replicate N 0)) (kOf ls[j])).trans HLN.out)
      have hge : wr.heap.size + 1 = (wr.alloc (.cells #[.bool ls[j].neg, .int .i64 ls[j].l.h, .slice a1 ls[j].l.args.length c1, .int .i64 ls[j].r.h, .slice a2 ls[j].r.args.length c2] 142)).heap.size := by simp [World.size_alloc]
      clear hkb2 hrow kb hB t1 t2 hts hln hcn hrw hkp hus HCN HLN hv1
      have HKO := hide (show kOf ls[j] = if ls[j].neg = true then 1 else 0 from rfl)
      generalize kOf ls[j] = ko at *
      generalize hng : ls[j].neg = ng at *
      generalize ls[j].l = tl at *
      generalize ls[j].r = tr at *
      generalize bump (featL (ls.take j) (List.replicate N 0)) ko = l0 at *
      cases ng
      · obtain rfl : ko = 0 := by rw [HKO.out]; rfl
        clear hng HKO
        go_wp2_with fail
        rw [World.setCell_alloc_past _ _ _ _ hwz] at HKS HROW
        generalize hW2 : (wr.setCell ⟨nb, 0, none⟩ (.int .i64 (v + 1))).alloc (.cells #[.bool false, .int .i64 tl.h, .slice a1 tl.args.length c1, .int .i64 tr.h, .slice a2 tr.args.length c2] 142) = W2 at *
        have HKW := hide (HK1.out.trans HKS.out)
        have HBX := hide (HKS.out.obj hbn HKB.out)
        have HTS' := hide (show Lits (fun b => b = nb) W2 _ _ from RepD.frame (fun b hb hlt => HKS.out.block b hlt hb) (fun _ _ h => h) _ _ HTS.out)
        have HT1' := hide (HT1.out.keepS HKS.out fun b _ hb => hb)
        have HT2' := hide (HT2.out.keepS HKS.out fun b _ hb => hb)
        clear hW2
        refine (add_calls gs hgl2 0 (by omega) nb _ N HN.out tl.size tl _ l0 _ _ W2 (Nat.le_refl _) HU1.out HLB.out (by omega) (by omega) HCB.out HROW.out ⟨rfl, HT1'.out⟩).mono ?_
        rintro e w4 ⟨rfl, s4, k4⟩
        clear z0 z1 z2 z3 z4 y0 y1 q0 q1 q2 q3 q4 HT1 HT2 HTS HKS HKB HK1
        obtain ⟨z0, z1, z2, z3, z4⟩ := box5 (k4.obj hbn HBX.out)
        have HS4 := hide s4
        have HL4 := hide ((addT_length 0 tl l0).trans HLB.out)
        have HC4 := hide (HCB.out.addT 0 (by omega) tl l0)
        have HK4 := hide (HKW.out.trans k4)
        have HT4 := hide (HT2'.out.keepS k4 fun b _ hb => hb)
        have HTS4 := hide (show Lits (fun b => b = nb) w4 _ _ from RepD.frame (fun b hb hlt => k4.block b hlt hb) (fun _ _ h => h) _ _ HTS'.out)
        clear s4 k4 HROW HLB HCB HKW HT1' HT2' HTS' HBX
        go_wp2_with fail
        refine (add_calls gs hgl2 0 (by omega) nb _ N HN.out tr.size tr _ (addT 0 tl l0) _ _ w4 (Nat.le_refl _) HU2.out HL4.out (by omega) (by omega) HC4.out HS4.out ⟨rfl, HT4.out⟩).mono ?_
        rintro e w5 ⟨rfl, s5, k5⟩
        have HS5 := hide s5
        have HL5 := hide ((addT_length 0 tr (addT 0 tl l0)).trans HL4.out)
        have HC5 := hide ((HC4.out.addT 0 (by omega) tr _).mono (show _ ≤ 3000000000 * ((j + 1 : Nat) : Int) by omega))
        have HK5 := hide (HK4.out.trans k5)
        have HTS5 := hide (show Lits (fun b => b = nb) w5 _ _ from RepD.frame (fun b hb hlt => k5.block b hlt hb) (fun _ _ h => h) _ _ HTS4.out)
        clear s5 k5 z0 z1 z2 z3 z4 HS4 HL4 HC4 HK4 HT4 HTS4
        go_wp2
        go_roundw
        case rel => exact ⟨j + 1, by omega, by go_num, hide (by rw [HAT.out]; exact HL5.out), hide (by rw [HAT.out]; exact HC5.out), hide (by rw [HAT.out]; exact HS5.out), HK5, HTS5⟩
        case measure => simp [intOf]; omega
      · obtain rfl : ko = 1 := by rw [HKO.out]; rfl
        clear hng HKO
        go_wp2_with fail
        rw [World.setCell_alloc_past _ _ _ _ hwz] at HKS HROW
        generalize hW2 : (wr.setCell ⟨nb, 1, none⟩ (.int .i64 (v + 1))).alloc (.cells #[.bool true, .int .i64 tl.h, .slice a1 tl.args.length c1, .int .i64 tr.h, .slice a2 tr.args.length c2] 142) = W2 at *
        have HKW := hide (HK1.out.trans HKS.out)
        have HBX := hide (HKS.out.obj hbn HKB.out)
        have HTS' := hide (show Lits (fun b => b = nb) W2 _ _ from RepD.frame (fun b hb hlt => HKS.out.block b hlt hb) (fun _ _ h => h) _ _ HTS.out)
        have HT1' := hide (HT1.out.keepS HKS.out fun b _ hb => hb)
        have HT2' := hide (HT2.out.keepS HKS.out fun b _ hb => hb)
        clear hW2
        refine (add_calls gs hgl2 1 (by omega) nb _ N HN.out tl.size tl _ l0 _ _ W2 (Nat.le_refl _) HU1.out HLB.out (by omega) (by omega) HCB.out HROW.out ⟨rfl, HT1'.out⟩).mono ?_
        rintro e w4 ⟨rfl, s4, k4⟩
        clear z0 z1 z2 z3 z4 y0 y1 q0 q1 q2 q3 q4 HT1 HT2 HTS HKS HKB HK1
        obtain ⟨z0, z1, z2, z3, z4⟩ := box5 (k4.obj hbn HBX.out)
        have HS4 := hide s4
        have HL4 := hide ((addT_length 1 tl l0).trans HLB.out)
        have HC4 := hide (HCB.out.addT 1 (by omega) tl l0)
        have HK4 := hide (HKW.out.trans k4)
        have HT4 := hide (HT2'.out.keepS k4 fun b _ hb => hb)
        have HTS4 := hide (show Lits (fun b => b = nb) w4 _ _ from RepD.frame (fun b hb hlt => k4.block b hlt hb) (fun _ _ h => h) _ _ HTS'.out)
        clear s4 k4 HROW HLB HCB HKW HT1' HT2' HTS' HBX
        go_wp2_with fail
        refine (add_calls gs hgl2 1 (by omega) nb _ N HN.out tr.size tr _ (addT 1 tl l0) _ _ w4 (Nat.le_refl _) HU2.out HL4.out (by omega) (by omega) HC4.out HS4.out ⟨rfl, HT4.out⟩).mono ?_
        rintro e w5 ⟨rfl, s5, k5⟩
        have HS5 := hide s5
        have HL5 := hide ((addT_length 1 tr (addT 1 tl l0)).trans HL4.out)
        have HC5 := hide ((HC4.out.addT 1 (by omega) tr _).mono (show _ ≤ 3000000000 * ((j + 1 : Nat) : Int) by omega))
        have HK5 := hide (HK4.out.trans k5)
        have HTS5 := hide (show Lits (fun b => b = nb) w5 _ _ from RepD.frame (fun b hb hlt => k5.block b hlt hb) (fun _ _ h => h) _ _ HTS4.out)
        clear s5 k5 z0 z1 z2 z3 z4 HS4 HL4 HC4 HK4 HT4 HTS4
        go_wp2
        go_roundw
        case rel => exact ⟨j + 1, by omega, by go_num, hide (by rw [HAT.out]; exact HL5.out), hide (by rw [HAT.out]; exact HC5.out), hide (by rw [HAT.out]; exact HS5.out), HK5, HTS5⟩
        case measure => simp [intOf]; omega
    · obtain rfl : j = ls.length := by omega
      have h8 := hrw.out
      rw [List.take_length, ← HFE.out] at h8
      have HR := hide h8
      have HE := hide (more_below HB1.out (HBR.out.trans (hkp.out.below (fun b hb => by have := HNB.out; omega) (Nat.le_of_lt (HNB.out ▸ hnb)))))
      clear h8 hln hcn hrw hkp hts
      go_wp2
      exact bodyPost_ret (v := .tuple #[.slice (some ⟨nb, 0, none⟩) N N, .int .i64 0]) (by simp [results, Try.results61, go_sem]) rfl ⟨HE.out, .inr ⟨HW.out, nb, hbl1, rfl, HR.out⟩⟩
end Go.Proofs.Ythplndalbfcbbaa
set_option linter.unusedSimpArgs false
set_option linter.unusedVariables false
namespace Go.Proofs.Ythplndalbfcbbaa
open Go.RowKit
def IntsIn (w : World) (a : Option Addr) (l : List Int) : Prop := l.length ≤ 9223372036854775807 ∧ ∀ i (h : i < l.length), ∃ b off, a = some ⟨b, off, none⟩ ∧ w.cell? ⟨b, off + i, none⟩ = some (.int .i64 l[i])
theorem RowAt.ins {w : World} {b : Nat} {l : List Int} {t : TypeId} (h : RowAt w b l t) (hl : l.length ≤ 9223372036854775807) : IntsIn w (some ⟨b, 0, none⟩) l :=
  ⟨hl, fun i hi => ⟨b, 0, rfl, by rw [Nat.zero_add]; exact (h.get i hi).1⟩⟩
def underL : List Int → List Int → Bool
  | [], _ => true
  | x :: a, y :: b => decide (x ≤ y) && underL a b
  | _ :: _, [] => false
def underB (a b : List Int) : Bool := decide (a.length = b.length) && underL a b
theorem underL_take (a b : List Int) (k : Nat) (h : k < a.length) (h' : k < b.length) : underL (a.take (k + 1)) b = (underL (a.take k) b && decide (a[k] ≤ b[k])) := by
  induction a generalizing b k with
  | nil => simp at h
  | cons x a ih =>
    cases b with
    | nil => simp at h'
    | cons y b =>
      cases k with
      | zero => simp [underL]
      | succ k =>
        simp only [List.take_succ_cons, underL, List.getElem_cons_succ]
        rw [ih b k (by simpa using h) (by simpa using h'), Bool.and_assoc]
theorem underL_false {a b : List Int} {k : Nat} (h : underL (a.take k) b = false) : underL a b = false := by
  induction a generalizing b k with
  | nil => simp [underL] at h
  | cons x a ih =>
    cases k with
    | zero => simp [underL] at h
    | succ k =>
      cases b with
      | nil => rfl
      | cons y b =>
        simp only [List.take_succ_cons, underL, Bool.and_eq_false_iff] at h ⊢
        rcases h with h | h
        · exact .inl h
        · exact .inr (ih h)
set_option maxHeartbeats 4000000 in
set_option maxRecDepth 100000 in
theorem under_calls (la lb : List Int) (a b : Option Addr) (ca cb : Nat) (w : World) (ha : IntsIn w a la) (hb : IntsIn w b lb) :
    Calls Try.prog 65 #[.slice a la.length ca, .slice b lb.length cb] w fun e w' => e = .returned (.bool (underB la lb)) ∧ w' = w := by
  obtain ⟨hla, HA⟩ := ha
  obtain ⟨hlb, HB⟩ := hb
  have HA := hide HA
  have HB := hide HB
  by_cases hl : la.length = lb.length
  rotate_left
  · have hne : ((la.length : Int) != (lb.length : Int)) = true := by simp; omega
    have HR := hide (show underB la lb = false by simp [underB, hl])
    clear hl
    go_enter Try.func65, Try.ntmps65
    go_wp2
    go_ret
    exact ⟨ret_bool HR.out.symm, rfl⟩
  · have hne : ((la.length : Int) != (lb.length : Int)) = false := by simp; omega
    have HL := hide hl
    have HR := hide (show underB la lb = underL la lb by simp [underB, hl])
    clear hl
    go_enter Try.func65, Try.ntmps65
    go_wp2
    go_loopw [14] (fun i wr => ∃ k : Nat, k ≤ la.length ∧ i = .int .i64 k ∧ Hid (underL (la.take k) lb = true) ∧ Hid (wr = w)) (fun i _ => la.length - (intOf i).toNat)
    case atStart => exact ⟨0, by omega, rfl, hide (by simp [underL]), hide rfl⟩
    case round =>
      obtain ⟨k, hk, rfl, hz, hw⟩ := hrel
      by_cases hlt : k < la.length
      · obtain ⟨b1, o1, rfl, q1⟩ := HA.out k hlt
        have hlt2 : k < lb.length := by have := HL.out; omega
        obtain ⟨b2, o2, rfl, q2⟩ := HB.out k hlt2
        rw [← hw.out] at q1 q2
        have HT := hide (underL_take la lb k hlt hlt2)
        generalize la[k] = x at *
        generalize lb[k] = y at *
        by_cases hxy : x ≤ y
        · have hd : decide (x > y) = false := by simp; omega
          have HX := hide hxy
          clear hxy
          go_wp2
          go_roundw
          case rel => exact ⟨k + 1, by omega, by go_num, hide (by rw [HT.out, hz.out]; simpa using HX.out), hw⟩
          case measure => simp [intOf]; omega
        · have hd : decide (x > y) = true := by simp; omega
          have HRR := hide (show underB la lb = false by rw [HR.out]; exact underL_false (k := k + 1) (by rw [HT.out]; simp [hxy]))
          clear hxy
          go_wp2
          go_ret
          exact ⟨ret_bool HRR.out.symm, hw.out⟩
      · obtain rfl : k = la.length := by omega
        have HRR := hide (show underB la lb = true by rw [HR.out]; have := hz.out; rwa [List.take_length] at this)
        go_wp2
        go_ret
        exact ⟨ret_bool HRR.out.symm, hw.out⟩
end Go.Proofs.Ythplndalbfcbbaa
set_option linter.unusedSimpArgs false
set_option linter.unusedVariables false
namespace Go.Proofs.Ythplndalbfcbbaa
open Go.RowKit
abbrev FRows := List (Int × List Int)
def rowOf (M : FRows) (id : Int) : List Int := ((M.find? fun p => p.1 == id).map (·.2)).getD []
theorem rowOf_mem {M : FRows} (hn : (M.map (·.1)).Nodup) {id : Int} {row : List Int} (h : (id, row) ∈ M) : rowOf M id = row := by
  induction M with
  | nil => cases h
  | cons p M ih =>
    simp only [List.map_cons, List.nodup_cons] at hn
    rcases List.mem_cons.1 h with rfl | h
    · simp [rowOf]
    · have hne : p.1 ≠ id := fun e => hn.1 (List.mem_map.2 ⟨_, h, e.symm⟩)
      have := ih hn.2 h
      simp only [rowOf] at this ⊢
      rw [List.find?_cons_of_neg (by simpa using hne)]
      exact this
structure RowsAt (w : World) (mb : Nat) (f : Int → Option Value) (M : FRows) (N : Nat) : Prop where
  nd : (M.map (·.1)).Nodup
  val : ∀ id v, f id = some v → ∃ row nb, (id, row) ∈ M ∧ v = .slice (some ⟨nb, 0, none⟩) N N ∧ row.length = N ∧ RowAt w nb row 3 ∧ nb ≠ mb
  dom : ∀ id row, (id, row) ∈ M → ∃ v, f id = some v
theorem RowsAt.keep {S : Nat → Prop} {w w' : World} {mb : Nat} {f : Int → Option Value} {M : FRows} {N : Nat} (h : RowsAt w mb f M N) (hk : Keep S w w') (hS : ∀ b, b < w.heap.size → b ≠ mb → S b) : RowsAt w' mb f M N :=
  ⟨h.nd, fun id v hv => by
    obtain ⟨row, nb, h1, h2, h3, h4, h5⟩ := h.val id v hv
    exact ⟨row, nb, h1, h2, h3, hk.obj (hS nb (Array.getElem?_eq_some_iff.1 h4).1 h5) h4, h5⟩, h.dom⟩
def closF (ov : Bool) : FuncId := if ov = true then 131 else 133
def closB (ov : Bool) (n row : List Int) : Bool := if ov = true then underB n row else underB row n
set_option maxHeartbeats 4000000 in
set_option maxRecDepth 100000 in
theorem clos_calls (ov : Bool) (n row : List Int) (a b : Option Addr) (ca cb qb : Nat) (w : World) (hq : w.heap[qb]? = some (.cells #[.slice a n.length ca] 37 (0, 0))) (ha : IntsIn w a n) (hb : IntsIn w b row) :
    Calls Try.prog (closF ov) #[.slice b row.length cb, .pointer (some ⟨qb, 0, none⟩)] w fun e w' => e = .returned (.bool (closB ov n row)) ∧ w' = w := by
  obtain ⟨-, q0, -⟩ := box1 hq
  cases ov
  · simp only [closF, closB, Bool.false_eq_true, if_false]
    go_enter Try.func133, Try.ntmps133
    go_wp2_with fail
    refine (under_calls row n b a cb ca w hb ha).mono ?_
    rintro e w1 ⟨rfl, rfl⟩
    go_wp2
    go_ret
    exact ⟨rfl, rfl⟩
  · simp only [closF, closB, if_true]
    go_enter Try.func131, Try.ntmps131
    go_wp2_with fail
    refine (under_calls n row a b ca cb w ha hb).mono ?_
    rintro e w1 ⟨rfl, rfl⟩
    go_wp2
    go_ret
    exact ⟨rfl, rfl⟩
def idsOf (ov : Bool) (n : List Int) (M : FRows) (dn : List Int) : List Int := (dn.filter fun id => closB ov n (rowOf M id)).reverse
theorem idsOf_cons (ov : Bool) (n : List Int) (M : FRows) (id : Int) (dn : List Int) : idsOf ov n M (id :: dn) = idsOf ov n M dn ++ if closB ov n (rowOf M id) = true then [id] else [] := by
  simp only [idsOf, List.filter_cons]
  split <;> simp
theorem nodup_leI : ∀ (l m : List Int), l.Nodup → (∀ x, x ∈ l → x ∈ m) → l.length ≤ m.length
  | [], m, _, _ => by simp
  | x :: l, m, hn, h => by
    rw [List.nodup_cons] at hn
    have hx := h x (by simp)
    have := nodup_leI l (m.erase x) hn.2 fun y hy => by
      have hne : y ≠ x := fun e => hn.1 (e ▸ hy)
      exact (List.mem_erase_of_ne hne).2 (h y (by simp [hy]))
    rw [List.length_erase_of_mem hx] at this
    have : 0 < m.length := List.length_pos_of_mem hx
    simp only [List.length_cons]
    omega
theorem RangeAt.some {W : World} {b r : Nat} {f : Int → Option Value} {dn : List Int} (h : RangeAt W b r f dn) : ∀ x ∈ dn, ∃ v, f x = .some v := by
  obtain ⟨es, clock, since, seen, c0, h1, h2, h3, h4, h5, h6, h7, h8, h9, h10, h11, h12⟩ := h
  exact h12
theorem RangeAt.nodup {W : World} {b r : Nat} {f : Int → Option Value} {dn : List Int} (h : RangeAt W b r f dn) : dn.Nodup := by
  obtain ⟨es, clock, since, seen, c0, h1, h2, h3, h4, h5, h6, h7, h8, h9, h10, h11, h12⟩ := h
  exact h11
theorem idsOf_length {W w : World} {b r mb N : Nat} {f : Int → Option Value} {dn : List Int} {M : FRows} (h : RangeAt W b r f dn) (hr : RowsAt w mb f M N) (hM : M.length ≤ 1000) (ov : Bool) (n : List Int) : (idsOf ov n M dn).length ≤ 1000 := by
  have h1 : dn.length ≤ (M.map (·.1)).length := nodup_leI _ _ h.nodup fun x hx => by
    obtain ⟨v, hv⟩ := h.some x hx
    obtain ⟨row, nb, h2, _⟩ := hr.val x v hv
    exact List.mem_map.2 ⟨_, h2, rfl⟩
  have h2 : (dn.filter fun id => closB ov n (rowOf M id)).length ≤ dn.length := List.length_filter_le _ _
  simp only [idsOf, List.length_reverse, List.length_map] at *
  omega
set_option maxHeartbeats 4000000 in
set_option maxRecDepth 100000 in
theorem find_calls (ov : Bool) (n : List Int) (M : FRows) (N : Nat) (a : Option Addr) (ca qb xb mb : Nat) (sg : Value) (f : Int → Option Value) (w : World) (hM : M.length ≤ 1000) (hN : N ≤ 1000) (hn : n.length = N)
    (hx : w.heap[xb]? = some (.cells #[sg, .map (some mb)] 151 (0, 0))) (hm : MapAt w mb f) (hr : RowsAt w mb f M N) (hq : w.heap[qb]? = some (.cells #[.slice a n.length ca] 37 (0, 0))) (ha : ∃ nb, a = some ⟨nb, 0, none⟩ ∧ nb ≠ mb ∧ RowAt w nb n 3) :
    Calls Try.prog 130 #[.pointer (some ⟨xb, 0, none⟩), .func (.func (closF ov)) #[] #[.pointer (some ⟨qb, 0, none⟩)]] w fun e w' => ∃ v dn, e = .returned v ∧
      w'.ownsRow (w.heap.size + 1) 3 1 v (sortI (idsOf ov n M dn)).length ((sortI (idsOf ov n M dn)).map (Value.int .i64)) ∧ (∀ x, x ∈ dn ↔ ∃ row, (x, row) ∈ M) ∧ dn.Nodup ∧ Below w.heap.size w w' := by
  obtain ⟨ob, hrange, hra⟩ := hm.range (P := Try.prog) (t := 149) (k := 3) (e := 37) (by kernel_rfl)
  obtain ⟨-, q0, q1, -, -⟩ := box2 hx
  have HRA := hide hra
  have HR := hide hr
  have HQ := hide hq
  have HAN := hide ha
  have HB0 := hide (show Below w.heap.size w (w.alloc ob) from (Below.refl _ _).alloc (Nat.le_refl _) _)
  have HMB := hide hm.lt
  have HQB := hide (Array.getElem?_eq_some_iff.1 hq).1
  have HCL := hide (fun row b cb w' hq ha hb => clos_calls ov n row a b ca cb qb w' hq ha hb)
  have HN9 := hide hn
  clear hra hm hx hr hq ha
  rcases (show closF ov = 131 ∨ closF ov = 133 by cases ov <;> simp [closF]) with hF | hF
  all_goals
    rw [hF] at HCL ⊢
    clear hF
    go_enter Try.func130, Try.ntmps130
    go_wp2
    go_loopw [5] (fun v wr => ∃ dn : List Int, Hid (RangeAt wr mb w.heap.size f dn) ∧ Hid (wr.ownsRow (w.heap.size + 1) 3 1 v (idsOf ov n M dn).length ((idsOf ov n M dn).map (Value.int .i64))) ∧ Hid (Below w.heap.size w wr) ∧ Hid (w.heap.size + 1 ≤ wr.heap.size)) (fun _ wr => wr.rangeLeft mb w.heap.size)
    case atStart => exact ⟨[], HRA, hide (World.ownsRow_nil _ _ _ _), HB0, hide (by simp [World.size_alloc])⟩
    case round =>
      obtain ⟨dn, hra, hown, hbl, hsz⟩ := hrel
      rcases hra.out.next (P := Try.prog) 0 with ⟨hall, hrun⟩ | ⟨id, v, w2, hfv, hnd, hrun, hra2, hlt, hk2, hen⟩
      · have hlen := idsOf_length hra.out HR.out hM ov n
        have HD := hide (show (∀ x, x ∈ dn ↔ ∃ row, (x, row) ∈ M) ∧ dn.Nodup from ⟨fun x => ⟨fun h => by
          obtain ⟨v, hv⟩ := hra.out.some x h
          obtain ⟨row, nb, h1, _⟩ := HR.out.val x v hv
          exact ⟨row, h1⟩, fun ⟨row, h⟩ => by
          obtain ⟨v, hv⟩ := HR.out.dom x row h
          exact hall x v hv⟩, hra.out.nodup⟩)
        have HOW := hide hown.out
        have HSL := hide (sortI_length (idsOf ov n M dn))
        have HBL := hide hbl.out
        have HSZ := hide hsz.out
        clear hra hown hbl hsz hall
        go_wp2_with fail
        refine (sort_own (idsOf ov n M dn) _ _ _ wr (by omega) HOW.out).mono ?_
        rintro e w5 ⟨rfl, o5, k5⟩
        have HO5 := hide o5
        have HB5 := hide (HBL.out.trans (k5.below (fun b hb h => by have := HOW.out.lt b h; omega) (by have := HSZ.out; omega)))
        clear o5 k5 hrun
        go_wp2
        go_ret
        exact ⟨_, dn, rfl, by rw [HSL.out]; exact HO5.out, HD.out.1, HD.out.2, HB5.out⟩
      · obtain ⟨row, nb, hmem, rfl, hrl, hrow, hne⟩ := HR.out.val id v hfv
        have hB2 : Below w.heap.size w w2 := hbl.out.trans (hk2.below (fun b hb => by omega) (by have := hsz.out; omega))
        obtain ⟨na, rfl, hna, hnr⟩ := HAN.out
        have HCA := hide (HCL.out row (some ⟨nb, 0, none⟩) N w2 ((hB2.block _ HQB.out).trans HQ.out) (RowAt.ins (show RowAt w2 na n 3 from (hB2.block _ (Array.getElem?_eq_some_iff.1 hnr).1).trans hnr) (by omega)) (RowAt.ins (show RowAt w2 nb row 3 from (hB2.block _ (Array.getElem?_eq_some_iff.1 hrow).1).trans hrow) (by omega)))
        rw [hrl] at HCA
        have HLT := hide hlt
        have hlen := idsOf_length hra.out HR.out hM ov n
        have HRA2 := hide hra2
        have HIC := hide (idsOf_cons ov n M id dn)
        rw [rowOf_mem HR.out.nd hmem] at HIC
        have HO2 := hide (ownsRow_keep hown.out hk2 (fun b hb => by have := (hown.out.lt b hb); omega))
        have HB2 := hide hB2
        have HS2 := hide (Nat.le_trans hsz.out hk2.size)
        clear hra hown hbl hsz hfv hnd hra2 hlt hk2 hmem hrl hrow hne hB2 hna hnr
        go_wp2_with fail
        refine HCA.out.mono ?_
        rintro e w3 ⟨rfl, rfl⟩
        clear HCA hen hrun
        generalize closB ov n row = cb at *
        cases cb
        · go_wp2
          go_roundw
          case rel => exact ⟨id :: dn, HRA2, hide (by rw [HIC.out]; simpa using HO2.out), HB2, HS2⟩
          case measure => exact HLT.out
        · have hk9 : ((idsOf ov n M dn).length + 1) * 8 ≤ 140737488355328 := by omega
          go_wp2_with (at_builtin; refine app_pl rfl _ _ 37 rfl (w.heap.size + 1) 3 (.int .i64 0) 1 8 Try.underlying37 (by kernel_rfl) rfl (by decide) (by decide) u5 (idsOf ov n M dn).length _ rfl HO2.out 1 1 _ rfl (by simp [Value.oneCell']) rfl hk9 HS2.out ?_; intro v' w9 r1 r2 r3 r4)
          have hob := HO2.out.lt
          have hmb := HMB.out
          obtain ⟨va, vc, rfl⟩ := r4
          have HRA3 := hide (HRA2.out.keep r2 (fun h => by have := hob _ h; omega) (fun h => by have := hob _ h; omega))
          have HLK := hide (HRA2.out.left_keep r2 (fun h => by have := hob _ h; omega) (fun h => by have := hob _ h; omega))
          have HB9 := hide (HB2.out.trans (r2.below (fun b hb h => by have := hob b h; omega) (by have := HS2.out; omega)))
          go_roundw
          case rel => exact ⟨id :: dn, HRA3, hide (by rw [HIC.out]; simpa using r1), HB9, hide (Nat.le_trans HS2.out r2.size)⟩
          case measure => rw [HLK.out]; exact HLT.out
end Go.Proofs.Ythplndalbfcbbaa
set_option linter.unusedSimpArgs false
set_option linter.unusedVariables false
namespace Go.Proofs.Ythplndalbfcbbaa
open Go.RowKit
structure IxAt (w : World) (xb mb : Nat) (gs : List Sy) (M : FRows) (N : Nat) (sg : Value) (f : Int → Option Value) : Prop where
  x : w.heap[xb]? = some (.cells #[sg, .map (some mb)] 151 (0, 0))
  g : Syms (fun b => b = mb) w sg gs
  m : MapAt w mb f
  r : RowsAt w mb f M N
  ne : xb ≠ mb
  n : N = 2 + 2 * gs.length
  ok : weighC gs = 0
theorem IxAt.below {w w' : World} {xb mb : Nat} {gs : List Sy} {M : FRows} {N : Nat} {sg : Value} {f : Int → Option Value} (h : IxAt w xb mb gs M N sg f) (hB : Below w.heap.size w w') : IxAt w' xb mb gs M N sg f :=
  ⟨(hB.block _ (Array.getElem?_eq_some_iff.1 h.x).1).trans h.x, h.g.below hB, h.m.below hB, h.r.keep (S := fun _ => True) (.of_below hB) (fun _ _ _ => trivial), h.ne, h.n, h.ok⟩
set_option maxHeartbeats 4000000 in
set_option maxRecDepth 100000 in
theorem xof_calls (gs : List Sy) (M : FRows) (N : Nat) (sg : Value) (f : Int → Option Value) (xb mb : Nat) (ls : List Lt) (B : Nat → Prop) (sl : Value) (w : World) (h9 : LtsOk ls) (hx : IxAt w xb mb gs M N sg f) (hl : Lits B w sl ls) :
    Calls Try.prog 128 #[.pointer (some ⟨xb, 0, none⟩), sl] w fun e w' => Below w.heap.size w w' ∧
      ((clauseC gs ls ≠ 0 ∧ e = .returned (.tuple #[.slice none 0 0, .int .i64 (clauseC gs ls)])) ∨
       (clauseC gs ls = 0 ∧ ∃ nb, w.heap.size ≤ nb ∧ e = .returned (.tuple #[.slice (some ⟨nb, 0, none⟩) N N, .int .i64 0]) ∧ RowAt w' nb (feat gs ls) 3)) := by
  have HCA := hide (fof_calls gs ls _ B sg sl w N hx.n h9 hx.g hl)
  obtain ⟨-, q0, q1, -, -⟩ := box2 hx.x
  obtain ⟨ag, cg, rfl, hgl, hgc⟩ := hx.g.shape
  clear hx hl
  go_enter Try.func128, Try.ntmps128
  go_wp2_with fail
  refine HCA.out.mono ?_
  rintro e w1 ⟨hB, ⟨hc, rfl⟩ | ⟨hc, nb, hnb, rfl, hrow⟩⟩
  · have HC := hide hc
    have HB := hide hB
    clear hc hB HCA q0 q1
    go_wp2
    exact bodyPost_ret (v := .tuple #[.slice none 0 0, .int .i64 (clauseC gs ls)]) (by simp [results, Try.results128, go_sem]) rfl ⟨HB.out, .inl ⟨HC.out, rfl⟩⟩
  · have HC := hide hc
    have HB := hide hB
    have HR := hide hrow
    clear hc hB hrow HCA q0 q1
    go_wp2
    exact bodyPost_ret (v := .tuple #[.slice (some ⟨nb, 0, none⟩) N N, .int .i64 0]) (by simp [results, Try.results128, go_sem]) rfl ⟨HB.out, .inr ⟨HC.out, nb, hnb, rfl, HR.out⟩⟩
theorem featL_length : ∀ (ls : List Lt) (l : List Int), (featL ls l).length = l.length
  | [], l => rfl
  | x :: r, l => by rw [featL, featL_length, addT_length, addT_length, bump_length]
theorem feat_length (gs : List Sy) (ls : List Lt) : (feat gs ls).length = 2 + 2 * gs.length := by simp [feat, featL_length]
def Finds (ov : Bool) (gs : List Sy) (M : FRows) (ls : List Lt) (w : World) (e : Ending) (w' : World) : Prop :=
  Below w.heap.size w w' ∧
      ((clauseC gs ls ≠ 0 ∧ e = .returned (.tuple #[.slice none 0 0, .int .i64 (clauseC gs ls)])) ∨
       (clauseC gs ls = 0 ∧ ∃ v dn base, w.heap.size ≤ base ∧ e = .returned (.tuple #[v, .int .i64 0]) ∧ w'.ownsRow base 3 1 v (sortI (idsOf ov (feat gs ls) M dn)).length ((sortI (idsOf ov (feat gs ls) M dn)).map (Value.int .i64)) ∧ (∀ x, x ∈ dn ↔ ∃ row, (x, row) ∈ M) ∧ dn.Nodup))
set_option maxHeartbeats 4000000 in
set_option maxRecDepth 100000 in
theorem xover_calls (gs : List Sy) (M : FRows) (N : Nat) (sg : Value) (f : Int → Option Value) (xb mb : Nat) (ls : List Lt) (B : Nat → Prop) (sl : Value) (w : World) (hM : M.length ≤ 1000) (h9 : LtsOk ls) (hx : IxAt w xb mb gs M N sg f) (hl : Lits B w sl ls) :
    Calls Try.prog 72 #[.pointer (some ⟨xb, 0, none⟩), sl] w fun e w' => Finds true gs M ls w e w' := by
  have HX := hide hx
  have HCA := hide (xof_calls gs M N sg f xb mb ls B sl w h9 hx hl)
  have hN9 : N ≤ 1000 := by have := (weighC_len hx.ok).2; have := hx.n; omega
  have HFL := hide (show (feat gs ls).length = N by rw [feat_length, hx.n])
  clear hx hl
  go_enter Try.func72, Try.ntmps72
  go_wp2_with fail
  refine HCA.out.mono ?_
  rintro e w1 ⟨hB, ⟨hc, rfl⟩ | ⟨hc, nb, hnb, rfl, hrow⟩⟩
  · have hne : (clauseC gs ls != 0) = true := by simpa using hc
    have HC := hide hc
    have HB := hide (hB.alloc (Nat.le_trans (Nat.le_refl _) hB.size) (.cells #[.slice none 0 0] 37))
    clear hc hB HCA
    go_wp2
    exact bodyPost_ret (v := .tuple #[.slice none 0 0, .int .i64 (clauseC gs ls)]) (by simp [results, Try.results72, go_sem]) rfl ⟨HB.out, .inl ⟨HC.out, rfl⟩⟩
  · have hal : Below w1.heap.size w1 (w1.alloc (.cells #[.slice (some ⟨nb, 0, none⟩) N N] 37)) := (Below.refl _ _).alloc (Nat.le_refl _) _
    have HIX := hide ((HX.out.below hB).below hal)
    have HB := hide (hB.alloc hB.size (.cells #[.slice (some ⟨nb, 0, none⟩) N N] 37))
    have hq : (w1.alloc (.cells #[.slice (some ⟨nb, 0, none⟩) N N] 37)).heap[w1.heap.size]? = some (.cells #[.slice (some ⟨nb, 0, none⟩) (feat gs ls).length N] 37 (0, 0)) := by rw [HFL.out]; exact World.alloc_heap_new _ _
    have hr2 : RowAt (w1.alloc (.cells #[.slice (some ⟨nb, 0, none⟩) N N] 37)) nb (feat gs ls) 3 := (hal.block _ (Array.getElem?_eq_some_iff.1 hrow).1).trans hrow
    have hmb : nb ≠ mb := by have := HX.out.m.lt; omega
    have HCF := hide (find_calls true (feat gs ls) M N (some ⟨nb, 0, none⟩) N w1.heap.size xb mb sg f _ hM hN9 HFL.out HIX.out.x HIX.out.m HIX.out.r hq ⟨nb, rfl, hmb, hr2⟩)
    simp only [closF, Bool.false_eq_true, if_true, if_false] at HCF
    have HC := hide hc
    have hs1 := hB.size
    have hs2 : (w1.alloc (.cells #[.slice (some ⟨nb, 0, none⟩) N N] 37)).heap.size = w1.heap.size + 1 := by rw [World.size_alloc]
    clear hc hB HCA hal hq hr2 hrow HX HIX
    go_wp2_with fail
    generalize w1.alloc (.cells #[.slice (some ⟨nb, 0, none⟩) N N] 37) = W at *
    refine HCF.out.mono ?_
    rintro e w2 ⟨v, dn, rfl, o2, d1, d2, k2⟩
    have HO := hide o2
    have HD := hide (And.intro d1 d2)
    have HB2 := hide (more_below HB.out k2)
    clear o2 d1 d2 k2 HCF HB
    go_wp2
    exact bodyPost_ret (v := .tuple #[v, .int .i64 0]) (by simp [results, Try.results72, go_sem]) rfl ⟨HB2.out, .inr ⟨HC.out, v, dn, _, by omega, rfl, HO.out, HD.out.1, HD.out.2⟩⟩
set_option maxHeartbeats 4000000 in
set_option maxRecDepth 100000 in
theorem xbelow_calls (gs : List Sy) (M : FRows) (N : Nat) (sg : Value) (f : Int → Option Value) (xb mb : Nat) (ls : List Lt) (B : Nat → Prop) (sl : Value) (w : World) (hM : M.length ≤ 1000) (h9 : LtsOk ls) (hx : IxAt w xb mb gs M N sg f) (hl : Lits B w sl ls) :
    Calls Try.prog 74 #[.pointer (some ⟨xb, 0, none⟩), sl] w fun e w' => Finds false gs M ls w e w' := by
  have HX := hide hx
  have HCA := hide (xof_calls gs M N sg f xb mb ls B sl w h9 hx hl)
  have hN9 : N ≤ 1000 := by have := (weighC_len hx.ok).2; have := hx.n; omega
  have HFL := hide (show (feat gs ls).length = N by rw [feat_length, hx.n])
  clear hx hl
  go_enter Try.func74, Try.ntmps74
  go_wp2_with fail
  refine HCA.out.mono ?_
  rintro e w1 ⟨hB, ⟨hc, rfl⟩ | ⟨hc, nb, hnb, rfl, hrow⟩⟩
  · have hne : (clauseC gs ls != 0) = true := by simpa using hc
    have HC := hide hc
    have HB := hide (hB.alloc (Nat.le_trans (Nat.le_refl _) hB.size) (.cells #[.slice none 0 0] 37))
    clear hc hB HCA
    go_wp2
    exact bodyPost_ret (v := .tuple #[.slice none 0 0, .int .i64 (clauseC gs ls)]) (by simp [results, Try.results74, go_sem]) rfl ⟨HB.out, .inl ⟨HC.out, rfl⟩⟩
  · have hal : Below w1.heap.size w1 (w1.alloc (.cells #[.slice (some ⟨nb, 0, none⟩) N N] 37)) := (Below.refl _ _).alloc (Nat.le_refl _) _
    have HIX := hide ((HX.out.below hB).below hal)
    have HB := hide (hB.alloc hB.size (.cells #[.slice (some ⟨nb, 0, none⟩) N N] 37))
    have hq : (w1.alloc (.cells #[.slice (some ⟨nb, 0, none⟩) N N] 37)).heap[w1.heap.size]? = some (.cells #[.slice (some ⟨nb, 0, none⟩) (feat gs ls).length N] 37 (0, 0)) := by rw [HFL.out]; exact World.alloc_heap_new _ _
    have hr2 : RowAt (w1.alloc (.cells #[.slice (some ⟨nb, 0, none⟩) N N] 37)) nb (feat gs ls) 3 := (hal.block _ (Array.getElem?_eq_some_iff.1 hrow).1).trans hrow
    have hmb : nb ≠ mb := by have := HX.out.m.lt; omega
    have HCF := hide (find_calls false (feat gs ls) M N (some ⟨nb, 0, none⟩) N w1.heap.size xb mb sg f _ hM hN9 HFL.out HIX.out.x HIX.out.m HIX.out.r hq ⟨nb, rfl, hmb, hr2⟩)
    simp only [closF, Bool.false_eq_true, if_true, if_false] at HCF
    have HC := hide hc
    have hs1 := hB.size
    have hs2 : (w1.alloc (.cells #[.slice (some ⟨nb, 0, none⟩) N N] 37)).heap.size = w1.heap.size + 1 := by rw [World.size_alloc]
    clear hc hB HCA hal hq hr2 hrow HX HIX
    go_wp2_with fail
    generalize w1.alloc (.cells #[.slice (some ⟨nb, 0, none⟩) N N] 37) = W at *
    refine HCF.out.mono ?_
    rintro e w2 ⟨v, dn, rfl, o2, d1, d2, k2⟩
    have HO := hide o2
    have HD := hide (And.intro d1 d2)
    have HB2 := hide (more_below HB.out k2)
    clear o2 d1 d2 k2 HCF HB
    go_wp2
    exact bodyPost_ret (v := .tuple #[v, .int .i64 0]) (by simp [results, Try.results74, go_sem]) rfl ⟨HB2.out, .inr ⟨HC.out, v, dn, _, by omega, rfl, HO.out, HD.out.1, HD.out.2⟩⟩
end Go.Proofs.Ythplndalbfcbbaa
set_option linter.unusedSimpArgs false
set_option linter.unusedVariables false
namespace Go.Proofs.Ythplndalbfcbbaa
open Go.RowKit
theorem Sy.oneD (s : Sy) : OneD s.d := by
  intro A w cs h u hu
  rw [repSy] at h
  subst h
  simp [Sy.cells] at hu
  rcases hu with rfl | rfl | rfl | rfl <;> rfl
set_option maxHeartbeats 2000000 in
set_option maxRecDepth 100000 in
theorem sclone_calls (gs : List Sy) (A : Nat → Prop) (s : Value) (w : World) (hl : gs.length ≤ 1000000) (h0 : 1 ≤ gs.length) (hs : Syms A w s gs) :
    Calls Try.prog 127 #[s] w fun e w' => ∃ ad c, e = .returned (.slice ad gs.length c) ∧ OwnD A w' w.heap.size 148 4 (.slice ad gs.length c) (gs.map Sy.d) ∧ Below w.heap.size w w' := by
  obtain ⟨a, c, rfl, hlc, hc⟩ := hs.shape
  obtain ⟨b, off, rfl, -⟩ := hs.get 0 h0
  have he : ∀ w : World, (binOp .eql 62 (.slice (some ⟨b, off, none⟩) gs.length c) (.slice none 0 0)).run Try.prog w = .ok (.bool false) w := fun _ => rfl
  have O0 : OwnD A (w.alloc (.cells #[] 148)) w.heap.size 148 4 (.slice (some ⟨w.heap.size, 0, none⟩) 0 0) [] := ⟨[], World.ownsRow_made w #[] 0 (Nat.le_refl _) (Nat.zero_le _) (by simp), by simp, .nil⟩
  have hal : Below w.heap.size w (w.alloc (.cells #[] 148)) := (Below.refl _ _).alloc (Nat.le_refl _) _
  have HX := hide (show RepD (fun b => A b ∨ (Value.slice (some ⟨w.heap.size, 0, none⟩) 0 0).ownBlock = some b) (w.alloc (.cells #[] 148)) (.row 4 (gs.map Sy.d)) [.slice (some ⟨b, off, none⟩) gs.length c] from
    RepD.frame (fun b _ hlt => hal.block b hlt) (fun b hb h => by
      rcases h with h | h
      · exact h
      · simp [Value.ownBlock] at h; omega) _ _ hs)
  have HO := hide O0
  have HB := hide (show w.heap.size ≤ (w.alloc (.cells #[] 148)).heap.size by simp)
  have HAL := hide hal
  clear hs O0 hal
  go_enter Try.func127, Try.ntmps127
  go_wp2_with (at_builtin; refine app_all_pl rfl (.tmp 5) (.tmp 6) 62 rfl w.heap.size 148 (.agg #[.string ⟨#[]⟩, .int .i64 0, .int .i64 0, .bool false]) 4 40 Try.underlying62 (by kernel_rfl) rfl (by decide) (v := .slice (some ⟨w.heap.size, 0, none⟩) 0 0) (xv := .slice (some ⟨b, off, none⟩) gs.length c) rfl rfl HO.out HX.out (fun d hd => by obtain ⟨z, -, rfl⟩ := List.mem_map.1 hd; exact Sy.oneD z) (by simp [maxLen]; omega) (by simp; omega) HB.out ?_; intro v' w' o' kp ob hsh)
  obtain ⟨ad, cap, rfl⟩ := hsh
  go_ret
  have e0 : ([] : List D).length + (gs.map Sy.d).length = gs.length := by simp
  refine ⟨ad, cap, by first | rfl | (rw [e0]; rfl) | simp, by first | exact o' | simpa using o', HAL.out.trans (kp.below (fun b hb h => ?_) HB.out)⟩
  simp [Value.ownBlock] at h; omega
set_option maxHeartbeats 2000000 in
set_option maxRecDepth 100000 in
theorem fnew_calls (gs : List Sy) (A : Nat → Prop) (s : Value) (w : World) (hs : Syms A w s gs) :
    Calls Try.prog 67 #[s] w fun e w' => Below w.heap.size w w' ∧
      ((weighC gs ≠ 0 ∧ e = .returned (.tuple #[.pointer none, .int .i64 (weighC gs)])) ∨
       (weighC gs = 0 ∧ ∃ xb mb sg, w.heap.size ≤ xb ∧ w.heap.size ≤ mb ∧ e = .returned (.tuple #[.pointer (some ⟨xb, 0, none⟩), .int .i64 0]) ∧ IxAt w' xb mb gs [] (2 + 2 * gs.length) sg fun _ => none)) := by
  have HS := hide hs
  clear hs
  obtain ⟨a, c, rfl, -, -⟩ := HS.out.shape
  go_enter Try.func67, Try.ntmps67
  go_wp2_with fail
  refine (weighc_calls gs A _ w HS.out).mono ?_
  rintro e w1 ⟨rfl, h1⟩
  have HB1 := hide h1
  have HS1 := hide (HS.out.below h1)
  by_cases hw : weighC gs = 0
  rotate_left
  · have hne : (weighC gs != 0) = true := by simpa using hw
    have HW := hide hw
    clear hw h1
    go_wp2
    exact bodyPost_ret (v := .tuple #[.pointer none, .int .i64 (weighC gs)]) (by simp [results, Try.results67, go_sem]) rfl ⟨HB1.out, .inl ⟨HW.out, rfl⟩⟩
  have hlen := weighC_len hw
  have HW := hide hw
  have hne : (weighC gs != 0) = false := by simpa using hw
  clear hw h1
  go_wp2_with fail
  refine (sclone_calls gs (fun _ => False) _ w1 (by omega) hlen.1 (RepD.bar (B := fun _ => False) HS1.out fun _ _ h => h.elim)).mono ?_
  rintro e w2 ⟨ad, cc, rfl, o2, h2⟩
  have HR2 := hide (show Syms (fun _ => False) w2 (.slice ad gs.length cc) gs from OwnD.rep o2 (fun _ h => h.elim))
  have HB2 := hide (more_below HB1.out h2)
  clear o2 h2 HS HS1
  have hmm := @run_makeMap Try.prog
  have hm2 := MapAt.made w2
  have hg2 : Below w2.heap.size w2 (w2.alloc (.map #[] 0)) := (Below.refl _ _).alloc (Nat.le_refl _) _
  have hs2 : (w2.alloc (.map #[] 0)).heap.size = w2.heap.size + 1 := by rw [World.size_alloc]
  have HRB := hide (show Syms (fun b => b = w2.heap.size) (w2.alloc (.map #[] 0)) (.slice ad gs.length cc) gs from RepD.frame (fun b _ hlt => hg2.block b hlt) (fun b hb h => by omega) _ _ HR2.out)
  have HM2 := hide hm2
  have HBW := hide (HB2.out.trans ((hg2.alloc (Nat.le_of_lt (by omega)) (.cells #[.slice ad gs.length cc, .map (some w2.heap.size)] 151)).mono HB2.out.size))
  have hlb := HB2.out.size
  clear hm2 hg2
  go_wp2
  generalize w2.alloc (.map #[] 0) = W at *
  have kb := World.alloc_heap_new W (.cells #[.slice ad gs.length cc, .map (some w2.heap.size)] 151)
  have hal : Below W.heap.size W (W.alloc (.cells #[.slice ad gs.length cc, .map (some w2.heap.size)] 151)) := (Below.refl _ _).alloc (Nat.le_refl _) _
  exact bodyPost_ret (v := .tuple #[.pointer (some ⟨W.heap.size, 0, none⟩), .int .i64 0]) (by simp [results, Try.results67, go_sem, hs2]) rfl ⟨HBW.out, .inr ⟨HW.out, _, w2.heap.size, _, by omega, by omega, rfl, ⟨kb, HRB.out.below hal, HM2.out.below hal, ⟨by simp, fun _ _ h => (by cases h), fun _ _ h => (by cases h)⟩, by omega, rfl, HW.out⟩⟩⟩
end Go.Proofs.Ythplndalbfcbbaa
set_option linter.unusedSimpArgs false
set_option linter.unusedVariables false
namespace Go.Proofs.Ythplndalbfcbbaa
open Go.RowKit
def inM (M : FRows) (id : Int) : Bool := M.any fun p => p.1 == id
theorem RowsAt.isSome {w : World} {mb : Nat} {f : Int → Option Value} {M : FRows} {N : Nat} (h : RowsAt w mb f M N) (id : Int) : (f id).isSome = inM M id := by
  cases hf : f id with
  | none =>
    symm
    simp only [Option.isSome_none, inM, List.any_eq_false, beq_iff_eq]
    rintro ⟨i, row⟩ hp rfl
    obtain ⟨v, hv⟩ := h.dom _ _ hp
    rw [hf] at hv
    cases hv
  | some v =>
    obtain ⟨row, nb, h1, _⟩ := h.val id v hf
    symm
    simp only [Option.isSome_some, inM, List.any_eq_true, beq_iff_eq]
    exact ⟨_, h1, rfl⟩
def putC (gs : List Sy) (M : FRows) (id : Int) (ls : List Lt) : Int := if clauseC gs ls ≠ 0 then clauseC gs ls else if inM M id = true then 1 else 0
def putM (gs : List Sy) (M : FRows) (id : Int) (ls : List Lt) : FRows := if putC gs M id ls = 0 then M ++ [(id, feat gs ls)] else M
set_option maxHeartbeats 4000000 in
set_option maxRecDepth 100000 in
theorem xput_calls (gs : List Sy) (M : FRows) (N : Nat) (sg : Value) (f : Int → Option Value) (xb mb : Nat) (id : Int) (ls : List Lt) (B : Nat → Prop) (sl : Value) (w : World) (hi0 : -9223372036854775808 ≤ id) (hi1 : id ≤ 9223372036854775807) (h9 : LtsOk ls) (hx : IxAt w xb mb gs M N sg f) (hl : Lits B w sl ls) :
    Calls Try.prog 68 #[.pointer (some ⟨xb, 0, none⟩), .int .i64 id, sl] w fun e w' => e = .returned (.int .i64 (putC gs M id ls)) ∧ Keep (fun b => b ≠ mb) w w' ∧ ∃ f', IxAt w' xb mb gs (putM gs M id ls) N sg f' ∧ ∀ y v, f' y = some v → f y = some v ∨ ∃ nb, w.heap.size ≤ nb ∧ v = .slice (some ⟨nb, 0, none⟩) N N := by
  have HX := hide hx
  have HCA := hide (xof_calls gs M N sg f xb mb ls B sl w h9 hx hl)
  have HFL := hide (show (feat gs ls).length = N by rw [feat_length, hx.n])
  have HPC := hide (show putC gs M id ls = if clauseC gs ls ≠ 0 then clauseC gs ls else if inM M id = true then 1 else 0 from rfl)
  have HPM := hide (show putM gs M id ls = if putC gs M id ls = 0 then M ++ [(id, feat gs ls)] else M from rfl)
  clear hx hl
  go_enter Try.func68, Try.ntmps68
  go_wp2_with fail
  refine HCA.out.mono ?_
  rintro e w1 ⟨hB, ⟨hc, rfl⟩ | ⟨hc, nb, hnb, rfl, hrow⟩⟩
  · have hne : (clauseC gs ls != 0) = true := by simpa using hc
    have HC := hide (show putC gs M id ls = clauseC gs ls by rw [HPC.out, if_pos hc])
    have HM := hide (show putM gs M id ls = M by rw [HPM.out, if_neg (by rw [HC.out]; exact hc)])
    have HB := hide (Keep.of_below (S := fun b => b ≠ mb) hB)
    have HIX := hide (HX.out.below hB)
    clear hc hB HCA
    go_wp2
    go_ret
    exact ⟨ret_int HC.out.symm, HB.out, f, by rw [HM.out]; exact HIX.out, fun _ _ h => .inl h⟩
  · have HIX := hide (HX.out.below hB)
    have hlook := HIX.out.m.look (P := Try.prog) (k := 3) (t := 149) (e := 37) Try.underlying3 (by kernel_rfl) (z := .slice none 0 0) (by rfl) hi0 hi1
    rw [HIX.out.r.isSome id] at hlook
    obtain ⟨-, q0, q1, -, -⟩ := box2 HIX.out.x
    have HB := hide hB
    have HR := hide hrow
    have hmb : nb ≠ mb := by have := HX.out.m.lt; omega
    have HMB := hide hmb
    have HC := hide hc
    generalize hin : inM M id = im at *
    cases im
    · have HPZ := hide (show putC gs M id ls = 0 by rw [HPC.out, if_neg (by simp [HC.out])]; rfl)
      have HPN := hide (show putM gs M id ls = M ++ [(id, feat gs ls)] by rw [HPM.out, if_pos HPZ.out])
      obtain ⟨w2, hst, hm2, hk2⟩ := HIX.out.m.store (P := Try.prog) (k := 3) (t := 149) (e := 37) Try.underlying3 (by kernel_rfl) hi0 hi1 (.slice (some ⟨nb, 0, none⟩) N N)
      have HIN := hide hin
      have HM2 := hide hm2
      have HK2 := hide hk2
      clear hc hB hrow HCA hin hmb HX hm2 hk2
      go_wp2
      go_ret
      refine ⟨ret_int HPZ.out.symm, (Keep.of_below HB.out).trans HK2.out, fun y => if y = id then some (.slice (some ⟨nb, 0, none⟩) N N) else f y, ?_, fun y v hv => ?_⟩
      rotate_left
      · simp only at hv
        split at hv
        · cases hv; exact .inr ⟨nb, hnb, rfl⟩
        · exact .inl hv
      rw [HPN.out]
      have hix := HIX.out
      have hr := hix.r.keep HK2.out (fun _ _ h => h)
      have hni : ∀ row, (id, row) ∉ M := fun row h => by
        have := HIN.out
        simp only [inM, List.any_eq_false, beq_iff_eq] at this
        exact this _ h rfl
      refine ⟨HK2.out.obj hix.ne hix.x, RepD.frame (fun b hb hlt => HK2.out.block b hlt hb) (fun _ _ h => h) _ _ hix.g, HM2.out, ⟨?_, fun y v hv => ?_, fun y row hy => ?_⟩, hix.ne, hix.n, hix.ok⟩
      · rw [List.map_append, List.nodup_append]
        refine ⟨hr.nd, by simp, fun a ha b hb => ?_⟩
        simp only [List.map_cons, List.map_nil, List.mem_singleton] at hb
        subst hb
        rintro rfl
        obtain ⟨p, hp, he⟩ := List.mem_map.1 ha
        exact hni p.2 (by rw [← he]; exact hp)
      · try simp only at hv
        split at hv
        · next hy =>
          subst hy
          cases hv
          exact ⟨feat gs ls, nb, by simp, rfl, HFL.out, HK2.out.obj HMB.out HR.out, HMB.out⟩
        · obtain ⟨row, nb', h1, h2⟩ := hr.val y v hv
          exact ⟨row, nb', by simp [h1], h2⟩
      · simp only [List.mem_append, List.mem_singleton, Prod.mk.injEq] at hy
        by_cases hyi : y = id
        · exact ⟨_, if_pos hyi⟩
        · rcases hy with hy | hy
          · obtain ⟨v, hv⟩ := hr.dom y row hy
            exact ⟨v, by simp only [hyi, if_false]; exact hv⟩
          · exact absurd hy.1 hyi
    · have HPZ := hide (show putC gs M id ls = 1 by rw [HPC.out, if_neg (by simp [HC.out])]; rfl)
      have HPN := hide (show putM gs M id ls = M by rw [HPM.out, if_neg (by rw [HPZ.out]; simp)])
      clear hc hB hrow HCA hin hmb HX
      go_wp2
      go_ret
      exact ⟨ret_int HPZ.out.symm, Keep.of_below HB.out, f, by rw [HPN.out]; exact HIX.out, fun _ _ h => .inl h⟩
end Go.Proofs.Ythplndalbfcbbaa
set_option linter.unusedSimpArgs false
set_option linter.unusedVariables false
namespace Go.Proofs.Ythplndalbfcbbaa
open Go.RowKit Go.Proofs.YthplndalbfcbbaaW.PrintWords
abbrev GS := PA.S148
abbrev LS := PA.S142
abbrev kG := PA.k148
abbrev kL := PA.k142
def toG (s : Sy) : GS := ⟨s.name, s.ar, s.wt, s.tr⟩
def toGL (l : List Sy) : List GS := l.map toG
theorem toGL_length (l : List Sy) : (toGL l).length = l.length := by simp [toGL]
theorem kg_of {A : Nat → Prop} {w : World} (s : Sy) (cs : List Value) (h : RepD A w s.d cs) : kG.K w (toG s) cs := by
  rw [repSy] at h
  subst h
  exact PA.k148_mk w (toG s)
theorem cg_of {A : Nat → Prop} {w : World} {a : Option Addr} {n c : Nat} {l : List Sy} (hs : Syms A w (.slice a n c) l) : n = (toGL l).length ∧ (toGL l).length ≤ c ∧ kG.C w a (toGL l).length (toGL l) := by
  have hs' : RepD A w (.row 4 (l.map Sy.d)) [.slice a n c] := hs
  simp only [RepD] at hs'
  obtain ⟨a', n', c', h1, h2, h3, h4, h5⟩ := hs'
  simp only [List.cons.injEq, and_true, Value.slice.injEq] at h1
  obtain ⟨rfl, rfl, rfl⟩ := h1
  have hn : n = (toGL l).length := by rw [h2, toGL_length]; simp
  subst hn
  refine ⟨rfl, h3, rfl, h4, fun h0 => ?_⟩
  obtain ⟨b, off, rfl, hb, hA, hR⟩ := h5 h0
  refine ⟨_, rfl, fun j p hp => ?_⟩
  simp only [toGL, List.getElem?_map, Option.map_eq_some_iff] at hp
  obtain ⟨x, hx, rfl⟩ := hp
  have hj : j < (l.map Sy.d).length := by have := (List.getElem?_eq_some_iff.1 hx).1; simpa using this
  obtain ⟨cs, g1, g2, g3⟩ := hR.at j hj
  have hx' : (l.map Sy.d)[j] = x.d := by simp [List.getElem_map, (List.getElem?_eq_some_iff.1 hx).2]
  rw [hx'] at g3
  refine ⟨cs, g1, kg_of x cs g3, fun i u hu => ?_⟩
  have hi : i < 4 := by have := (List.getElem?_eq_some_iff.1 hu).1; omega
  rw [add_flat]
  show w.cell? ⟨b, off + (j * 4 + i), none⟩ = some u
  rw [← Nat.add_assoc, g2 i hi, hu]
def toLt (x : Lt) : LS := ⟨x.neg, toS x.l, toS x.r⟩
def toLL (l : List Lt) : List LS := l.map toLt
theorem toLL_length (l : List Lt) : (toLL l).length = l.length := by simp [toLL]
theorem kl_of {A : Nat → Prop} {w : World} (x : Lt) (cs : List Value) (h : RepD A w x.d cs) : kL.K w (toLt x) cs := by
  obtain ⟨s1, s2, rfl, hs1, hs2⟩ := repLt.1 h
  obtain ⟨a1, c1, rfl, hc1, hm1⟩ := hs1.shape
  obtain ⟨a2, c2, rfl, hc2, hm2⟩ := hs2.shape
  have h1 := c_of hs1
  have h2 := c_of hs2
  have h3 := PA.k142_mk w (toLt x) (A2 := a1) (c2 := c1) (A4 := a2) (c4 := c2) (by show (toS x.l).f1.length ≤ c1; rw [toS_f1, toSL_length]; exact hc1) (by show kT.C w a1 (toS x.l).f1.length (toS x.l).f1; rw [toS_f1]; exact h1.2.2)
    (by show (toS x.r).f1.length ≤ c2; rw [toS_f1, toSL_length]; exact hc2) (by show kT.C w a2 (toS x.r).f1.length (toS x.r).f1; rw [toS_f1]; exact h2.2.2)
  have e1 : (toLt x).f1.f0 = x.l.h := toS_f0 x.l
  have e2 : (toLt x).f1.f1.length = x.l.args.length := by show (toS x.l).f1.length = _; rw [toS_f1, toSL_length]
  have e3 : (toLt x).f2.f0 = x.r.h := toS_f0 x.r
  have e4 : (toLt x).f2.f1.length = x.r.args.length := by show (toS x.r).f1.length = _; rw [toS_f1, toSL_length]
  have e5 : (toLt x).f0 = x.neg := rfl
  rw [e1, e2, e3, e4, e5] at h3
  exact h3
theorem cl_of {A : Nat → Prop} {w : World} {a : Option Addr} {n c : Nat} {l : List Lt} (hs : Lits A w (.slice a n c) l) : n = (toLL l).length ∧ (toLL l).length ≤ c ∧ kL.C w a (toLL l).length (toLL l) := by
  have hs' : RepD A w (.row 5 (l.map Lt.d)) [.slice a n c] := hs
  simp only [RepD] at hs'
  obtain ⟨a', n', c', h1, h2, h3, h4, h5⟩ := hs'
  simp only [List.cons.injEq, and_true, Value.slice.injEq] at h1
  obtain ⟨rfl, rfl, rfl⟩ := h1
  have hn : n = (toLL l).length := by rw [h2, toLL_length]; simp
  subst hn
  refine ⟨rfl, h3, rfl, h4, fun h0 => ?_⟩
  obtain ⟨b, off, rfl, hb, hA, hR⟩ := h5 h0
  refine ⟨_, rfl, fun j p hp => ?_⟩
  simp only [toLL, List.getElem?_map, Option.map_eq_some_iff] at hp
  obtain ⟨x, hx, rfl⟩ := hp
  have hj : j < (l.map Lt.d).length := by have := (List.getElem?_eq_some_iff.1 hx).1; simpa using this
  obtain ⟨cs, g1, g2, g3⟩ := hR.at j hj
  have hx' : (l.map Lt.d)[j] = x.d := by simp [List.getElem_map, (List.getElem?_eq_some_iff.1 hx).2]
  rw [hx'] at g3
  refine ⟨cs, g1, kl_of x cs g3, fun i u hu => ?_⟩
  have hi : i < 5 := by have := (List.getElem?_eq_some_iff.1 hu).1; omega
  rw [add_flat]
  show w.cell? ⟨b, off + (j * 5 + i), none⟩ = some u
  rw [← Nat.add_assoc, g2 i hi, hu]
end Go.Proofs.Ythplndalbfcbbaa
set_option linter.unusedSimpArgs false
set_option linter.unusedVariables false
namespace Go.Proofs.Ythplndalbfcbbaa
open Go.RowKit
def toyS : List Sy := [⟨⟨#[36, 116, 114, 117, 101]⟩, 0, 1, true⟩, ⟨⟨#[97]⟩, 0, 1, false⟩, ⟨⟨#[102]⟩, 1, 1, false⟩]
def symsObj (gs : List Sy) : Obj := .cells (gs.map Sy.cells).flatten.toArray 148 (0, 0)
theorem syms_of {w : World} {b c : Nat} {gs : List Sy} (h : w.heap[b]? = some (symsObj gs)) (hc : gs.length ≤ c) (hl : gs.length ≤ 9223372036854775807) : Syms (fun _ => False) w (.slice (some ⟨b, 0, none⟩) gs.length c) gs := by
  simp only [Syms, RepD]
  refine ⟨_, _, _, rfl, by simp, hc, hl, fun h0 => ⟨b, 0, rfl, (Array.getElem?_eq_some_iff.1 h).1, id, ?_⟩⟩
  refine RepR.of (gs.map Sy.cells) _ 0 (by simp [Sy.cells]) (fun j hj => ?_) ?_
  · simp only [symsObj] at h
    simp only [World.cell?, h]
    simp
  · clear h hc hl h0
    induction gs with
    | nil => exact .nil
    | cons x gs ih => exact .cons (repSy.2 rfl) ih
set_option maxHeartbeats 4000000 in
set_option maxRecDepth 100000 in
theorem toy_calls (w : World) : Calls Try.prog 125 #[] w fun e w' => ∃ b, e = .returned (.slice (some ⟨b, 0, none⟩) 3 3) ∧ w'.heap[b]? = some (symsObj toyS) ∧ Below w.heap.size w w' := by
  have hB : Below w.heap.size w (w.alloc (symsObj toyS)) := (Below.refl _ _).alloc (Nat.le_refl _) _
  have HB := hide hB
  have HK := hide (World.alloc_heap_new w (symsObj toyS))
  clear hB
  go_enter Try.func125, Try.ntmps125
  go_wp2
  go_ret
  exact ⟨_, rfl, HK.out, HB.out⟩
end Go.Proofs.Ythplndalbfcbbaa
set_option linter.unusedSimpArgs false
set_option linter.unusedVariables false
namespace Go.Proofs.Ythplndalbfcbbaa
open Go.RowKit
theorem take_eq_step {a b : List Int} {k : Nat} (h : k < a.length) (h' : k < b.length) : (a.take (k + 1) = b.take (k + 1)) ↔ (a.take k = b.take k ∧ a[k] = b[k]) := by
  rw [List.take_succ_eq_append_getElem h, List.take_succ_eq_append_getElem h']
  constructor
  · intro e
    have := List.append_inj e (by simp; omega)
    exact ⟨this.1, by simpa using this.2⟩
  · rintro ⟨e, e'⟩
    rw [e, e']
set_option maxHeartbeats 4000000 in
set_option maxRecDepth 100000 in
theorem rints_calls (la lb : List Int) (a b : Option Addr) (ca cb : Nat) (w : World) (ha : IntsIn w a la) (hb : IntsIn w b lb) :
    Calls Try.prog 64 #[.slice a la.length ca, .slice b lb.length cb] w fun e w' => e = .returned (.bool (decide (la = lb))) ∧ Below w.heap.size w w' := by
  obtain ⟨hla, HA⟩ := ha
  obtain ⟨hlb, HB⟩ := hb
  by_cases hl : la.length = lb.length
  rotate_left
  · have hne : ((la.length : Int) != (lb.length : Int)) = true := by simp; omega
    have HR := hide (show decide (la = lb) = false by simp; rintro rfl; exact hl rfl)
    clear hl HA HB
    go_enter Try.func64, Try.ntmps64
    go_wp2
    go_ret
    exact ⟨ret_bool HR.out.symm, Below.refl _ _⟩
  · have hne : ((la.length : Int) != (lb.length : Int)) = false := by simp; omega
    have HL := hide hl
    have HA := hide HA
    have HB := hide HB
    clear hl
    go_enter Try.func64, Try.ntmps64
    go_wp2
    go_loopw [5] (fun i wr => ∃ k : Nat, k ≤ la.length ∧ i = .int .i64 k ∧ Hid (la.take k = lb.take k) ∧ Hid (∀ b off i v, w.cell? ⟨b, off + i, none⟩ = some v → wr.cell? ⟨b, off + i, none⟩ = some v) ∧ Hid (Below w.heap.size w wr)) (fun i _ => la.length - (intOf i).toNat)
    case atStart => exact ⟨0, by omega, rfl, hide (by simp), hide (fun _ _ _ _ h => h), hide (Below.refl _ _)⟩
    case round =>
      obtain ⟨k, hk, rfl, hz, hcl, hw⟩ := hrel
      by_cases hlt : k < la.length
      · obtain ⟨b1, o1, rfl, q1⟩ := HA.out k hlt
        have hlt2 : k < lb.length := by have := HL.out; omega
        obtain ⟨b2, o2, rfl, q2⟩ := HB.out k hlt2
        replace q1 := hcl.out _ _ _ _ q1
        replace q2 := hcl.out _ _ _ _ q2
        have HT := hide (take_eq_step hlt hlt2)
        generalize la[k] = x at *
        generalize lb[k] = y at *
        have HC2 := hide (fun b off i v (h : w.cell? ⟨b, off + i, none⟩ = some v) => show wr.drew.cell? ⟨b, off + i, none⟩ = some v by rw [← hcl.out b off i v h]; rfl)
        have HW2 := hide (hw.out.trans (Below.mono (Below.refl wr.heap.size wr).drew hw.out.size))
        go_wp2
        refine drawn_tree (fun W' => W'.cell? ⟨b1, o1 + k, none⟩ = some (.int .i64 x) ∧ W'.cell? ⟨b2, o2 + k, none⟩ = some (.int .i64 y)) (.take 0 (.take 1 (.take 2 (.take 3 (.take 4 (.take 5 (.take 6 (.take 7 (.take 8 .done))))))))) (by kernel_rfl) (by kernel_rfl) (by kernel_rfl) (by kernel_rfl) (fun _ _ _ _ _ h => h) ⟨by go_simp, by go_simp⟩ ?_
        iterate 9 (refine t_take (v := ?_) rfl (by rfl) ?_ ?_; rotate_left; (intro w hS; obtain ⟨hS1, hS2⟩ := hS; go_simp; try with_reducible rfl); simp only [Act.put, List.setIfInBounds_toArray, List.set_cons_zero, List.set_cons_succ])
        refine t_done ?_
        clear q1 q2 hcl hw
        generalize wr.drew = w5 at *
        by_cases hxy : x = y
        · have hd : (x != y) = false := by simpa using hxy
          have HX := hide (HT.out.2 ⟨hz.out, hxy⟩)
          clear hxy
          go_wp2
          go_roundw
          case rel => exact ⟨k + 1, by omega, by go_num, HX, HC2, HW2⟩
          case measure => simp [intOf]; omega
        · have hd : (x != y) = true := by simpa using hxy
          have HRR := hide (show decide (la = lb) = false by
            simp only [decide_eq_false_iff_not]
            intro e
            exact hxy (HT.out.1 (by rw [e])).2)
          clear hxy
          go_wp2
          go_ret
          exact ⟨ret_bool HRR.out.symm, HW2.out⟩
      · obtain rfl : k = la.length := by omega
        have HRR := hide (show decide (la = lb) = true by
          have h1 := hz.out
          rw [List.take_length, HL.out, List.take_length] at h1
          simpa using h1)
        go_wp2
        go_ret
        exact ⟨ret_bool HRR.out.symm, hw.out⟩
end Go.Proofs.Ythplndalbfcbbaa
set_option linter.unusedSimpArgs false
set_option linter.unusedVariables false
namespace Go.Proofs.Ythplndalbfcbbaa
open Go.RowKit
def x16A : Tm := .node 1 []
def x16F : Tm := .node 2 [x16A]
def x16G : Tm := .node 2 [x16F]
def x16V : Tm := .node (-1) []
def x16C : List Lt := [⟨false, x16F, x16V⟩, ⟨true, x16A, x16G⟩]
theorem ex16_check : clauseC toyS x16C = 0 := by kernel_rfl
theorem ex16_feat : feat toyS x16C = [1, 1, 0, 0, 1, 2, 1, 2] := by kernel_rfl
theorem ex16_check1 : clauseC toyS [⟨false, x16F, x16V⟩] = 0 := by kernel_rfl
theorem Lits.take {A : Nat → Prop} {w : World} {a : Option Addr} {n c : Nat} {ls : List Lt} (h : Lits A w (.slice a n c) ls) (k : Nat) (hk : k ≤ ls.length) : Lits A w (.slice a k c) (ls.take k) := by
  simp only [Lits, RepD] at h ⊢
  obtain ⟨a, n, c, h1, h2, h3, h4, h5⟩ := h
  simp only [List.cons.injEq, and_true, Value.slice.injEq] at h1
  obtain ⟨rfl, rfl, rfl⟩ := h1
  simp only [List.length_map] at h2
  refine ⟨_, k, _, rfl, by simp; omega, by omega, by omega, fun h0 => ?_⟩
  obtain ⟨b, off, e1, e2, e3, e4⟩ := h5 (by omega)
  exact ⟨b, off, e1, e2, e3, by rw [List.map_take]; exact e4.take k⟩
theorem only_one {r : List Int} {dn : List Int} (h : ∀ x, x ∈ dn ↔ ∃ row, (x, row) ∈ [((7 : Int), r)]) (hn : dn.Nodup) : dn = [7] := by
  have h1 : ∀ x, x ∈ dn → x = 7 := fun x hx => by
    obtain ⟨row, hr⟩ := (h x).1 hx
    simp at hr
    exact hr.1
  match dn, h, hn, h1 with
  | [], h, _, _ => have := (h 7).2 ⟨r, by simp⟩; cases this
  | [x], _, _, h1 => rw [h1 x (by simp)]
  | x :: y :: l, _, hn, h1 =>
    have e1 := h1 x (by simp)
    have e2 := h1 y (by simp)
    subst e1 e2
    simp at hn
theorem ex16_ids : sortI (idsOf true (feat toyS [⟨false, x16F, x16V⟩]) [(7, [1, 1, 0, 0, 1, 2, 1, 2])] [7]) = [7] := by
  have h : idsOf true (feat toyS [⟨false, x16F, x16V⟩]) [(7, [1, 1, 0, 0, 1, 2, 1, 2])] [7] = [7] := by kernel_rfl
  rw [h]; simp [sortI]
theorem ex16_ids2 : sortI (idsOf false (feat toyS [⟨false, x16F, x16V⟩]) [(7, [1, 1, 0, 0, 1, 2, 1, 2])] [7]) = [] := by
  have h : idsOf false (feat toyS [⟨false, x16F, x16V⟩]) [(7, [1, 1, 0, 0, 1, 2, 1, 2])] [7] = [] := by kernel_rfl
  rw [h]; simp [sortI]
theorem ints_of_row {w : World} {base e : Nat} {v : Value} {l : List Int} (h : w.ownsRow base e 1 v l.length (l.map (Value.int .i64))) : ∃ a c, v = .slice a l.length c ∧ IntsIn w a l := by
  rcases h.2 with ⟨h1, h2⟩ | ⟨g, cap, cur, h1, hg, hh, hn, hm, hs, ht⟩
  · have : l = [] := List.eq_nil_of_length_eq_zero h2
    subst this
    exact ⟨none, 0, h1, by simp, fun i hi => by simp at hi⟩
  · refine ⟨_, _, h1, by have h9 : cap ≤ 9223372036854775807 := (by simpa [maxLen] using hm); omega, fun i hi => ⟨g, 0, rfl, ?_⟩⟩
    rw [Nat.zero_add, Nat.mul_one] at *
    have hi2 : i < cur.size := by omega
    have e1 : (cur.toList.take l.length)[i]? = (l.map (Value.int .i64))[i]? := by rw [ht]
    simp only [World.cell?, hh]
    rw [List.getElem?_take, if_pos hi] at e1
    simp [hi] at e1
    simp [e1]
theorem cell_lt {w : World} {p : Addr} {v : Value} (h : w.cell? p = some v) : p.block < w.heap.size := by
  simp only [World.cell?] at h
  by_cases hp : p.block < w.heap.size
  · exact hp
  · rw [Array.getElem?_eq_none (by omega)] at h
    cases p with | mk b o q => cases q <;> simp at h
theorem ex16_weigh : weighC toyS = 0 := by kernel_rfl
theorem ex16_put : putC toyS [] 7 x16C = 0 := by kernel_rfl
theorem ex16_putM : putM toyS [] 7 x16C = [(7, [1, 1, 0, 0, 1, 2, 1, 2])] := by kernel_rfl
theorem lits2 {A : Nat → Prop} {w : World} {b c : Nat} {x y : Lt} {s1 s2 s3 s4 : Value} {t : TypeId} (h : w.heap[b]? = some (.cells #[.bool x.neg, .int .i64 x.l.h, s1, .int .i64 x.r.h, s2, .bool y.neg, .int .i64 y.l.h, s3, .int .i64 y.r.h, s4] t (0, 0))) (hb : ¬ A b) (hc : 2 ≤ c) (h1 : Terms A w s1 x.l.args) (h2 : Terms A w s2 x.r.args) (h3 : Terms A w s3 y.l.args) (h4 : Terms A w s4 y.r.args) : Lits A w (.slice (some ⟨b, 0, none⟩) 2 c) [x, y] := by
  simp only [Lits, RepD]
  refine ⟨_, _, _, rfl, by simp, hc, by omega, fun h0 => ⟨b, 0, rfl, (Array.getElem?_eq_some_iff.1 h).1, hb, ?_⟩⟩
  refine RepR.of [[.bool x.neg, .int .i64 x.l.h, s1, .int .i64 x.r.h, s2], [.bool y.neg, .int .i64 y.l.h, s3, .int .i64 y.r.h, s4]] _ 0 (by simp) (fun j hj => ?_) ?_
  · simp only [World.cell?, h]
    simp
  · exact .cons (repLt.2 ⟨s1, s2, rfl, h1, h2⟩) (.cons (repLt.2 ⟨s3, s4, rfl, h3, h4⟩) .nil)
set_option maxHeartbeats 4000000 in
set_option maxRecDepth 100000 in
theorem awake16_calls (w : World) : Calls Try.prog 63 #[] w fun e w' => e = .returned (.bool true) ∧ Below w.heap.size w w' := by
  go_enter Try.func63, Try.ntmps63
  go_wp2_with fail
  refine (fun_calls 1 _ _ _ _).mono ?_
  rintro e w1 ⟨rfl, B1⟩
  have hgen : (w1.alloc (.cells #[.int .i64 1, .slice none 0 0] 25)).alloc (.cells #[.int .i64 1, .slice none 0 0] 25) = allocs w1 [.cells #[.int .i64 1, .slice none 0 0] 25, .cells #[.int .i64 1, .slice none 0 0] 25] := rfl
  have m0 : (allocs w1 [.cells #[.int .i64 1, .slice none 0 0] 25, .cells #[.int .i64 1, .slice none 0 0] 25]).heap[w1.heap.size]? = some (.cells #[.int .i64 1, .slice none 0 0] 25 (0, 0)) := allocs_get _ _ 0 _ rfl
  have m1 : (allocs w1 [.cells #[.int .i64 1, .slice none 0 0] 25, .cells #[.int .i64 1, .slice none 0 0] 25]).heap[w1.heap.size + 1]? = some (.cells #[.int .i64 1, .slice none 0 0] 25 (0, 0)) := allocs_get _ _ 1 _ rfl
  have q1 : Below w1.heap.size w1 (allocs w1 [.cells #[.int .i64 1, .slice none 0 0] 25, .cells #[.int .i64 1, .slice none 0 0] 25]) := allocs_below _ _
  have f1 : Terms (fun _ => False) _ (.slice (some ⟨w1.heap.size + 1, 0, none⟩) 1 1) x16F.args := terms1 (t := x16A) m1 id (Terms.nil _ _)
  have C1 := more_below B1 q1
  go_wp2_with fail
  clear q1 B1 m1 hgen
  generalize allocs w1 [.cells #[.int .i64 1, .slice none 0 0] 25, .cells #[.int .i64 1, .slice none 0 0] 25] = V1 at *
  generalize w1.heap.size + 1 = bf at *
  generalize w1.heap.size = ba at *
  refine (fun_calls 2 _ _ _ _).mono ?_
  rintro e w2 ⟨rfl, h2⟩
  have m2 := (h2.block _ (Array.getElem?_eq_some_iff.1 m0).1).trans m0
  have f2 := f1.below h2
  have C2 := more_below C1 h2
  clear h2 C1 f1 m0
  go_wp2_with fail
  have q3 : Below w2.heap.size w2 (w2.alloc (.cells #[.int .i64 2, .slice (some ⟨bf, 0, none⟩) 1 1] 25)) := (Below.refl _ _).alloc (Nat.le_refl _) _
  have m3 : (w2.alloc (.cells #[.int .i64 2, .slice (some ⟨bf, 0, none⟩) 1 1] 25)).heap[w2.heap.size]? = some (.cells #[.int .i64 2, .slice (some ⟨bf, 0, none⟩) 1 1] 25 (0, 0)) := World.alloc_heap_new _ _
  have n3 := (q3.block _ (Array.getElem?_eq_some_iff.1 m2).1).trans m2
  have f3 := f2.below q3
  have C3 := more_below C2 q3
  clear q3 C2 f2 m2
  generalize w2.alloc (.cells #[.int .i64 2, .slice (some ⟨bf, 0, none⟩) 1 1] 25) = V3 at *
  generalize w2.heap.size = bx at *
  refine cut_cap (fun a0 a' w' => ∃ bg bl, a' = ((((((((((a0.put (some 16) (.agg #[.int .i64 2, .slice (some ⟨bf, 0, none⟩) 1 1])).put (some 19) (.agg #[.int .i64 1, .slice none 0 0])).put (some 20) (.agg #[.int .i64 2, .slice (some ⟨bf, 0, none⟩) 1 1])).put (some 17) (.agg #[.int .i64 (-1), .slice none 0 0])).put (some 21) (.slice (some ⟨bg, 0, none⟩) 1 1)).put (some 18) (.agg #[.bool false, .int .i64 2, .slice (some ⟨bf, 0, none⟩) 1 1, .int .i64 (-1), .slice none 0 0])).put (some 22) (.agg #[.int .i64 2, .slice (some ⟨bg, 0, none⟩) 1 1])).put (some 23) (.agg #[.bool true, .int .i64 1, .slice none 0 0, .int .i64 2, .slice (some ⟨bg, 0, none⟩) 1 1])).put (some 24) (.slice (some ⟨bl, 0, none⟩) 2 2)).put (some 3) (.slice (some ⟨bl, 0, none⟩) 2 2)) ∧ Below V3.heap.size V3 w' ∧ w'.heap[bl]? = some (.cells #[.bool false, .int .i64 2, .slice (some ⟨bf, 0, none⟩) 1 1, .int .i64 (-1), .slice none 0 0, .bool true, .int .i64 1, .slice none 0 0, .int .i64 2, .slice (some ⟨bg, 0, none⟩) 1 1] 142 (0, 0)) ∧ Terms (fun _ => False) w' (.slice (some ⟨bg, 0, none⟩) 1 1) x16G.args) ?_ ?_
  · have hS : ∀ W', Below V3.heap.size V3 W' → Below V3.heap.size V3 W' ∧ W'.cell? ⟨bx, 0, none⟩ = some (.int .i64 2) ∧ W'.cell? ⟨bx, 1, none⟩ = some (.slice (some ⟨bf, 0, none⟩) 1 1) ∧ W'.cell? ⟨ba, 0, none⟩ = some (.int .i64 1) ∧ W'.cell? ⟨ba, 1, none⟩ = some (.slice none 0 0) := fun W' hW => by
      obtain ⟨-, z0, z1, -, -⟩ := box2 ((hW.block _ (Array.getElem?_eq_some_iff.1 m3).1).trans m3)
      obtain ⟨-, z2, z3, -, -⟩ := box2 ((hW.block _ (Array.getElem?_eq_some_iff.1 n3).1).trans n3)
      exact ⟨hW, z0, z1, z2, z3⟩
    refine drawn_tree (fun W' => Below V3.heap.size V3 W' ∧ W'.cell? ⟨bx, 0, none⟩ = some (.int .i64 2) ∧ W'.cell? ⟨bx, 1, none⟩ = some (.slice (some ⟨bf, 0, none⟩) 1 1) ∧ W'.cell? ⟨ba, 0, none⟩ = some (.int .i64 1) ∧ W'.cell? ⟨ba, 1, none⟩ = some (.slice none 0 0)) (.take 0 (.take 3 (.take 4 (.two 1 (.take 2 (.one 5 (.one 6 (.take 7 (.one 8 (.take 9 .done)))))) 5 (.one 1 (.take 2 (.one 6 (.take 7 (.one 8 (.take 9 .done))))))))))  (by kernel_rfl) (by kernel_rfl) (by kernel_rfl) (by kernel_rfl) (fun _ _ _ _ _ h => h) (hS _ (Below.refl _ _).drew) ?_
    have g0 := (Below.refl V3.heap.size V3).drew
    have f4 := f3.below g0
    generalize V3.drew = y0 at *
    iterate 3 (refine t_take (v := ?_) rfl (by rfl) ?_ ?_; rotate_left; (intro w hS; obtain ⟨-, hS1, hS2, hS3, hS4⟩ := hS; go_simp; try with_reducible rfl); simp only [Act.put, List.setIfInBounds_toArray, List.set_cons_zero, List.set_cons_succ])
    refine t_two rfl rfl (by rfl) (by rfl) ?_ ?_
    intro K hK
    go_simp
    refine (var_calls 0 (by omega) (by omega) _).mono ?_
    rintro e y1 ⟨rfl, q1⟩
    have g1 := more_below g0 q1
    replace f4 := f4.below q1
    refine hK.out _ _ (hS _ g1) ?_
    clear hK K q1
    iterate 1 (refine t_take (v := ?_) rfl (by rfl) ?_ ?_; rotate_left; (intro w hS; obtain ⟨-, hS1, hS2, hS3, hS4⟩ := hS; go_simp; try with_reducible rfl); simp only [Act.put, List.setIfInBounds_toArray, List.set_cons_zero, List.set_cons_succ])
    refine t_one rfl (by rfl) ?_
    intro K hK
    go_simp
    obtain ⟨bg, hbg⟩ : ∃ b, b = y1.heap.size := ⟨_, rfl⟩
    have mg : (y1.alloc (.cells #[.int .i64 2, .slice (some ⟨bf, 0, none⟩) 1 1] 25)).heap[bg]? = some (.cells #[.int .i64 2, .slice (some ⟨bf, 0, none⟩) 1 1] 25 (0, 0)) := hbg ▸ World.alloc_heap_new _ _
    have qg : Below y1.heap.size y1 (y1.alloc (.cells #[.int .i64 2, .slice (some ⟨bf, 0, none⟩) 1 1] 25)) := (Below.refl _ _).alloc (Nat.le_refl _) _
    have gg := more_below g1 qg
    replace f4 := f4.below qg
    refine hK.out _ _ (hS _ gg) ?_
    rw [← hbg]
    clear hK K qg hbg
    generalize y1.alloc (.cells #[.int .i64 2, .slice (some ⟨bf, 0, none⟩) 1 1] 25) = y2 at *
    rotate_left
    intro K hK
    go_simp
    obtain ⟨bg, hbg⟩ : ∃ b, b = y0.heap.size := ⟨_, rfl⟩
    have mg0 : (y0.alloc (.cells #[.int .i64 2, .slice (some ⟨bf, 0, none⟩) 1 1] 25)).heap[bg]? = some (.cells #[.int .i64 2, .slice (some ⟨bf, 0, none⟩) 1 1] 25 (0, 0)) := hbg ▸ World.alloc_heap_new _ _
    have qg : Below y0.heap.size y0 (y0.alloc (.cells #[.int .i64 2, .slice (some ⟨bf, 0, none⟩) 1 1] 25)) := (Below.refl _ _).alloc (Nat.le_refl _) _
    have g1 := more_below g0 qg
    replace f4 := f4.below qg
    refine hK.out _ _ (hS _ g1) ?_
    rw [← hbg]
    clear hK K qg hbg
    generalize y0.alloc (.cells #[.int .i64 2, .slice (some ⟨bf, 0, none⟩) 1 1] 25) = y1 at *
    refine t_one rfl (by rfl) ?_
    intro K hK
    go_simp
    refine (var_calls 0 (by omega) (by omega) _).mono ?_
    rintro e y2 ⟨rfl, q1⟩
    have gg := more_below g1 q1
    have mg := (q1.block _ (Array.getElem?_eq_some_iff.1 mg0).1).trans mg0
    replace f4 := f4.below q1
    refine hK.out _ _ (hS _ gg) ?_
    clear hK K q1 mg0
    iterate 1 (refine t_take (v := ?_) rfl (by rfl) ?_ ?_; rotate_left; (intro w hS; obtain ⟨-, hS1, hS2, hS3, hS4⟩ := hS; go_simp; try with_reducible rfl); simp only [Act.put, List.setIfInBounds_toArray, List.set_cons_zero, List.set_cons_succ])
    all_goals
      have ug : Terms (fun _ => False) y2 (.slice (some ⟨bg, 0, none⟩) 1 1) x16G.args := terms1 (t := x16F) mg id f4
      refine t_one rfl (by rfl) ?_
      intro K hK
      go_simp
      refine (fun_calls 2 _ _ _ _).mono ?_
      rintro e y3 ⟨rfl, q3⟩
      have g3 := more_below gg q3
      replace ug := ug.below q3
      refine hK.out _ _ (hS _ g3) ?_
      clear hK K q3
      iterate 1 (refine t_take (v := ?_) rfl (by rfl) ?_ ?_; rotate_left; (intro w hS; obtain ⟨-, hS1, hS2, hS3, hS4⟩ := hS; go_simp; try with_reducible rfl); simp only [Act.put, List.setIfInBounds_toArray, List.set_cons_zero, List.set_cons_succ])
      refine t_one rfl (by rfl) ?_
      intro K hK
      go_simp
      have m9 := World.alloc_heap_new y3 (.cells #[.bool false, .int .i64 2, .slice (some ⟨bf, 0, none⟩) 1 1, .int .i64 (-1), .slice none 0 0, .bool true, .int .i64 1, .slice none 0 0, .int .i64 2, .slice (some ⟨bg, 0, none⟩) 1 1] 142)
      have q9 : Below y3.heap.size y3 (y3.alloc (.cells #[.bool false, .int .i64 2, .slice (some ⟨bf, 0, none⟩) 1 1, .int .i64 (-1), .slice none 0 0, .bool true, .int .i64 1, .slice none 0 0, .int .i64 2, .slice (some ⟨bg, 0, none⟩) 1 1] 142)) := (Below.refl _ _).alloc (Nat.le_refl _) _
      have g9 := more_below g3 q9
      replace ug := ug.below q9
      refine hK.out _ _ (hS _ g9) ?_
      clear hK K q9
      iterate 1 (refine t_take (v := ?_) rfl (by rfl) ?_ ?_; rotate_left; (intro w hS; obtain ⟨-, hS1, hS2, hS3, hS4⟩ := hS; go_simp; try with_reducible rfl); simp only [Act.put, List.setIfInBounds_toArray, List.set_cons_zero, List.set_cons_succ])
      exact t_done ⟨bg, y3.heap.size, by simp only [Act.put, List.setIfInBounds_toArray, List.set_cons_zero, List.set_cons_succ]; try rfl, g9, m9, ug⟩
  rintro _ x5 ⟨bg, bl, rfl, g5, m5, f5⟩
  simp only [Act.put, List.setIfInBounds_toArray, List.set_cons_zero, List.set_cons_succ]
  have D5 := more_below C3 g5
  have HL5 := hide (lits2 (A := fun _ => False) (x := ⟨false, x16F, x16V⟩) (y := ⟨true, x16A, x16G⟩) (c := 2) m5 id (by omega) (f3.below g5) (Terms.nil _ _) (Terms.nil _ _) f5)
  clear m3 n3 f3 C3 g5 m5 f5
  go_wp2_with fail
  refine (toy_calls x5).mono ?_
  rintro e x6 ⟨bt, rfl, mt, k6⟩
  have HT6 := hide (syms_of (gs := toyS) (c := 3) mt (by decide) (by decide))
  have HL6 := hide (HL5.out.below k6)
  have D6 := more_below D5 k6
  clear mt k6 D5 HL5
  go_wp2_with fail
  have hfo := fof_calls toyS x16C (fun _ => False) (fun _ => False) _ _ x6 8 (by rfl) (by intro x hx; simp [x16C] at hx; rcases hx with rfl | rfl <;> decide) HT6.out HL6.out
  rw [ex16_check, ex16_feat] at hfo
  refine hfo.mono ?_
  rintro e x7 ⟨k7, ⟨h0, -⟩ | ⟨-, nb, hnb, rfl, hrow⟩⟩
  · exact absurd rfl h0
  have HL7 := hide (HL6.out.below k7)
  have D7 := more_below D6 k7
  have HROW := hide hrow
  clear hfo HT6 HL6 k7 D6 hrow hnb
  go_wp2_with fail
  refine (toy_calls x7).mono ?_
  rintro e x8 ⟨bt2, rfl, mt, k8⟩
  have HT8 := hide (syms_of (gs := toyS) (c := 3) mt (by decide) (by decide))
  have HL8 := hide (HL7.out.below k8)
  have HROW8 := hide (show RowAt x8 nb _ _ from (k8.block _ (Array.getElem?_eq_some_iff.1 HROW.out).1).trans HROW.out)
  have D8 := more_below D7 k8
  clear mt k8 D7 HL7 HROW
  go_wp2_with fail
  have hne := fnew_calls toyS (fun _ => False) _ x8 HT8.out
  rw [ex16_weigh] at hne
  refine hne.mono ?_
  rintro e x9 ⟨k9, ⟨h0, -⟩ | ⟨-, xb, mb, sg, hxb, hmb, rfl, hix⟩⟩
  · exact absurd rfl h0
  have HIX := hide hix
  have HL9 := hide (HL8.out.below k9)
  have HROW9 := hide (show RowAt x9 nb _ _ from (k9.block _ (Array.getElem?_eq_some_iff.1 HROW8.out).1).trans HROW8.out)
  have hnm : nb ≠ mb := by have := (Array.getElem?_eq_some_iff.1 HROW8.out).1; omega
  have D9 := more_below D8 k9
  have D8s := D8.size
  have HLB := hide (show Lits (fun b => b = mb) x9 (.slice (some ⟨bl, 0, none⟩) 2 2) x16C from RepD.frame (fun b _ hlt => k9.block b hlt) (fun b hb h => by omega) _ _ HL8.out)
  clear hne HT8 HL8 HROW8 k9 D8 hix
  go_wp2_with fail
  have hpu := xput_calls toyS [] 8 sg _ xb mb 7 x16C (fun _ => False) _ x9 (by omega) (by omega) (by intro x hx; simp [x16C] at hx; rcases hx with rfl | rfl <;> decide) HIX.out HL9.out
  rw [ex16_put, ex16_putM] at hpu
  refine hpu.mono ?_
  rintro e x10 ⟨rfl, k10, f', hix, -⟩
  have HIX := hide hix
  have hlm := D8s
  have HL10 := hide (show Lits (fun b => b = mb) x10 (.slice (some ⟨bl, 0, none⟩) 2 2) x16C from RepD.frame (fun b hb hlt => k10.block b hlt hb) (fun _ _ h => h) _ _ (HLB.out))
  have HROW10 := hide (show RowAt x10 nb _ _ from k10.obj hnm HROW9.out)
  have D10 : Below w.heap.size w x10 := D9.trans (k10.below (fun b hb => by omega) D9.size)
  clear hpu HL9 HROW9 k10 D9 hix
  go_wp2_with fail
  have hov := xover_calls toyS [(7, [1, 1, 0, 0, 1, 2, 1, 2])] 8 sg f' xb mb [⟨false, x16F, x16V⟩] _ _ x10 (by simp) (by intro x hx; simp at hx; subst hx; decide) HIX.out (HL10.out.take 1 (by decide))
  refine hov.mono ?_
  rintro e x11 ⟨k11, ⟨h0, -⟩ | ⟨-, v1, dn1, base1, hb1, rfl, o1, d1, n1⟩⟩
  · exact absurd ex16_check1 h0
  obtain rfl := only_one d1 n1
  rw [ex16_ids] at o1
  have HO1 := hide o1
  have HIX1 := hide (HIX.out.below k11)
  have HL11 := hide (HL10.out.below k11)
  have HROW11 := hide (show RowAt x11 nb _ _ from (k11.block _ (Array.getElem?_eq_some_iff.1 HROW10.out).1).trans HROW10.out)
  have D11 := more_below D10 k11
  clear hov o1 d1 n1 k11 D10 HIX HL10 HROW10
  go_wp2_with fail
  have hbe := xbelow_calls toyS [(7, [1, 1, 0, 0, 1, 2, 1, 2])] 8 sg f' xb mb [⟨false, x16F, x16V⟩] _ _ x11 (by simp) (by intro x hx; simp at hx; subst hx; decide) HIX1.out (HL11.out.take 1 (by decide))
  refine hbe.mono ?_
  rintro e x12 ⟨k12, ⟨h0, -⟩ | ⟨-, v2, dn2, base2, hb2, rfl, o2, d2, n2⟩⟩
  · exact absurd ex16_check1 h0
  obtain rfl := only_one d2 n2
  rw [ex16_ids2] at o2
  obtain ⟨a1, c1, rfl, i1⟩ := ints_of_row (l := [7]) (ownsRow_keep HO1.out (Keep.of_below (S := fun _ => True) k12) (fun _ _ => trivial))
  obtain ⟨a2, c2, rfl, i2⟩ := ints_of_row (l := []) o2
  have HI1 := hide i1
  have HROW12 := hide (show RowAt x12 nb _ _ from (k12.block _ (Array.getElem?_eq_some_iff.1 HROW11.out).1).trans HROW11.out)
  have D12 := more_below D11 k12
  clear hbe o2 d2 n2 k12 D11 HIX1 HL11 HROW11 HO1 i1 i2
  go_wp2_with fail
  have qr : Below x12.heap.size x12 (x12.alloc (rowObj [1, 1, 0, 0, 1, 2, 1, 2] 3)) := (Below.refl _ _).alloc (Nat.le_refl _) _
  have mr : RowAt (x12.alloc (rowObj [1, 1, 0, 0, 1, 2, 1, 2] 3)) x12.heap.size [1, 1, 0, 0, 1, 2, 1, 2] 3 := World.alloc_heap_new _ _
  have mr2 : RowAt (x12.alloc (rowObj [1, 1, 0, 0, 1, 2, 1, 2] 3)) nb [1, 1, 0, 0, 1, 2, 1, 2] 3 := (qr.block _ (Array.getElem?_eq_some_iff.1 HROW12.out).1).trans HROW12.out
  have D13 := more_below D12 qr
  have HI13 := hide (show IntsIn (x12.alloc (rowObj [1, 1, 0, 0, 1, 2, 1, 2] 3)) a1 [7] from ⟨HI1.out.1, fun i hi => by
    obtain ⟨b, off, e1, e2⟩ := HI1.out.2 i hi
    exact ⟨b, off, e1, (qr.cell (p := ⟨b, off + i, none⟩) (cell_lt e2)).trans e2⟩⟩)
  have hri := rints_calls [1, 1, 0, 0, 1, 2, 1, 2] [1, 1, 0, 0, 1, 2, 1, 2] _ _ 8 8 _ (RowAt.ins mr2 (by decide)) (RowAt.ins mr (by decide))
  refine hri.mono ?_
  rintro e x14 ⟨rfl, k14⟩
  have D14 := more_below D13 k14
  have HI14 := hide (show IntsIn x14 a1 [7] from ⟨HI13.out.1, fun i hi => by
    obtain ⟨b, off, e1, e2⟩ := HI13.out.2 i hi
    exact ⟨b, off, e1, (k14.cell (p := ⟨b, off + i, none⟩) (cell_lt e2)).trans e2⟩⟩)
  clear hri mr mr2 qr D13 HI1 HI13 HROW12 D12 k14
  go_wp2_with fail
  have qs : Below x14.heap.size x14 (x14.alloc (rowObj [7] 3)) := (Below.refl _ _).alloc (Nat.le_refl _) _
  have ms : RowAt (x14.alloc (rowObj [7] 3)) x14.heap.size [7] 3 := World.alloc_heap_new _ _
  have D15 := more_below D14 qs
  have hi15 : IntsIn (x14.alloc (rowObj [7] 3)) a1 [7] := ⟨HI14.out.1, fun i hi => by
    obtain ⟨b, off, e1, e2⟩ := HI14.out.2 i hi
    exact ⟨b, off, e1, (qs.cell (p := ⟨b, off + i, none⟩) (cell_lt e2)).trans e2⟩⟩
  have hri := rints_calls [7] [7] _ _ c1 1 _ hi15 (RowAt.ins ms (by decide))
  refine hri.mono ?_
  rintro e x16 ⟨rfl, k16⟩
  have HD := hide (more_below D15 k16)
  clear hri ms qs D15 HI14 D14 k16 hi15
  go_wp2
  go_ret
  exact ⟨rfl, HD.out⟩
end Go.Proofs.Ythplndalbfcbbaa
namespace Go.Proofs.Ythplndalbfcbbaa.PA
open Go.RowKit Go.Proofs.YthplndalbfcbbaaW.PrintWords Go.Proofs.YthplndalbfcbbaaW.PrintLast Go.Proofs.YthplndalbfcbbaaW.PrintMore
attribute [local go_sem] max2_int min2_int max_two min_two max_three min_three max_four min_four   -- for this text's walks alone
set_option linter.unusedVariables false
set_option linter.unusedSimpArgs false
theorem eqA148 (d : Nat) (w : World) (x0 y0 : ByteArray) (x1 y1 : Int) (x2 y2 : Int) (x3 y3 : Bool) :
    (Op.equalIn (d + 2) 148 (.agg #[.string x0, .int .i64 x1, .int .i64 x2, .bool x3]) (.agg #[.string y0, .int .i64 y1, .int .i64 y2, .bool y3])).run Try.prog w = .ok (x0.toList == y0.toList && (x1 == y1 && (x2 == y2 && (x3 == y3)))) w := by
  refine eqA_of Try.underlying148 (by kernel_rfl) ?_
  refine eqf_cons (by rfl) (by go_simp; rfl) (by go_simp; rfl) (by go_simp) ?_
  refine eqf_cons (by rfl) (by go_simp; rfl) (by go_simp; rfl) (by go_simp) ?_
  refine eqf_cons (by rfl) (by go_simp; rfl) (by go_simp; rfl) (by go_simp) ?_
  exact eqf_last (by rfl) (by go_simp; rfl) (by go_simp; rfl) (by go_simp)
end Go.Proofs.Ythplndalbfcbbaa.PA
namespace Go.Proofs.Ythplndalbfcbbaa.PA
open Go.RowKit Go.Proofs.YthplndalbfcbbaaW.PrintWords Go.Proofs.YthplndalbfcbbaaW.PrintLast Go.Proofs.YthplndalbfcbbaaW.PrintMore
attribute [local go_sem] max2_int min2_int max_two min_two max_three min_three max_four min_four   -- for this text's walks alone
set_option linter.unusedVariables false
set_option linter.unusedSimpArgs false
attribute [local go_sem high] eqA148
end Go.Proofs.Ythplndalbfcbbaa.PA
namespace Go.Proofs.Ythplndalbfcbbaa.PA
open Go.RowKit Go.Proofs.YthplndalbfcbbaaW.PrintWords Go.Proofs.YthplndalbfcbbaaW.PrintLast Go.Proofs.YthplndalbfcbbaaW.PrintMore
attribute [local go_sem] max2_int min2_int max_two min_two max_three min_three max_four min_four   -- for this text's walks alone
set_option linter.unusedVariables false
set_option linter.unusedSimpArgs false
end Go.Proofs.Ythplndalbfcbbaa.PA
namespace Go.Proofs.Ythplndalbfcbbaa.PA
open Go.RowKit Go.Proofs.YthplndalbfcbbaaW.PrintWords Go.Proofs.YthplndalbfcbbaaW.PrintLast Go.Proofs.YthplndalbfcbbaaW.PrintMore
attribute [local go_sem] max2_int min2_int max_two min_two max_three min_three max_four min_four   -- for this text's walks alone
set_option linter.unusedVariables false
set_option linter.unusedSimpArgs false
end Go.Proofs.Ythplndalbfcbbaa.PA
namespace Go.Proofs.Ythplndalbfcbbaa.PA
open Go.RowKit Go.Proofs.YthplndalbfcbbaaW.PrintWords Go.Proofs.YthplndalbfcbbaaW.PrintLast Go.Proofs.YthplndalbfcbbaaW.PrintMore
attribute [local go_sem] max2_int min2_int max_two min_two max_three min_three max_four min_four   -- for this text's walks alone
set_option linter.unusedVariables false
set_option linter.unusedSimpArgs false
end Go.Proofs.Ythplndalbfcbbaa.PA
namespace Go.Proofs.Ythplndalbfcbbaa.PA
open Go.RowKit Go.Proofs.YthplndalbfcbbaaW.PrintWords Go.Proofs.YthplndalbfcbbaaW.PrintLast Go.Proofs.YthplndalbfcbbaaW.PrintMore
attribute [local go_sem] max2_int min2_int max_two min_two max_three min_three max_four min_four   -- for this text's walks alone
set_option linter.unusedVariables false
set_option linter.unusedSimpArgs false
end Go.Proofs.Ythplndalbfcbbaa.PA
namespace Go.Proofs.Ythplndalbfcbbaa.PA
open Go.RowKit Go.Proofs.YthplndalbfcbbaaW.PrintWords Go.Proofs.YthplndalbfcbbaaW.PrintLast Go.Proofs.YthplndalbfcbbaaW.PrintMore
attribute [local go_sem] max2_int min2_int max_two min_two max_three min_three max_four min_four   -- for this text's walks alone
set_option linter.unusedVariables false
set_option linter.unusedSimpArgs false
end Go.Proofs.Ythplndalbfcbbaa.PA
namespace Go.Proofs.Ythplndalbfcbbaa.PA
open Go.RowKit Go.Proofs.YthplndalbfcbbaaW.PrintWords Go.Proofs.YthplndalbfcbbaaW.PrintLast Go.Proofs.YthplndalbfcbbaaW.PrintMore
attribute [local go_sem] max2_int min2_int max_two min_two max_three min_three max_four min_four   -- for this text's walks alone
set_option linter.unusedVariables false
set_option linter.unusedSimpArgs false
end Go.Proofs.Ythplndalbfcbbaa.PA
namespace Go.Proofs.Ythplndalbfcbbaa.PA
open Go.RowKit Go.Proofs.YthplndalbfcbbaaW.PrintWords Go.Proofs.YthplndalbfcbbaaW.PrintLast Go.Proofs.YthplndalbfcbbaaW.PrintMore
attribute [local go_sem] max2_int min2_int max_two min_two max_three min_three max_four min_four   -- for this text's walks alone
set_option linter.unusedVariables false
set_option linter.unusedSimpArgs false
end Go.Proofs.Ythplndalbfcbbaa.PA
namespace Go.Proofs.Ythplndalbfcbbaa.PA
open Go.RowKit Go.Proofs.YthplndalbfcbbaaW.PrintWords Go.Proofs.YthplndalbfcbbaaW.PrintLast Go.Proofs.YthplndalbfcbbaaW.PrintMore
attribute [local go_sem] max2_int min2_int max_two min_two max_three min_three max_four min_four   -- for this text's walks alone
set_option linter.unusedVariables false
set_option linter.unusedSimpArgs false
end Go.Proofs.Ythplndalbfcbbaa.PA
namespace Go.Proofs.Ythplndalbfcbbaa.PA
open Go.RowKit Go.Proofs.YthplndalbfcbbaaW.PrintWords Go.Proofs.YthplndalbfcbbaaW.PrintLast Go.Proofs.YthplndalbfcbbaaW.PrintMore
attribute [local go_sem] max2_int min2_int max_two min_two max_three min_three max_four min_four   -- for this text's walks alone
set_option linter.unusedVariables false
set_option linter.unusedSimpArgs false
end Go.Proofs.Ythplndalbfcbbaa.PA
namespace Go.Proofs.Ythplndalbfcbbaa.PA
open Go.RowKit Go.Proofs.YthplndalbfcbbaaW.PrintWords Go.Proofs.YthplndalbfcbbaaW.PrintLast Go.Proofs.YthplndalbfcbbaaW.PrintMore
attribute [local go_sem] max2_int min2_int max_two min_two max_three min_three max_four min_four   -- for this text's walks alone
set_option linter.unusedVariables false
set_option linter.unusedSimpArgs false
end Go.Proofs.Ythplndalbfcbbaa.PA
namespace Go.Proofs.Ythplndalbfcbbaa.PA
open Go.RowKit Go.Proofs.YthplndalbfcbbaaW.PrintWords Go.Proofs.YthplndalbfcbbaaW.PrintLast Go.Proofs.YthplndalbfcbbaaW.PrintMore
attribute [local go_sem] max2_int min2_int max_two min_two max_three min_three max_four min_four   -- for this text's walks alone
set_option linter.unusedVariables false
set_option linter.unusedSimpArgs false
mutual
def elenchusref07_Few.l0 : Nat → List (S148) → Int → Option (Bool)
  | 0, _, _ => none
  | k + 1, x0, x3 => if x3 < (x0.length : Int) then (elenchusref07_Few.j1 k x0 x3 (decide ((x0.length : Int) ≤ 300))) else (elenchusref07_Few.j1 k x0 x3 false)
def elenchusref07_Few.j1 : Nat → List (S148) → Int → Bool → Option (Bool)
  | 0, _, _, _ => none
  | k + 1, x0, x3, x12 => if x12 = true then (if 0 ≤ x3 then (if x3 < (x0.length : Int) then (if (((rd_T148 x0 x3).f0).size : Int) > 100 then (some false) else (elenchusref07_Few.l0 k x0 (wrap64 (x3 + 1)))) else (none)) else (none)) else (some (decide ((x0.length : Int) ≤ 300)))
end
def elenchusref07_Few.f (k : Nat) (l0 : List (S148)) : Option (Bool) := elenchusref07_Few.l0 k l0 0
set_option maxHeartbeats 8000000 in
set_option maxRecDepth 100000 in
theorem elenchusref07_Few.calls (k : Nat) (A0 : Option Addr) (c0 : Nat) (l0 : List (S148)) (r : Bool) (w : World) (hr0 : Kd.C k148 w A0 l0.length l0) (hc0 : l0.length ≤ c0) (h : elenchusref07_Few.f k l0 = some r) :
    Calls Try.prog 118 #[.slice A0 l0.length c0] w fun e w' => e = .returned (.bool r) ∧ Drawn0 w w' := by
  have HR0 := Aside0.mk hr0
  have HC0 := Aside0.mk hc0
  clear hr0 hc0
  have H : (elenchusref07_Few.l0 k l0 0) = some r := h
  clear h
  have H' := Aside0.mk H
  clear H
  go_enter Try.func118, Try.ntmps118
  go_wp2
  go_loopg [3] k (fun kq v3 w' => ∃ (x3_1 : Int), v3 = .int .i64 x3_1 ∧ Aside0 (elenchusref07_Few.l0 kq l0 x3_1 = some r) ∧ Aside0 (kq ≤ k) ∧ Drawn0 w w')
  case atStart => exact ⟨(0), (by first | rfl | (simp; done) | (simp [*]; done)), H', ⟨Nat.le_refl _⟩, by repeat (first | exact Drawn0.refl _ | apply Drawn0.step)⟩
  case round =>
    clear H'
    try clear c1
    obtain ⟨x3_1, rfl, HA, HK1, ⟨m1, rfl⟩⟩ := hrel
    cases gk with
    | zero => exact absurd HA.out (by simp [elenchusref07_Few.l0])
    | succ k1 =>
      have H := HA.out
      clear HA
      simp only [elenchusref07_Few.l0] at H
      have HC2 := Aside0.mk H
      clear H
      go_upto_region 2 with (fail)
      go_cut [12] (fun v12 wc => ∃ (kq : Nat) (x12_1 : Bool), v12 = .bool x12_1 ∧ Aside0 (elenchusref07_Few.j1 kq l0 x3_1 x12_1 = some r) ∧ Aside0 (kq ≤ k1) ∧ Drawn0 w wc)
      case first =>
        have H := HC2.out
        clear HC2
        by_cases c3 : x3_1 < (l0.length : Int)
        · rw [if_pos c3] at H
          have c3b0 : decide (x3_1 < (l0.length : Int)) = true := decide_eq_true c3
          clear c3
          (first | rw [c3b0] | (simp only [i64_w, i32_w]; rw [c3b0]) | skip)
          have H' := Aside0.mk H
          clear H
          go_wp2
          go_meet
          case rel => exact ⟨_, (decide ((l0.length : Int) ≤ 300)), (by first | rfl | (simp; done) | (simp [*]; done)), H', ⟨by have := HK1.out; first | omega | exact Nat.le_refl _⟩, by repeat (first | exact Drawn0.refl _ | apply Drawn0.step)⟩
        · rw [if_neg c3] at H
          have c3b0 : decide (x3_1 < (l0.length : Int)) = false := decide_eq_false c3
          clear c3
          (first | rw [c3b0] | (simp only [i64_w, i32_w]; rw [c3b0]) | skip)
          have H' := Aside0.mk H
          clear H
          go_wp2
          go_meet
          case rel => exact ⟨_, (false), (by first | rfl | (simp; done) | (simp [*]; done)), H', ⟨by have := HK1.out; first | omega | exact Nat.le_refl _⟩, by repeat (first | exact Drawn0.refl _ | apply Drawn0.step)⟩
      case rest =>
        clear HC2
        try clear c1
        try clear p2
        try clear c3
        try clear c3b0
        obtain ⟨kq, x12_1, rfl, HA, HJ1, ⟨mc1, rfl⟩⟩ := hcut
        cases kq with
        | zero => exact absurd HA.out (by simp [elenchusref07_Few.j1])
        | succ kj1 =>
          have H := HA.out
          clear HA
          simp only [elenchusref07_Few.j1] at H
          by_cases c4 : x12_1 = true
          · subst c4
            have H1 : (if 0 ≤ x3_1 then (if x3_1 < (l0.length : Int) then (if (((rd_T148 l0 x3_1).f0).size : Int) > 100 then (some false) else (elenchusref07_Few.l0 kj1 l0 (wrap64 (x3_1 + 1)))) else (none)) else (none)) = some r := by rw [if_pos rfl] at H; exact H
            clear H
            have H := H1
            clear H1
            by_cases c5 : 0 ≤ x3_1
            · rw [if_pos c5] at H
              have c5b0 : decide (0 ≤ x3_1) = true := decide_eq_true c5
              clear c5
              by_cases c6 : x3_1 < (l0.length : Int)
              · rw [if_pos c6] at H
                have c6b0 : decide (x3_1 < (l0.length : Int)) = true := decide_eq_true c6
                clear c6
                by_cases c7 : (((rd_T148 l0 x3_1).f0).size : Int) > 100
                · rw [if_pos c7] at H
                  have c7b0 : decide (100 < (((rd_T148 l0 x3_1).f0).size : Int)) = true := decide_eq_true c7
                  have c7b1 : decide (100 < ((rd_T148 l0 x3_1).f0).size) = true := decide_eq_true (by omega)
                  clear c7
                  obtain rfl := Option.some.inj H
                  have p615 : 0 ≤ (x3_1 : Int) := of_decide_eq_true (by first | (with_reducible assumption) | assumption)
                  have q615 : x3_1 < (l0.length : Int) := of_decide_eq_true (by first | (with_reducible assumption) | assumption)
                  obtain ⟨ad615, e615, hx615_0, hx615_1, hx615_2, hx615_3⟩ := at_T148 HR0.out x3_1 p615 q615
                  cases e615
                  replace p615 := eq_true p615
                  replace q615 := eq_true q615
                  go_wp2
                  go_ret
                  exact ⟨by first | rfl | (simp; done) | (simp [*]; done), by repeat (first | exact Drawn0.refl _ | apply Drawn0.step)⟩
                · rw [if_neg c7] at H
                  have c7b0 : decide (100 < (((rd_T148 l0 x3_1).f0).size : Int)) = false := decide_eq_false c7
                  have c7b1 : decide (100 < ((rd_T148 l0 x3_1).f0).size) = false := decide_eq_false (by omega)
                  clear c7
                  have H' := Aside0.mk H
                  clear H
                  have p615 : 0 ≤ (x3_1 : Int) := of_decide_eq_true (by first | (with_reducible assumption) | assumption)
                  have q615 : x3_1 < (l0.length : Int) := of_decide_eq_true (by first | (with_reducible assumption) | assumption)
                  obtain ⟨ad615, e615, hx615_0, hx615_1, hx615_2, hx615_3⟩ := at_T148 HR0.out x3_1 p615 q615
                  cases e615
                  replace p615 := eq_true p615
                  replace q615 := eq_true q615
                  go_wp2
                  go_roundg kj1
                  case measure => have := HK1.out; have := HJ1.out; omega
                  case rel => exact ⟨(wrap64 (x3_1 + 1)), (by first | rfl | (simp; done) | (simp [*]; done)), H', ⟨by have := HK1.out; have := HJ1.out; omega⟩, by repeat (first | exact Drawn0.refl _ | apply Drawn0.step)⟩
              · rw [if_neg c6] at H
                exact absurd H (by simp)
            · rw [if_neg c5] at H
              exact absurd H (by simp)
          · replace c4 := Bool.eq_false_iff.mpr c4
            subst c4
            have H1 : (some (decide ((l0.length : Int) ≤ 300))) = some r := by rw [if_neg (show ¬ (false = true) by decide)] at H; exact H
            clear H
            have H := H1
            clear H1
            obtain rfl := Option.some.inj H
            go_wp2
            go_ret
            exact ⟨by first | rfl | (simp; done) | (simp [*]; done), by repeat (first | exact Drawn0.refl _ | apply Drawn0.step)⟩
end Go.Proofs.Ythplndalbfcbbaa.PA
namespace Go.Proofs.Ythplndalbfcbbaa.PA
open Go.RowKit Go.Proofs.YthplndalbfcbbaaW.PrintWords Go.Proofs.YthplndalbfcbbaaW.PrintLast Go.Proofs.YthplndalbfcbbaaW.PrintMore
attribute [local go_sem] max2_int min2_int max_two min_two max_three min_three max_four min_four   -- for this text's walks alone
set_option linter.unusedVariables false
set_option linter.unusedSimpArgs false
def elenchusref16_Few.f (k : Nat) (l0 : List (S148)) (l1 : List (S142)) : Option (Bool) := (elenchusref07_Few.f k l0).bind fun t628 => (if t628 = true then ((elenchusref10_Few.f k l1).bind fun t629 => (if t629 = true then ((elenchusref10_Terms.f k l1).bind fun t630 => ((elenchusref05_Few.f t630).bind fun t633 => (some t633))) else (some false))) else (some false))
set_option maxHeartbeats 8000000 in
set_option maxRecDepth 100000 in
theorem elenchusref16_Few.calls (k : Nat) (A0 : Option Addr) (c0 : Nat) (l0 : List (S148)) (A1 : Option Addr) (c1 : Nat) (l1 : List (S142)) (r : Bool) (w : World) (hr0 : Kd.C k148 w A0 l0.length l0) (hc0 : l0.length ≤ c0) (hr1 : Kd.C k142 w A1 l1.length l1) (hc1 : l1.length ≤ c1) (h : elenchusref16_Few.f k l0 l1 = some r) :
    Calls Try.prog 60 #[.slice A0 l0.length c0, .slice A1 l1.length c1] w fun e w' => e = .returned (.bool r) ∧ Below w.heap.size w w' := by
  have HR0 := Aside0.mk hr0
  have HC0 := Aside0.mk hc0
  clear hr0 hc0
  have HR1 := Aside0.mk hr1
  have HC1 := Aside0.mk hc1
  clear hr1 hc1
  have HB := Aside0.mk (Below.refl w.heap.size w)
  have H : ((elenchusref07_Few.f k l0).bind fun t628 => (if t628 = true then ((elenchusref10_Few.f k l1).bind fun t629 => (if t629 = true then ((elenchusref10_Terms.f k l1).bind fun t630 => ((elenchusref05_Few.f t630).bind fun t633 => (some t633))) else (some false))) else (some false))) = some r := h
  clear h
  replace H := Option.bind_eq_some_iff.mp H
  obtain ⟨t628, A30, H⟩ := H
  replace H : (if t628 = true then ((elenchusref10_Few.f k l1).bind fun t629 => (if t629 = true then ((elenchusref10_Terms.f k l1).bind fun t630 => ((elenchusref05_Few.f t630).bind fun t633 => (some t633))) else (some false))) else (some false)) = some r := H
  have A3 := Aside0.mk A30
  clear A30
  by_cases c4 : t628 = true
  · subst c4
    have H1 : ((elenchusref10_Few.f k l1).bind fun t629 => (if t629 = true then ((elenchusref10_Terms.f k l1).bind fun t630 => ((elenchusref05_Few.f t630).bind fun t633 => (some t633))) else (some false))) = some r := by rw [if_pos rfl] at H; exact H
    clear H
    have H := H1
    clear H1
    replace H := Option.bind_eq_some_iff.mp H
    obtain ⟨t629, A50, H⟩ := H
    replace H : (if t629 = true then ((elenchusref10_Terms.f k l1).bind fun t630 => ((elenchusref05_Few.f t630).bind fun t633 => (some t633))) else (some false)) = some r := H
    have A5 := Aside0.mk A50
    clear A50
    by_cases c6 : t629 = true
    · subst c6
      have H1 : ((elenchusref10_Terms.f k l1).bind fun t630 => ((elenchusref05_Few.f t630).bind fun t633 => (some t633))) = some r := by rw [if_pos rfl] at H; exact H
      clear H
      have H := H1
      clear H1
      replace H := Option.bind_eq_some_iff.mp H
      obtain ⟨t630, A70, H⟩ := H
      replace H : ((elenchusref05_Few.f t630).bind fun t633 => (some t633)) = some r := H
      have A7 := Aside0.mk A70
      clear A70
      replace H := Option.bind_eq_some_iff.mp H
      obtain ⟨t633, A80, H⟩ := H
      replace H : (some t633) = some r := H
      have A8 := Aside0.mk A80
      clear A80
      obtain rfl := Option.some.inj H
      go_enter Try.func60, Try.ntmps60
      go_wp2_with (first | ((with_reducible refine gate_callee (f := 118) rfl ?_); refine goesL_ (some 6) rfl rfl Try.func118 (by kernel_rfl) rfl #[.slice A0 l0.length c0] rfl (by (try simp only [List.map_toArray, List.map_cons, List.map_nil]); first | done | rfl | (simp only [List.length_drop, List.length_take]; rfl)) ?_; (with_reducible refine (elenchusref07_Few.calls k _ _ l0 true _ ?side1 ?side2 A3.out).mono ?_); (case side1 => repeat (first | exact HR0.out | (with_reducible refine Kd.C_alloc ?_ _) | (with_reducible refine Kd.C_drewN ?_ _) | (with_reducible refine Kd.C_drew ?_))); (case side2 => exact HC0.out); rintro e w' ⟨rfl, ⟨nd, rfl⟩⟩; refine ⟨_, rfl, ?_⟩) | (go_at_call 119; (with_reducible refine (elenchusref10_Few.calls k _ _ l1 true _ ?side1 ?side2 A5.out).mono ?_); (case side1 => repeat (first | exact HR1.out | (with_reducible refine Kd.C_alloc ?_ _) | (with_reducible refine Kd.C_drewN ?_ _) | (with_reducible refine Kd.C_drew ?_))); (case side2 => exact HC1.out); rintro e w9 ⟨rfl, hb⟩; have n0_ := Aside0.mk (below_step (by repeat (first | (with_reducible first | exact HB.out | apply below_alloc | apply pw_below_drewN | apply below_drew1) | exact HB.out)) hb); clear HB; have HB := n0_; clear n0_; (try clear hb); (try clear hb2); (try clear hk); (try clear hi)) | (go_at_call 120; (with_reducible refine (elenchusref10_Terms.calls k (fun k_ => k_ < w.heap.size) _ _ l1 t630 _ ?side1 A7.out).mono ?_); (case side1 => exact Kd.V_mk HC1.out (Kd.F_below (Kd.C_F k142_heap HR1.out) (by repeat (first | (with_reducible first | exact HB.out | apply below_alloc | apply pw_below_drewN | apply below_drew1) | exact HB.out)))); rintro e w10 ⟨v631, rfl, ho0, hb⟩; have n0_ := Aside0.mk (Kd.N_lower (Kd.N_mono (ok' := fun k_ => True) ho0 (fun k_ hk_ => trivial)) (below_size (by repeat (first | (with_reducible first | exact HB.out | apply below_alloc | apply pw_below_drewN | apply below_drew1) | exact HB.out)))); have n1_ := Aside0.mk (below_step (by repeat (first | (with_reducible first | exact HB.out | apply below_alloc | apply pw_below_drewN | apply below_drew1) | exact HB.out)) hb); clear HB; have HO632 := n0_; have HB := n1_; clear n0_ n1_; (try clear hb); (try clear hb2); (try clear hk); (try clear hi); (try clear ho0); obtain ⟨Ao11, co11, eo11⟩ := Kd.N_slice HO632.out; subst eo11) | (go_at_call 41; (with_reducible refine (elenchusref05_Few.calls _ _ t630 t633 _ ?side1 ?side2 A8.out).mono ?_); (case side1 => repeat (first | exact (Kd.N_reads' HO632.out).2.2 | (with_reducible refine Kd.C_alloc ?_ _) | (with_reducible refine Kd.C_drewN ?_ _) | (with_reducible refine Kd.C_drew ?_))); (case side2 => exact (Kd.N_reads' HO632.out).2.1); rintro e w12 ⟨rfl, hb⟩; have n0_ := Aside0.mk (Kd.N_below (by (with_reducible repeat (first | apply Kd.N_alloc | apply Kd.N_drewN | apply Kd.N_drew)); exact HO632.out) hb); have n1_ := Aside0.mk (below_step (by repeat (first | (with_reducible first | exact HB.out | apply below_alloc | apply pw_below_drewN | apply below_drew1) | exact HB.out)) hb); clear HO632; clear HB; have HO632 := n0_; have HB := n1_; clear n0_ n1_; (try clear hb); (try clear hb2); (try clear hk); (try clear hi)))
      go_ret
      exact ⟨by first | rfl | (simp [errW_none, errW_some] <;> rfl) | (simp [*, errW_none, errW_some] <;> rfl), by repeat (first | (with_reducible first | exact HB.out | apply below_alloc | apply pw_below_drewN | apply below_drew1) | exact HB.out)⟩
    · replace c6 := Bool.eq_false_iff.mpr c6
      subst c6
      have H1 : (some false) = some r := by rw [if_neg (show ¬ (false = true) by decide)] at H; exact H
      clear H
      have H := H1
      clear H1
      obtain rfl := Option.some.inj H
      go_enter Try.func60, Try.ntmps60
      go_wp2_with (first | ((with_reducible refine gate_callee (f := 118) rfl ?_); refine goesL_ (some 6) rfl rfl Try.func118 (by kernel_rfl) rfl #[.slice A0 l0.length c0] rfl (by (try simp only [List.map_toArray, List.map_cons, List.map_nil]); first | done | rfl | (simp only [List.length_drop, List.length_take]; rfl)) ?_; (with_reducible refine (elenchusref07_Few.calls k _ _ l0 true _ ?side1 ?side2 A3.out).mono ?_); (case side1 => repeat (first | exact HR0.out | (with_reducible refine Kd.C_alloc ?_ _) | (with_reducible refine Kd.C_drewN ?_ _) | (with_reducible refine Kd.C_drew ?_))); (case side2 => exact HC0.out); rintro e w' ⟨rfl, ⟨nd, rfl⟩⟩; refine ⟨_, rfl, ?_⟩) | (go_at_call 119; (with_reducible refine (elenchusref10_Few.calls k _ _ l1 false _ ?side1 ?side2 A5.out).mono ?_); (case side1 => repeat (first | exact HR1.out | (with_reducible refine Kd.C_alloc ?_ _) | (with_reducible refine Kd.C_drewN ?_ _) | (with_reducible refine Kd.C_drew ?_))); (case side2 => exact HC1.out); rintro e w13 ⟨rfl, hb⟩; have n0_ := Aside0.mk (below_step (by repeat (first | (with_reducible first | exact HB.out | apply below_alloc | apply pw_below_drewN | apply below_drew1) | exact HB.out)) hb); clear HB; have HB := n0_; clear n0_; (try clear hb); (try clear hb2); (try clear hk); (try clear hi)))
      go_ret
      exact ⟨by first | rfl | (simp [errW_none, errW_some] <;> rfl) | (simp [*, errW_none, errW_some] <;> rfl), by repeat (first | (with_reducible first | exact HB.out | apply below_alloc | apply pw_below_drewN | apply below_drew1) | exact HB.out)⟩
  · replace c4 := Bool.eq_false_iff.mpr c4
    subst c4
    have H1 : (some false) = some r := by rw [if_neg (show ¬ (false = true) by decide)] at H; exact H
    clear H
    have H := H1
    clear H1
    obtain rfl := Option.some.inj H
    go_enter Try.func60, Try.ntmps60
    go_wp2_with (first | ((with_reducible refine gate_callee (f := 118) rfl ?_); refine goesL_ (some 6) rfl rfl Try.func118 (by kernel_rfl) rfl #[.slice A0 l0.length c0] rfl (by (try simp only [List.map_toArray, List.map_cons, List.map_nil]); first | done | rfl | (simp only [List.length_drop, List.length_take]; rfl)) ?_; (with_reducible refine (elenchusref07_Few.calls k _ _ l0 false _ ?side1 ?side2 A3.out).mono ?_); (case side1 => repeat (first | exact HR0.out | (with_reducible refine Kd.C_alloc ?_ _) | (with_reducible refine Kd.C_drewN ?_ _) | (with_reducible refine Kd.C_drew ?_))); (case side2 => exact HC0.out); rintro e w' ⟨rfl, ⟨nd, rfl⟩⟩; refine ⟨_, rfl, ?_⟩))
    go_ret
    exact ⟨by first | rfl | (simp [errW_none, errW_some] <;> rfl) | (simp [*, errW_none, errW_some] <;> rfl), by repeat (first | (with_reducible first | exact HB.out | apply below_alloc | apply pw_below_drewN | apply below_drew1) | exact HB.out)⟩
end Go.Proofs.Ythplndalbfcbbaa.PA
namespace Go.Proofs.Ythplndalbfcbbaa.PA
open Go.RowKit Go.Proofs.YthplndalbfcbbaaW.PrintWords Go.Proofs.YthplndalbfcbbaaW.PrintLast Go.Proofs.YthplndalbfcbbaaW.PrintMore
attribute [local go_sem] max2_int min2_int max_two min_two max_three min_three max_four min_four   -- for this text's walks alone
set_option linter.unusedVariables false
set_option linter.unusedSimpArgs false
end Go.Proofs.Ythplndalbfcbbaa.PA
namespace Go.Proofs.Ythplndalbfcbbaa.PA
open Go.RowKit Go.Proofs.YthplndalbfcbbaaW.PrintWords Go.Proofs.YthplndalbfcbbaaW.PrintLast Go.Proofs.YthplndalbfcbbaaW.PrintMore
attribute [local go_sem] max2_int min2_int max_two min_two max_three min_three max_four min_four   -- for this text's walks alone
set_option linter.unusedVariables false
set_option linter.unusedSimpArgs false
end Go.Proofs.Ythplndalbfcbbaa.PA
namespace Go.Proofs.Ythplndalbfcbbaa.PA
open Go.RowKit Go.Proofs.YthplndalbfcbbaaW.PrintWords Go.Proofs.YthplndalbfcbbaaW.PrintLast Go.Proofs.YthplndalbfcbbaaW.PrintMore
attribute [local go_sem] max2_int min2_int max_two min_two max_three min_three max_four min_four   -- for this text's walks alone
set_option linter.unusedVariables false
set_option linter.unusedSimpArgs false
end Go.Proofs.Ythplndalbfcbbaa.PA
