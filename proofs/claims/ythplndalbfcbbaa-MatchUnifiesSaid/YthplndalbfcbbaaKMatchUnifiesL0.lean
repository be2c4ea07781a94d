/- What the proof of the law rests on: contracts of the functions, plain laws, and words. -/
import Derived.Test.YthplndalbfcbbaaProg
import Derived.Below
import Derived.Deep.Draws
import Derived.Deep.AppendLies
import Derived.Maps.AppendAt
import Derived.OwnWalk
import Derived.Laws.BytesArg
import Derived.Laws.MakeOwn
import Derived.Laws.OwnMore
import Derived.Deep.OwnRows
import Derived.Tactics
import Derived.Lib.ConvBytes
import Derived.Laws.Slices
import Derived.WalkKit
import Derived.KernelRfl
import Derived.RowKit3
import Derived.Deep.LoopGhost
import Derived.Deep.QuietTactic
import Derived.BigQuiet
import Derived.WideLaws
import Derived.Deep.DeepCutAuto
import Derived.Deep.CutBlock
import Derived.Deep.RegionHeld3
import Derived.Laws.Rows
import Derived.Lib.AppendStr
import Derived.ArgAppend
import Derived.Laws.IdiomCopy
import Derived.OrdersHeld
import Derived.Laws.BitsLemmas
import Derived.RowKit
import Derived.Laws.StructEq
import Derived.Test.YthplndalbfcbbaaKMatchUnifiesU0
import Derived.Test.YthplndalbfcbbaaKMatchUnifiesG7
import Derived.Test.YthplndalbfcbbaaKMatchUnifiesG4
import Derived.Test.YthplndalbfcbbaaKMatchUnifiesG1
import Derived.Test.YthplndalbfcbbaaKMatchUnifiesG6
import Derived.Test.YthplndalbfcbbaaKMatchUnifiesG3
import Derived.Test.YthplndalbfcbbaaKMatchUnifiesG9
import Derived.Test.YthplndalbfcbbaaKMatchUnifiesXUAll
import Derived.Test.YthplndalbfcbbaaKMatchUnifiesG12
import Derived.Test.YthplndalbfcbbaaKMatchUnifiesG11
import Derived.Test.YthplndalbfcbbaaKMatchUnifiesXUnifyT
namespace Go.Proofs.Ythplndalbfcbbaa.PA
open Go.RowKit Go.Proofs.YthplndalbfcbbaaW.PrintWords Go.Proofs.YthplndalbfcbbaaW.PrintLast Go.Proofs.YthplndalbfcbbaaW.PrintMore
attribute [local go_sem] max2_int min2_int max_two min_two max_three min_three max_four min_four   -- for this text's walks alone
set_option linter.unusedVariables false
set_option linter.unusedSimpArgs false
def errW : Option Int → Value
  | none => .nilIface
  | some c => .iface 0 (.int .i64 c)
theorem errW_none : errW none = .nilIface := rfl
theorem errW_some (c : Int) : errW (some c) = .iface 0 (.int .i64 c) := rfl
theorem info3 : (Try.prog.info? 3).map (fun i => (i.zero, i.size, i.bytes)) = some (some (.int .i64 0), 1, 8) := by kernel_rfl
structure S25 where
  f0 : Int
  f1 : (List S25)
def z25 : S25 := ⟨(0 : Int), ([] : List S25)⟩
def F25 (d : Kd S25) : Kd S25 := Kd.iso (Kd.pair (Kd.int .i64) (Kd.slice 25 d)) (fun x : S25 => (x.f0, x.f1))
theorem mono25 : Kd.Mono F25 := Kd.mono_iso _ (Kd.mono_pair (Kd.mono_const _) (Kd.mono_slice 25 Kd.mono_id))
theorem sub25 : Kd.Sub F25 [25] := Kd.sub_iso _ (Kd.sub_pair (Kd.sub_const _ (by decide)) (Kd.sub_slice 25 (by decide) Kd.sub_id))
theorem sz25 : ∀ n, (Kd.upto F25 2 [25] n).sz = 2 := Kd.upto_sz (fun _ => rfl)
def k25 : Kd S25 := Kd.fix F25 2 [25] sz25 (Kd.upto_E sub25)
theorem k25_heap : Kd.Heap k25 := Kd.heap_fix (fun _ h_ => Kd.heap_iso _ (Kd.heap_pair (Kd.heap_int .i64) (Kd.heap_slice 25 h_)))
theorem k25_open {w : World} {x : S25} {cs : List Value} (h : k25.K w x cs) : ∃ A1 c1, cs = [.int .i64 x.f0, .slice A1 x.f1.length c1] ∧ x.f1.length ≤ c1 ∧ k25.C w A1 x.f1.length x.f1 := by
  obtain ⟨n, h⟩ := h
  cases n with
  | zero => exact h.elim
  | succ n =>
    obtain ⟨_, _, rfl, rfl, ⟨A1, c1, rfl, l1, g1⟩⟩ := h
    exact ⟨A1, c1, rfl, l1, Kd.fix_C g1⟩
theorem k25_mk (w : World) (x : S25) {A1 : Option Addr} {c1 : Nat} (l1 : x.f1.length ≤ c1) (g1 : k25.C w A1 x.f1.length x.f1) : k25.K w x [.int .i64 x.f0, .slice A1 x.f1.length c1] := by
  obtain ⟨n1, q1⟩ := Kd.fix_C_back mono25 g1
  have r1 := Kd.upto_C_le mono25 sz25 (show n1 ≤ n1 by omega) q1
  exact ⟨n1 + 1, ⟨[.int .i64 x.f0], [.slice A1 x.f1.length c1], rfl, rfl, ⟨A1, c1, rfl, l1, r1⟩⟩⟩
theorem k25_openF {W : World} {ok : Nat → Prop} {x : S25} {cs : List Value} (h : Kd.FK k25 W ok x cs) : ∃ A1 c1, cs = [.int .i64 x.f0, .slice A1 x.f1.length c1] ∧ x.f1.length ≤ c1 ∧ Kd.F k25 W ok A1 x.f1.length x.f1 := by
  obtain ⟨A1, c1, rfl, l1, _⟩ := k25_open (Kd.FK_now h)
  exact ⟨A1, c1, rfl, l1, (fun W' hW => by obtain ⟨A1_, c1_, he, l1_, g1_⟩ := k25_open (h W' hW); injection (Option.some.inj (show some (Value.slice A1 x.f1.length c1) = some (Value.slice A1_ x.f1.length c1_) from congrArg (fun l => l[1]?) he)) with ha_ _ _; rw [ha_]; exact g1_)⟩
theorem k25_mkF (W : World) (ok : Nat → Prop) (x : S25) {A1 : Option Addr} {c1 : Nat} (l1 : x.f1.length ≤ c1) (g1 : Kd.F k25 W ok A1 x.f1.length x.f1) : Kd.FK k25 W ok x [.int .i64 x.f0, .slice A1 x.f1.length c1] := fun W2 hW => k25_mk W2 x l1 (g1 W2 hW)
def rd_T25 (xs : List S25) (i : Int) : S25 := xs.getD i.toNat z25
theorem at_T25 {w : World} {A : Option Addr} {n : Nat} {xs : List S25} (h : Kd.C k25 w A n xs) (i : Int) (h0 : 0 ≤ i) (h1 : i < n) : ∃ ad A1 c1, A = some ad ∧ w.cell? (ad.add (i.toNat * 2)) = some (.int .i64 (rd_T25 xs i).f0) ∧ w.cell? ⟨(ad.add (i.toNat * 2)).block, (ad.add (i.toNat * 2)).off + 1, none⟩ = some (.slice A1 (rd_T25 xs i).f1.length c1) ∧ (rd_T25 xs i).f1.length ≤ c1 ∧ k25.C w A1 (rd_T25 xs i).f1.length (rd_T25 xs i).f1 := by
  obtain ⟨ad, c, e, _, hK, hc0⟩ := Kd.C_get h z25 i h0 h1
  have hc : ∀ j u, c[j]? = some u → w.cell? (ad.add (i.toNat * 2 + j)) = some u := hc0
  obtain ⟨A1, c1, rfl, l1, g1⟩ := k25_open hK
  exact ⟨ad, A1, c1, e, hc 0 _ rfl, by rw [← add_field _ _ 1 (by omega)]; exact hc 1 _ rfl, l1, g1⟩
structure S60 where
  f0 : Int
  f1 : S25
def z60 : S60 := ⟨(0 : Int), z25⟩
def k60 : Kd S60 := Kd.iso (Kd.pair (Kd.int .i64) k25) (fun x : S60 => (x.f0, x.f1))
theorem k60_heap : Kd.Heap k60 := Kd.heap_iso _ (Kd.heap_pair (Kd.heap_int .i64) k25_heap)
theorem k60_open {w : World} {x : S60} {cs : List Value} (h : k60.K w x cs) : ∃ A2 c2, cs = [.int .i64 x.f0, .int .i64 x.f1.f0, .slice A2 x.f1.f1.length c2] ∧ x.f1.f1.length ≤ c2 ∧ k25.C w A2 x.f1.f1.length x.f1.f1 := by
  obtain ⟨_, _, rfl, rfl, s1⟩ := h
  obtain ⟨A2, c2, rfl, l2, g2⟩ := k25_open s1
  exact ⟨A2, c2, rfl, l2, g2⟩
theorem k60_mk (w : World) (x : S60) {A2 : Option Addr} {c2 : Nat} (l2 : x.f1.f1.length ≤ c2) (g2 : k25.C w A2 x.f1.f1.length x.f1.f1) : k60.K w x [.int .i64 x.f0, .int .i64 x.f1.f0, .slice A2 x.f1.f1.length c2] := ⟨[.int .i64 x.f0], [.int .i64 x.f1.f0, .slice A2 x.f1.f1.length c2], rfl, rfl, (k25_mk w x.f1 l2 g2)⟩
theorem k60_openF {W : World} {ok : Nat → Prop} {x : S60} {cs : List Value} (h : Kd.FK k60 W ok x cs) : ∃ A2 c2, cs = [.int .i64 x.f0, .int .i64 x.f1.f0, .slice A2 x.f1.f1.length c2] ∧ x.f1.f1.length ≤ c2 ∧ Kd.F k25 W ok A2 x.f1.f1.length x.f1.f1 := by
  obtain ⟨A2, c2, rfl, l2, _⟩ := k60_open (Kd.FK_now h)
  exact ⟨A2, c2, rfl, l2, (fun W' hW => by obtain ⟨A2_, c2_, he, l2_, g2_⟩ := k60_open (h W' hW); injection (Option.some.inj (show some (Value.slice A2 x.f1.f1.length c2) = some (Value.slice A2_ x.f1.f1.length c2_) from congrArg (fun l => l[2]?) he)) with ha_ _ _; rw [ha_]; exact g2_)⟩
end Go.Proofs.Ythplndalbfcbbaa.PA
set_option linter.unusedVariables false
namespace Go.Proofs.Ythplndalbfcbbaa.PA
open Go.RowKit Go.Proofs.YthplndalbfcbbaaW.PrintWords
def elenchuslaw05_awake.f : Option (Bool) := some true
theorem elenchuslaw05_awake.calls (r : Bool) (w : World) (h : elenchuslaw05_awake.f = some r) :
    Calls Try.prog 44 #[] w fun e w' => e = .returned (.bool r) ∧ Below w.heap.size w w' := by
  cases h
  exact awake5_calls w
end Go.Proofs.Ythplndalbfcbbaa.PA
set_option linter.unusedSimpArgs false
set_option linter.unusedVariables false
namespace Go.Proofs.Ythplndalbfcbbaa
open Go.RowKit Go.Proofs.YthplndalbfcbbaaW.PrintWords
abbrev TS := PA.S25
abbrev BS := PA.S60
abbrev kT := PA.k25
abbrev kB := PA.k60
mutual
def toS : Tm → TS
  | .node h l => ⟨h, toSL l⟩
def toSL : List Tm → List TS
  | [] => []
  | t :: ts => toS t :: toSL ts
end
mutual
def ofS : TS → Tm
  | ⟨h, l⟩ => .node h (ofSL l)
def ofSL : List TS → List Tm
  | [] => []
  | x :: xs => ofS x :: ofSL xs
end
mutual
theorem ofS_toS : ∀ t : Tm, ofS (toS t) = t
  | .node h l => by simp only [toS, ofS, ofSL_toSL l]
theorem ofSL_toSL : ∀ l : List Tm, ofSL (toSL l) = l
  | [] => rfl
  | t :: ts => by simp only [toSL, ofSL, ofS_toS t, ofSL_toSL ts]
end
theorem toSL_map (l : List Tm) : toSL l = l.map toS := by induction l <;> simp_all [toSL]
theorem ofSL_map (l : List TS) : ofSL l = l.map ofS := by induction l <;> simp_all [ofSL]
theorem toSL_length (l : List Tm) : (toSL l).length = l.length := by rw [toSL_map]; simp
theorem ofSL_length (l : List TS) : (ofSL l).length = l.length := by rw [ofSL_map]; simp
theorem toS_f0 (t : Tm) : (toS t).f0 = t.h := by cases t; rfl
theorem toS_f1 (t : Tm) : (toS t).f1 = toSL t.args := by cases t; rfl
theorem ofS_h (x : TS) : (ofS x).h = x.f0 := by cases x; rfl
theorem ofS_args (x : TS) : (ofS x).args = ofSL x.f1 := by cases x; rfl
theorem add_flat (b off k : Nat) : (⟨b, off, none⟩ : Addr).add k = ⟨b, off + k, none⟩ := by unfold Addr.add; split <;> simp_all
mutual
theorem k_of {A : Nat → Prop} {w : World} : ∀ (t : Tm) (cs : List Value), RepD A w t.d cs → kT.K w (toS t) cs
  | .node h l, cs, hr => by
    obtain ⟨s, rfl, hs⟩ := repTm.1 hr
    have hs' : RepD A w (.row 2 (Tm.ds l)) [s] := hs
    simp only [RepD] at hs'
    obtain ⟨a, n, c, h1, h2, h3, h4, h5⟩ := hs'
    simp only [List.cons.injEq, and_true] at h1
    subst h1
    have hn : n = (toSL l).length := by rw [h2, Tm.ds_eq, toSL_length]; simp
    subst hn
    refine PA.k25_mk w (toS (.node h l)) (A1 := a) (c1 := c) h3 ⟨rfl, h4, fun h0 => ?_⟩
    obtain ⟨b, off, rfl, hb, hA, hR⟩ := h5 h0
    exact ⟨_, rfl, fun j p hp => by
      obtain ⟨c1, e1, e2, e3⟩ := kr_of l off hR j p hp
      exact ⟨c1, e1, e2, fun i u hu => by rw [add_flat, ← Nat.add_assoc]; exact e3 i u hu⟩⟩
theorem kr_of {A : Nat → Prop} {w : World} {b : Nat} : ∀ (l : List Tm) (off : Nat), RepR A w b 2 off (Tm.ds l) → ∀ j p, (toSL l)[j]? = some p → ∃ c : List Value, c.length = 2 ∧ kT.K w p c ∧ ∀ i u, c[i]? = some u → w.cell? ⟨b, off + j * 2 + i, none⟩ = some u
  | [], _, _, j, p, hp => by simp [toSL] at hp
  | t :: ts, off, h, j, p, hp => by
    simp only [Tm.ds, RepR] at h
    obtain ⟨⟨cs, e1, e2, e3⟩, h2⟩ := h
    cases j with
    | zero =>
      simp only [toSL, List.getElem?_cons_zero, Option.some.injEq] at hp
      subst hp
      refine ⟨cs, e1, k_of t cs e3, fun i u hu => ?_⟩
      have hi : i < 2 := by have := (List.getElem?_eq_some_iff.1 hu).1; omega
      rw [show off + 0 * 2 + i = off + i by omega, e2 i hi, hu]
    | succ j =>
      simp only [toSL, List.getElem?_cons_succ] at hp
      obtain ⟨c1, g1, g2, g3⟩ := kr_of ts (off + 2) h2 j p hp
      exact ⟨c1, g1, g2, fun i u hu => by rw [show off + (j + 1) * 2 + i = off + 2 + j * 2 + i by omega]; exact g3 i u hu⟩
end
theorem c_of {A : Nat → Prop} {w : World} {a : Option Addr} {n c : Nat} {l : List Tm} (hs : Terms A w (.slice a n c) l) : n = (toSL l).length ∧ (toSL l).length ≤ c ∧ kT.C w a (toSL l).length (toSL l) := by
  have hs' : RepD A w (.row 2 (Tm.ds l)) [.slice a n c] := hs
  simp only [RepD] at hs'
  obtain ⟨a', n', c', h1, h2, h3, h4, h5⟩ := hs'
  simp only [List.cons.injEq, and_true, Value.slice.injEq] at h1
  obtain ⟨rfl, rfl, rfl⟩ := h1
  have hn : n = (toSL l).length := by rw [h2, Tm.ds_eq, toSL_length]; simp
  subst hn
  refine ⟨rfl, h3, rfl, h4, fun h0 => ?_⟩
  obtain ⟨b, off, rfl, hb, hA, hR⟩ := h5 h0
  exact ⟨_, rfl, fun j p hp => by
    obtain ⟨c1, e1, e2, e3⟩ := kr_of l off hR j p hp
    exact ⟨c1, e1, e2, fun i u hu => by rw [add_flat, ← Nat.add_assoc]; exact e3 i u hu⟩⟩
theorem plain_of {w : World} {ad : Addr} {u : Value} (h : w.cell? ad = some u) : ad = ⟨ad.block, ad.off, none⟩ ∧ ad.block < w.heap.size := by
  refine ⟨?_, World.block_lt_of_cell? w ad h⟩
  cases ad with
  | mk b o s =>
    cases s with
    | none => rfl
    | some x =>
      unfold World.cell? at h
      split at h
      · simp at h
      · cases h
mutual
theorem tm_of {ok : Nat → Prop} {w : World} : ∀ (x : TS) (cs : List Value), Kd.FK kT w ok x cs → RepD (fun b => ¬ ok b) w (ofS x).d cs
  | ⟨h, l⟩, cs, hf => by
    obtain ⟨A1, c1, rfl, l1, g1⟩ := PA.k25_openF hf
    refine repTm.2 ⟨_, rfl, ?_⟩
    show RepD _ w (.row 2 (Tm.ds (ofSL l))) _
    simp only [RepD]
    refine ⟨A1, l.length, c1, rfl, by rw [Tm.ds_eq, List.length_map, ofSL_length], l1, Kd.F_max g1, fun h0 => ?_⟩
    obtain ⟨ad, c0, rfl, e1, _, e2, e3⟩ := Kd.F_get g1 PA.z25 0 (by omega) (by show (0 : Int) < (l.length : Int); omega)
    have hc0 : c0.length = 2 := e1
    have hcell := e2 0 (c0[0]'(by omega)) (List.getElem?_eq_getElem (by omega))
    obtain ⟨hp, hlt⟩ := plain_of (show w.cell? ad = some (c0[0]'(by omega)) from hcell)
    refine ⟨ad.block, ad.off, by rw [← hp], hlt, fun hn => hn (e3 (by show 0 < 2; omega)), tr_of l ad.off fun j p hj => ?_⟩
    have hjl := (List.getElem?_eq_some_iff.1 hj).1
    obtain ⟨ad', cs, he, g2, g3, g4, _⟩ := Kd.F_get g1 PA.z25 j (by omega) (by show (j : Int) < (l.length : Int); omega)
    simp only [Option.some.injEq] at he
    subst he
    have hx : l.getD (j : Int).toNat PA.z25 = p := by simp [List.getD_eq_getElem?_getD, hj]
    have g3' : Kd.FK kT w ok (l.getD (j : Int).toNat PA.z25) cs := g3
    rw [hx] at g3'
    refine ⟨cs, g2, g3', fun i u hu => ?_⟩
    have := g4 i u hu
    rw [hp, add_flat] at this
    rw [show ad.off + j * 2 + i = ad.off + ((j : Int).toNat * 2 + i) by simp; omega]
    exact this
theorem tr_of {ok : Nat → Prop} {w : World} {b : Nat} : ∀ (l : List TS) (off : Nat), (∀ j p, l[j]? = some p → ∃ cs : List Value, cs.length = 2 ∧ Kd.FK kT w ok p cs ∧ ∀ i u, cs[i]? = some u → w.cell? ⟨b, off + j * 2 + i, none⟩ = some u) → RepR (fun b => ¬ ok b) w b 2 off (Tm.ds (ofSL l))
  | [], _, _ => by simp only [ofSL, Tm.ds, RepR]
  | x :: xs, off, h => by
    simp only [ofSL, Tm.ds, RepR]
    obtain ⟨cs, e1, e2, e3⟩ := h 0 x rfl
    refine ⟨⟨cs, e1, fun i hi => ?_, tm_of x cs e2⟩, tr_of xs (off + 2) fun j p hj => ?_⟩
    · have := e3 i (cs[i]'(by omega)) (List.getElem?_eq_getElem (by omega))
      rw [show off + 0 * 2 + i = off + i by omega] at this
      rw [this, List.getElem?_eq_getElem (by omega)]
    · obtain ⟨c1, g1, g2, g3⟩ := h (j + 1) p (by simpa using hj)
      exact ⟨c1, g1, g2, fun i u hu => by rw [show off + 2 + j * 2 + i = off + (j + 1) * 2 + i by omega]; exact g3 i u hu⟩
end
theorem terms_of {ok : Nat → Prop} {w : World} {a : Option Addr} {c : Nat} {l : List TS} (hc : l.length ≤ c) (hf : Kd.F kT w ok a l.length l) : Terms (fun b => ¬ ok b) w (.slice a l.length c) (ofSL l) := by
  have h : Kd.FK kT w ok (⟨0, l⟩ : TS) [.int .i64 0, .slice a l.length c] := PA.k25_mkF w ok ⟨0, l⟩ hc hf
  have h2 := tm_of _ _ h
  obtain ⟨s, e, h3⟩ := repTm.1 h2
  simp only [List.cons.injEq, and_true] at e
  rw [e.2]; exact h3
theorem terms_of_c {w : World} {a : Option Addr} {c : Nat} {l : List TS} (hc : l.length ≤ c) (h : kT.C w a l.length l) : Terms (fun _ => False) w (.slice a l.length c) (ofSL l) :=
  RepD.frame (A := fun b => ¬ (b < w.heap.size)) (B := fun _ => False) (fun _ _ _ => rfl) (fun _ _ h => h.elim) _ _ (terms_of hc (Kd.C_F PA.k25_heap h))
theorem terms_of_v {ok : Nat → Prop} {w : World} {base e : Nat} {a : Option Addr} {n c : Nat} {l : List TS} (h : Kd.V kT e w base ok (.slice a n c) l) : Terms (fun b => ¬ ok b) w (.slice a n c) (ofSL l) := by
  obtain ⟨a', c', e', hc, hf⟩ := h
  simp only [Value.slice.injEq] at e'
  obtain ⟨rfl, rfl, rfl⟩ := e'
  exact terms_of hc hf
def toB (b : Bd) : BS := ⟨b.v, toS b.t⟩
def ofB (x : BS) : Bd := ⟨x.f0, ofS x.f1⟩
def toBL (l : List Bd) : List BS := l.map toB
def ofBL (l : List BS) : List Bd := l.map ofB
theorem ofB_toB (b : Bd) : ofB (toB b) = b := by cases b; simp [toB, ofB, ofS_toS]
theorem ofBL_toBL (l : List Bd) : ofBL (toBL l) = l := by simp [ofBL, toBL, ofB_toB, Function.comp_def]
theorem toBL_length (l : List Bd) : (toBL l).length = l.length := by simp [toBL]
theorem ofBL_length (l : List BS) : (ofBL l).length = l.length := by simp [ofBL]
theorem kb_of {A : Nat → Prop} {w : World} (b : Bd) (cs : List Value) (h : RepD A w b.d cs) : kB.K w (toB b) cs := by
  obtain ⟨s, rfl, hs⟩ := repBd.1 h
  obtain ⟨a, c, rfl, hc, hm⟩ := hs.shape
  have h1 := c_of hs
  have h2 := PA.k60_mk w (toB b) (A2 := a) (c2 := c) (by show (toS b.t).f1.length ≤ c; rw [toS_f1, toSL_length]; exact hc) (by show kT.C w a (toS b.t).f1.length (toS b.t).f1; rw [toS_f1]; exact h1.2.2)
  have e1 : (toB b).f1.f0 = b.t.h := toS_f0 b.t
  have e2 : (toB b).f1.f1.length = b.t.args.length := by show (toS b.t).f1.length = _; rw [toS_f1, toSL_length]
  have e3 : (toB b).f0 = b.v := rfl
  rw [e1, e2, e3] at h2
  exact h2
theorem cb_of {A : Nat → Prop} {w : World} {a : Option Addr} {n c : Nat} {l : List Bd} (hs : Binds A w (.slice a n c) l) : n = (toBL l).length ∧ (toBL l).length ≤ c ∧ kB.C w a (toBL l).length (toBL l) := by
  have hs' : RepD A w (.row 3 (l.map Bd.d)) [.slice a n c] := hs
  simp only [RepD] at hs'
  obtain ⟨a', n', c', h1, h2, h3, h4, h5⟩ := hs'
  simp only [List.cons.injEq, and_true, Value.slice.injEq] at h1
  obtain ⟨rfl, rfl, rfl⟩ := h1
  have hn : n = (toBL l).length := by rw [h2, toBL_length]; simp
  subst hn
  refine ⟨rfl, h3, rfl, h4, fun h0 => ?_⟩
  obtain ⟨b, off, rfl, hb, hA, hR⟩ := h5 h0
  refine ⟨_, rfl, fun j p hp => ?_⟩
  simp only [toBL, List.getElem?_map, Option.map_eq_some_iff] at hp
  obtain ⟨x, hx, rfl⟩ := hp
  have hj : j < (l.map Bd.d).length := by have := (List.getElem?_eq_some_iff.1 hx).1; simpa using this
  obtain ⟨cs, g1, g2, g3⟩ := hR.at j hj
  have hx' : (l.map Bd.d)[j] = x.d := by simp [List.getElem_map, (List.getElem?_eq_some_iff.1 hx).2]
  rw [hx'] at g3
  refine ⟨cs, g1, kb_of x cs g3, fun i u hu => ?_⟩
  have hi : i < 3 := by have := (List.getElem?_eq_some_iff.1 hu).1; omega
  rw [add_flat]
  show w.cell? ⟨b, off + (j * 3 + i), none⟩ = some u
  rw [← Nat.add_assoc, g2 i hi, hu]
theorem fb_of {A ok : Nat → Prop} {w : World} {a : Option Addr} {n c : Nat} {l : List Bd} (hs : Binds A w (.slice a n c) l) (hA : ∀ b, b < w.heap.size → ¬ A b → ok b) : Kd.F kB w ok a (toBL l).length (toBL l) := fun W' hW =>
  (cb_of (RepD.frame (B := A) (fun b hb hlt => hW b (hA b hlt hb) hlt) (fun _ _ h => h) _ _ hs : Binds A W' (.slice a n c) l)).2.2
theorem vb_of {A ok : Nat → Prop} {w : World} {base e : Nat} {v : Value} {l : List Bd} (hs : Binds A w v l) (hA : ∀ b, b < w.heap.size → ¬ A b → ok b) : Kd.V kB e w base ok v (toBL l) := by
  obtain ⟨a, c, rfl, hc, hm⟩ := hs.shape
  refine ⟨a, c, ?_, by rw [toBL_length]; exact hc, fb_of hs hA⟩
  rw [toBL_length]
theorem bd_of {ok : Nat → Prop} {w : World} (x : BS) (cs : List Value) (hf : Kd.FK kB w ok x cs) : RepD (fun b => ¬ ok b) w (ofB x).d cs := by
  obtain ⟨A2, c2, rfl, l2, g2⟩ := PA.k60_openF hf
  refine repBd.2 ⟨.slice A2 x.f1.f1.length c2, ?_, ?_⟩
  · simp only [ofB, ofS_h]
  · show Terms _ w _ (ofS x.f1).args
    rw [ofS_args]; exact terms_of l2 g2
theorem bs_of {ok : Nat → Prop} {w : World} {b : Nat} : ∀ (l : List BS) (off : Nat), (∀ j p, l[j]? = some p → ∃ cs : List Value, cs.length = 3 ∧ Kd.FK kB w ok p cs ∧ ∀ i u, cs[i]? = some u → w.cell? ⟨b, off + j * 3 + i, none⟩ = some u) → RepR (fun b => ¬ ok b) w b 3 off ((ofBL l).map Bd.d)
  | [], _, _ => by simp only [ofBL, List.map_nil, RepR]
  | x :: xs, off, h => by
    simp only [ofBL, List.map_cons, RepR]
    obtain ⟨cs, e1, e2, e3⟩ := h 0 x rfl
    refine ⟨⟨cs, e1, fun i hi => ?_, bd_of x cs e2⟩, bs_of xs (off + 3) fun j p hj => ?_⟩
    · have := e3 i (cs[i]'(by omega)) (List.getElem?_eq_getElem (by omega))
      rw [show off + 0 * 3 + i = off + i by omega] at this
      rw [this, List.getElem?_eq_getElem (by omega)]
    · obtain ⟨c1, g1, g2, g3⟩ := h (j + 1) p (by simpa using hj)
      exact ⟨c1, g1, g2, fun i u hu => by rw [show off + 3 + j * 3 + i = off + (j + 1) * 3 + i by omega]; exact g3 i u hu⟩
theorem binds_of {ok : Nat → Prop} {w : World} {a : Option Addr} {c : Nat} {l : List BS} (hc : l.length ≤ c) (g1 : Kd.F kB w ok a l.length l) : Binds (fun b => ¬ ok b) w (.slice a l.length c) (ofBL l) := by
  show RepD _ w (.row 3 ((ofBL l).map Bd.d)) _
  simp only [RepD]
  refine ⟨a, l.length, c, rfl, by rw [List.length_map, ofBL_length], hc, Kd.F_max g1, fun h0 => ?_⟩
  obtain ⟨ad, c0, rfl, e1, _, e2, e3⟩ := Kd.F_get g1 PA.z60 0 (by omega) (by show (0 : Int) < (l.length : Int); omega)
  have hc0 : c0.length = 3 := e1
  have hcell := e2 0 (c0[0]'(by omega)) (List.getElem?_eq_getElem (by omega))
  obtain ⟨hp, hlt⟩ := plain_of (show w.cell? ad = some (c0[0]'(by omega)) from hcell)
  refine ⟨ad.block, ad.off, by rw [← hp], hlt, fun hn => hn (e3 (by show 0 < 3; omega)), bs_of l ad.off fun j p hj => ?_⟩
  have hjl := (List.getElem?_eq_some_iff.1 hj).1
  obtain ⟨ad', cs, he, g2, g3, g4, _⟩ := Kd.F_get g1 PA.z60 j (by omega) (by show (j : Int) < (l.length : Int); omega)
  simp only [Option.some.injEq] at he
  subst he
  have hx : l.getD (j : Int).toNat PA.z60 = p := by simp [List.getD_eq_getElem?_getD, hj]
  have g3' : Kd.FK kB w ok (l.getD (j : Int).toNat PA.z60) cs := g3
  rw [hx] at g3'
  refine ⟨cs, g2, g3', fun i u hu => ?_⟩
  have := g4 i u hu
  rw [hp, add_flat] at this
  have e4 : ad.off + j * 3 + i = ad.off + ((j : Int).toNat * 3 + i) := by simp; omega
  rw [e4]
  exact this
theorem binds_of_c {w : World} {a : Option Addr} {c : Nat} {l : List BS} (hc : l.length ≤ c) (h : kB.C w a l.length l) : Binds (fun _ => False) w (.slice a l.length c) (ofBL l) :=
  RepD.frame (A := fun b => ¬ (b < w.heap.size)) (B := fun _ => False) (fun _ _ _ => rfl) (fun _ _ h => h.elim) _ _ (binds_of hc (Kd.C_F PA.k60_heap h))
theorem is_of {w : World} {b : Nat} : ∀ (l : List Int) (off : Nat) (A : Nat → Prop), (∀ j p, l[j]? = some p → w.cell? ⟨b, off + j, none⟩ = some (.int .i64 p)) → RepR A w b 1 off (l.map intD)
  | [], _, _, _ => by simp only [List.map_nil, RepR]
  | x :: xs, off, A, h => by
    simp only [List.map_cons, RepR]
    refine ⟨⟨[.int .i64 x], rfl, fun i hi => ?_, by simp only [intD, RepD]⟩, is_of xs (off + 1) A fun j p hj => ?_⟩
    · have : i = 0 := by omega
      subst this
      have := h 0 x rfl
      simpa using this
    · have := h (j + 1) p (by simpa using hj)
      rw [show off + 1 + j = off + (j + 1) by omega]; exact this
theorem ints_of {ok : Nat → Prop} {w : World} {a : Option Addr} {c : Nat} {l : List Int} (hc : l.length ≤ c) (g1 : Kd.F (Kd.int .i64) w ok a l.length l) : Ints (fun b => ¬ ok b) w (.slice a l.length c) l := by
  show RepD _ w (.row 1 (l.map intD)) _
  simp only [RepD]
  refine ⟨a, l.length, c, rfl, by rw [List.length_map], hc, Kd.F_max g1, fun h0 => ?_⟩
  obtain ⟨ad, c0, rfl, e1, _, e2, e3⟩ := Kd.F_get g1 0 0 (by omega) (by show (0 : Int) < (l.length : Int); omega)
  have hc0 : c0.length = 1 := e1
  have hcell := e2 0 (c0[0]'(by omega)) (List.getElem?_eq_getElem (by omega))
  obtain ⟨hp, hlt⟩ := plain_of (show w.cell? ad = some (c0[0]'(by omega)) from hcell)
  refine ⟨ad.block, ad.off, by rw [← hp], hlt, fun hn => hn (e3 (by show 0 < 1; omega)), is_of l ad.off _ fun j p hj => ?_⟩
  have hjl := (List.getElem?_eq_some_iff.1 hj).1
  obtain ⟨ad', cs, he, g2, g3, g4, _⟩ := Kd.F_get g1 0 j (by omega) (by show (j : Int) < (l.length : Int); omega)
  simp only [Option.some.injEq] at he
  subst he
  have hx : l.getD (j : Int).toNat 0 = p := by simp [List.getD_eq_getElem?_getD, hj]
  have g3' : cs = [.int .i64 (l.getD (j : Int).toNat 0)] := Kd.FK_now g3
  rw [hx] at g3'
  have := g4 0 (.int .i64 p) (by rw [g3']; rfl)
  rw [hp, add_flat] at this
  have e4 : ad.off + j = ad.off + ((j : Int).toNat * 1 + 0) := by simp
  rw [e4]
  exact this
theorem ints_of_c {w : World} {a : Option Addr} {c : Nat} {l : List Int} (hc : l.length ≤ c) (h : (Kd.int .i64).C w a l.length l) : Ints (fun _ => False) w (.slice a l.length c) l :=
  RepD.frame (A := fun b => ¬ (b < w.heap.size)) (B := fun _ => False) (fun _ _ _ => rfl) (fun _ _ h => h.elim) _ _ (ints_of hc (Kd.C_F (Kd.heap_int .i64) h))
end Go.Proofs.Ythplndalbfcbbaa
set_option linter.unusedSimpArgs false
set_option linter.unusedVariables false
namespace Go.Proofs.Ythplndalbfcbbaa
open Go.RowKit Go.Proofs.YthplndalbfcbbaaW.PrintWords
theorem isTm_of_c {w : World} {h : Int} {a : Option Addr} {c : Nat} {l : List TS} (hc : l.length ≤ c) (hr : kT.C w a l.length l) : IsTm (fun _ => False) w h (.slice a l.length c) (ofS ⟨h, l⟩) := by
  refine ⟨rfl, ?_⟩
  exact terms_of_c hc hr
theorem isTm_of_v {ok : Nat → Prop} {w : World} {base e : Nat} {h : Int} {a : Option Addr} {n c : Nat} {l : List TS} (hr : Kd.V kT e w base ok (.slice a n c) l) : IsTm (fun b => ¬ ok b) w h (.slice a n c) (ofS ⟨h, l⟩) := by
  refine ⟨rfl, ?_⟩
  exact terms_of_v hr
namespace PA
end PA
end Go.Proofs.Ythplndalbfcbbaa
set_option linter.unusedSimpArgs false
set_option linter.unusedVariables false
namespace Go.Proofs.Ythplndalbfcbbaa
open Go.RowKit Go.Proofs.YthplndalbfcbbaaW.PrintWords
theorem barOld {w : World} (P : Nat → Prop) : ∀ b, (b < w.heap.size ∧ ¬ P b) → b < w.heap.size := fun _ h => h.1
theorem IsTm.bar2 {A B : Nat → Prop} {w : World} {x : Int} {s : Value} {t : Tm} (h : IsTm A w x s t) (hB : ∀ b, B b → A b) : IsTm B w x s t := ⟨h.1, RepD.bar h.2 fun b _ hb => hB b hb⟩
namespace PA
end PA
end Go.Proofs.Ythplndalbfcbbaa
set_option linter.unusedSimpArgs false
set_option linter.unusedVariables false
namespace Go.Proofs.Ythplndalbfcbbaa
open Go.RowKit Go.Proofs.YthplndalbfcbbaaW.PrintWords
theorem share_ok {w : World} {P : Nat → Prop} : ∀ b, ¬ (b < w.heap.size ∧ ¬ P b) → (P b ∨ w.heap.size ≤ b) := fun b hb => by
  by_cases hp : P b
  · exact .inl hp
  · exact .inr (Nat.not_lt.1 fun hlt => hb ⟨hlt, hp⟩)
namespace PA
def match_Match.f (a0 : Int) (l0 : List TS) (a1 : Int) (l1 : List TS) : Option ((List BS) × Bool × Int) :=
  if (ofS ⟨a0, l0⟩).size ≤ 1000000000 ∧ (ofS ⟨a1, l1⟩).size ≤ 1000000000 then some (toBL (matchT [ofS ⟨a0, l0⟩] [ofS ⟨a1, l1⟩]).1, (matchT [ofS ⟨a0, l0⟩] [ofS ⟨a1, l1⟩]).2.1, (matchT [ofS ⟨a0, l0⟩] [ofS ⟨a1, l1⟩]).2.2) else none
theorem match_Match.calls (a0_0 : Int) (P0_1_ : Nat → Prop) (A0_1 : Option Addr) (c0_1 : Nat) (l0_1 : List TS) (a1_0 : Int) (P1_1_ : Nat → Prop) (A1_1 : Option Addr) (c1_1 : Nat) (l1_1 : List TS) (r1 : List BS) (r2 : Bool) (r3 : Int) (w : World)
    (hs0_1 : Kd.V kT 25 w w.heap.size (fun k_ => P0_1_ k_) (.slice A0_1 l0_1.length c0_1) l0_1) (hs1_1 : Kd.V kT 25 w w.heap.size (fun k_ => P1_1_ k_) (.slice A1_1 l1_1.length c1_1) l1_1) (h : match_Match.f a0_0 l0_1 a1_0 l1_1 = some (r1, r2, r3)) :
    Calls Try.prog 46 #[.agg #[.int .i64 a0_0, .slice A0_1 l0_1.length c0_1], .agg #[.int .i64 a1_0, .slice A1_1 l1_1.length c1_1]] w fun e w' => ∃ v0_ : Value, e = .returned (.tuple #[v0_, .bool r2, .int .i64 r3]) ∧ Kd.V kB 60 w' w.heap.size (fun k_ => ((P0_1_ k_ ∨ P1_1_ k_) ∨ w.heap.size ≤ k_)) v0_ r1 ∧ Below w.heap.size w w' := by
  unfold match_Match.f at h
  split at h
  · rename_i hs
    simp only [Option.some.injEq, Prod.mk.injEq] at h
    obtain ⟨rfl, rfl, rfl⟩ := h
    refine (match_calls (fun b => b < w.heap.size ∧ ¬ (P0_1_ b ∨ P1_1_ b)) _ _ _ _ _ _ w hs.1 hs.2 (barOld _) ((isTm_of_v hs0_1).bar2 fun b h hp => h.2 (.inl hp)) ((isTm_of_v hs1_1).bar2 fun b h hp => h.2 (.inr hp))).mono ?_
    rintro e w' ⟨v, rfl, h1, h2⟩
    exact ⟨v, rfl, vb_of h1 (fun b _ hb => share_ok (w := w) (P := fun b => P0_1_ b ∨ P1_1_ b) b hb), h2⟩
  · cases h
end PA
end Go.Proofs.Ythplndalbfcbbaa
set_option linter.unusedSimpArgs false
set_option linter.unusedVariables false
namespace Go.Proofs.Ythplndalbfcbbaa
open Go.RowKit Go.Proofs.YthplndalbfcbbaaW.PrintWords
def eqB (b c : Bd) : Bool := b.v == c.v && sameB b.t c.t
def eqBL : List Bd → List Bd → Bool
  | [], [] => true
  | b :: bs, c :: cs => eqB b c && eqBL bs cs
  | _, _ => false
theorem eqBL_iff : ∀ {a b : List Bd}, eqBL a b = true ↔ a = b
  | [], [] => by simp [eqBL]
  | [], _ :: _ => by simp [eqBL]
  | _ :: _, [] => by simp [eqBL]
  | b :: bs, c :: cs => by
    cases b; cases c
    simp [eqBL, eqB, Bool.and_eq_true, eqBL_iff (a := bs), sameB_iff]
namespace PA
def elenchusref01_Few.f (a0 : Int) (l0 : List TS) : Option Bool := some (fewB (ofS ⟨a0, l0⟩))
theorem elenchusref01_Few.calls (a0 : Int) (A0 : Option Addr) (c0 : Nat) (l0 : List TS) (r : Bool) (w : World) (hr0 : Kd.C kT w A0 l0.length l0) (hc0 : l0.length ≤ c0) (h : elenchusref01_Few.f a0 l0 = some r) :
    Calls Try.prog 26 #[.agg #[.int .i64 a0, .slice A0 l0.length c0]] w fun e w' => e = .returned (.bool r) ∧ Below w.heap.size w w' := by
  cases h
  exact few1_calls _ _ _ _ w (isTm_of_c hc0 hr0)
def elenchusref03_Same.f (l0 : List BS) (l1 : List BS) : Option Bool := if eqBL (ofBL l0) (ofBL l1) = true ∧ (ofBL l0).all (fun b => decide (b.t.size ≤ 1000000000)) = true then some true else none
theorem elenchusref03_Same.calls (A0 : Option Addr) (c0 : Nat) (l0 : List BS) (A1 : Option Addr) (c1 : Nat) (l1 : List BS) (r : Bool) (w : World) (hr0 : Kd.C kB w A0 l0.length l0) (hc0 : l0.length ≤ c0) (hr1 : Kd.C kB w A1 l1.length l1) (hc1 : l1.length ≤ c1) (h : elenchusref03_Same.f l0 l1 = some r) :
    Calls Try.prog 45 #[.slice A0 l0.length c0, .slice A1 l1.length c1] w fun e w' => e = .returned (.bool r) ∧ Below w.heap.size w w' := by
  unfold elenchusref03_Same.f at h
  split at h
  · rename_i hs
    cases h
    have h1 := binds_of_c hc1 hr1
    rw [← eqBL_iff.1 hs.1] at h1
    exact same3_calls _ _ _ _ _ w (fun b hb => by have := List.all_eq_true.1 hs.2 b hb; simpa using this) (binds_of_c hc0 hr0) h1
  · cases h
def elenchusref01_In.f (a0 : Int) (l0 : List Int) : Option Bool := some (hasB a0 l0)
theorem elenchusref01_In.calls (a0 : Int) (A1 : Option Addr) (c1 : Nat) (l1 : List Int) (r : Bool) (w : World) (hr1 : Kd.C (Kd.int .i64) w A1 l1.length l1) (hc1 : l1.length ≤ c1) (h : elenchusref01_In.f a0 l1 = some r) :
    Calls Try.prog 40 #[.int .i64 a0, .slice A1 l1.length c1] w fun e w' => e = .returned (.bool r) ∧ Below w.heap.size w w' := by
  cases h
  exact in_calls _ _ _ _ w (ints_of_c hc1 hr1)
end PA
end Go.Proofs.Ythplndalbfcbbaa
set_option linter.unusedSimpArgs false
set_option linter.unusedVariables false
namespace Go.Proofs.Ythplndalbfcbbaa
open Go.RowKit Go.Proofs.YthplndalbfcbbaaW.PrintWords
namespace PA
def unify_Mgu.f (a0 : Int) (l0 : List TS) (a1 : Int) (l1 : List TS) : Option ((List BS) × Bool × Int) :=
  if (ofS ⟨a0, l0⟩).size ≤ 1000000000 ∧ (ofS ⟨a1, l1⟩).size ≤ 1000000000 then some (toBL (unifyT [ofS ⟨a0, l0⟩] [ofS ⟨a1, l1⟩]).1, (unifyT [ofS ⟨a0, l0⟩] [ofS ⟨a1, l1⟩]).2.1, (unifyT [ofS ⟨a0, l0⟩] [ofS ⟨a1, l1⟩]).2.2) else none
theorem unify_Mgu.calls (a0_0 : Int) (P0_1_ : Nat → Prop) (A0_1 : Option Addr) (c0_1 : Nat) (l0_1 : List TS) (a1_0 : Int) (P1_1_ : Nat → Prop) (A1_1 : Option Addr) (c1_1 : Nat) (l1_1 : List TS) (r1 : List BS) (r2 : Bool) (r3 : Int) (w : World)
    (hs0_1 : Kd.V kT 25 w w.heap.size (fun k_ => P0_1_ k_) (.slice A0_1 l0_1.length c0_1) l0_1) (hs1_1 : Kd.V kT 25 w w.heap.size (fun k_ => P1_1_ k_) (.slice A1_1 l1_1.length c1_1) l1_1) (h : unify_Mgu.f a0_0 l0_1 a1_0 l1_1 = some (r1, r2, r3)) :
    Calls Try.prog 55 #[.agg #[.int .i64 a0_0, .slice A0_1 l0_1.length c0_1], .agg #[.int .i64 a1_0, .slice A1_1 l1_1.length c1_1]] w fun e w' => ∃ v0_ : Value, e = .returned (.tuple #[v0_, .bool r2, .int .i64 r3]) ∧ Kd.V kB 60 w' w.heap.size (fun k_ => ((P0_1_ k_ ∨ P1_1_ k_) ∨ w.heap.size ≤ k_)) v0_ r1 ∧ Below w.heap.size w w' := by
  unfold unify_Mgu.f at h
  split at h
  · rename_i hs
    simp only [Option.some.injEq, Prod.mk.injEq] at h
    obtain ⟨rfl, rfl, rfl⟩ := h
    refine (umgu_calls (fun b => b < w.heap.size ∧ ¬ (P0_1_ b ∨ P1_1_ b)) _ _ _ _ _ _ w hs.1 hs.2 (barOld _) ((isTm_of_v hs0_1).bar2 fun b h hp => h.2 (.inl hp)) ((isTm_of_v hs1_1).bar2 fun b h hp => h.2 (.inr hp))).mono ?_
    rintro e w' ⟨v, rfl, h1, h2⟩
    exact ⟨v, rfl, vb_of h1 (fun b _ hb => share_ok (w := w) (P := fun b => P0_1_ b ∨ P1_1_ b) b hb), h2⟩
  · cases h
end PA
end Go.Proofs.Ythplndalbfcbbaa
namespace Go.Proofs.Ythplndalbfcbbaa.PA
open Go.RowKit Go.Proofs.YthplndalbfcbbaaW.PrintWords Go.Proofs.YthplndalbfcbbaaW.PrintLast Go.Proofs.YthplndalbfcbbaaW.PrintMore
attribute [local go_sem] max2_int min2_int max_two min_two max_three min_three max_four min_four   -- for this text's walks alone
set_option linter.unusedVariables false
set_option linter.unusedSimpArgs false
mutual
def elenchusref01_Vars.j0 : Nat → List Int → Int → List (S25) → Option (List Int)
  | 0, _, _, _ => none
  | k + 1, x3, x173000, x173001 => elenchusref01_Vars.l0 k x3 0 x173000 x173001
def elenchusref01_Vars.l0 : Nat → List Int → Int → Int → List (S25) → Option (List Int)
  | 0, _, _, _, _ => none
  | k + 1, x3, x4, x173000, x173001 => if x4 < (x173001.length : Int) then (if 0 ≤ x4 then ((elenchusref01_Vars.f k ((rd_T25 x173001 x4).f0) ((rd_T25 x173001 x4).f1)).bind fun t177 => (elenchusref01_Vars.l1 k x3 x4 t177 0 x173000 x173001)) else (none)) else (some x3)
def elenchusref01_Vars.l1 : Nat → List Int → Int → List Int → Int → Int → List (S25) → Option (List Int)
  | 0, _, _, _, _, _, _ => none
  | k + 1, x3, x4, x5, x6, x173000, x173001 => if x6 < (x5.length : Int) then (if 0 ≤ x6 then ((elenchusref01_In.f (rd x5 x6) x3).bind fun t181 => (if t181 = true then (elenchusref01_Vars.l1 k x3 x4 x5 (wrap64 (x6 + 1)) x173000 x173001) else (if x3.length < 17592186044416 then (elenchusref01_Vars.l1 k (x3 ++ [rd x5 x6]) x4 x5 (wrap64 (x6 + 1)) x173000 x173001) else (none)))) else (none)) else (elenchusref01_Vars.l0 k x3 (wrap64 (x4 + 1)) x173000 x173001)
def elenchusref01_Vars.f : Nat → Int → List (S25) → Option (List Int)
  | 0, _, _ => none
  | k + 1, a0_0, l0_1 => if a0_0 < 0 then (if ([] : List Int).length < 17592186044416 then (elenchusref01_Vars.j0 k (([] : List Int) ++ [wrap64 ((-1) - a0_0)]) a0_0 l0_1) else (none)) else (elenchusref01_Vars.j0 k ([] : List Int) a0_0 l0_1)
end
set_option maxHeartbeats 8000000 in
set_option maxRecDepth 100000 in
theorem elenchusref01_Vars.calls (k : Nat) : ∀ (a0_0 : Int) (A0_1 : Option Addr) (c0_1 : Nat) (l0_1 : List (S25)) (r : List Int) (w : World) (hr0_1 : Kd.C k25 w A0_1 l0_1.length l0_1) (hc0_1 : l0_1.length ≤ c0_1) (h : elenchusref01_Vars.f k a0_0 l0_1 = some r),
    Calls Try.prog 76 #[.agg #[.int .i64 a0_0, .slice A0_1 l0_1.length c0_1]] w fun e w' => ∃ v0_ : Value, e = .returned (v0_) ∧ Kd.R (Kd.int .i64) 3 w' w.heap.size (fun _ => True) v0_ r ∧ Below w.heap.size w w' := by
  induction k using Nat.strongRecOn with
  | _ k ih =>
  intro a0_0 A0_1 c0_1 l0_1 r w hr0_1 hc0_1 h
  cases k with
  | zero => exact absurd h (by simp [elenchusref01_Vars.f])
  | succ k =>
  simp only [elenchusref01_Vars.f] at h
  have hu25 := Try.underlying25
  have HR0_1 := Aside0.mk hr0_1
  have HC0_1 := Aside0.mk hc0_1
  clear hr0_1 hc0_1
  have HB := Aside0.mk (Below.refl w.heap.size w)
  have H : (if a0_0 < 0 then (if ([] : List Int).length < 17592186044416 then (elenchusref01_Vars.j0 k (([] : List Int) ++ [wrap64 ((-1) - a0_0)]) a0_0 l0_1) else (none)) else (elenchusref01_Vars.j0 k ([] : List Int) a0_0 l0_1)) = some r := h
  clear h
  have HC2 := Aside0.mk H
  clear H
  go_enter Try.func76, Try.ntmps76
  go_upto_if 9 with (first | ((with_reducible refine gate_dst (N := 1) rfl ?_); refine box_event ?hg (N := 1) ?hd (cs := #[.int .i64 a0_0, .slice A0_1 l0_1.length c0_1]) (t := 25) ?hr ?_; (case hd => rfl); (case hg => rfl); (case hr => first | (go_simp; done) | (go_simp; rfl)); intro gb172 hg w3 hbox hb; have n0_ := Aside0.mk (below_step (by repeat (first | (with_reducible first | exact HB.out | apply below_alloc | apply pw_below_drewN | apply below_drew1) | exact HB.out)) hb); have n1_ := Aside0.mk (hbox); have n2_ := Aside0.mk ((by rw [hg]; exact (below_size (by repeat (first | (with_reducible first | exact HB.out | apply below_alloc | apply pw_below_drewN | apply below_drew1) | exact HB.out))) : w.heap.size ≤ gb172)); have n3_ := Aside0.mk ((by rw [hg]; exact (below_size (by repeat (first | (with_reducible first | exact HB.out | apply below_alloc | apply pw_below_drewN | apply below_drew1) | exact HB.out))) : w.heap.size ≤ gb172)); clear HB; have HB := n0_; have BK172 := n1_; have GW172 := n2_; have GE172 := n3_; clear n0_ n1_ n2_ n3_; clear hb hbox hg; have hcz4_0 : w3.cell? ⟨gb172, 0, none⟩ = some (.int .i64 a0_0) := (blk_cell BK172.out 0).trans rfl; have hcz4_1 : w3.cell? ⟨gb172, 1, none⟩ = some (.slice A0_1 l0_1.length c0_1) := (blk_cell BK172.out 1).trans rfl; have hfz4_0 := blk_frozen BK172.out 0; have hfz4_1 := blk_frozen BK172.out 1))
  (try simp only [Act.put, List.setIfInBounds_toArray, List.set_cons_zero, List.set_cons_succ])
  go_cut [3] (fun v3 wc => ∃ (kq : Nat) (x3_1 : List Int), Aside0 (elenchusref01_Vars.j0 kq x3_1 a0_0 l0_1 = some r) ∧ Aside0 (kq ≤ k) ∧ Aside0 (Kd.R (Kd.int .i64) 3 wc w.heap.size (fun _ => True) v3 x3_1) ∧ Aside0 (wc.heap[gb172]? = some (.cells #[.int .i64 a0_0, (.slice A0_1 l0_1.length c0_1)] 25 (0, 0))) ∧ Aside0 (Below w.heap.size w wc))
  case first =>
    have H := HC2.out
    clear HC2
    by_cases c5 : a0_0 < 0
    · rw [if_pos c5] at H
      have c5b0 : decide (a0_0 < 0) = true := decide_eq_true c5
      clear c5
      (first | rw [c5b0] | (simp only [i64_w, i32_w]; rw [c5b0]) | skip)
      by_cases c6 : ([] : List Int).length < 17592186044416
      · rw [if_pos c6] at H
        have LMc6 := Aside0.mk c6
        clear c6
        obtain ⟨y173, hy173⟩ : ∃ y_ : List Int, y_ = (([] : List Int) ++ [wrap64 ((-1) - a0_0)]) := ⟨_, rfl⟩
        replace H : (elenchusref01_Vars.j0 k y173 a0_0 l0_1) = some r := by first | (rw [hy173]; with_reducible exact H) | (have H2_ := (Option.bind_some _ _).symm.trans H; rw [hy173]; with_reducible exact H2_) | (have H2_ := (Option.bind_some _ _).symm.trans H; with_reducible exact H2_) | with_reducible exact H | (rw [hy173]; exact H) | exact H
        have Ny173 := Aside0.mk hy173
        clear hy173
        have H' := Aside0.mk H
        clear H
        have hcz7_0 : w3.cell? ⟨gb172, 0, none⟩ = some (.int .i64 a0_0) := (blk_cell BK172.out 0).trans rfl
        have hcz7_1 : w3.cell? ⟨gb172, 1, none⟩ = some (.slice A0_1 l0_1.length c0_1) := (blk_cell BK172.out 1).trans rfl
        have hfz7_0 := blk_frozen BK172.out 0
        have hfz7_1 := blk_frozen BK172.out 1
        go_wp2_with (first | ((with_reducible refine gate_builtin (b := .append) (xs := #[.tmp 10, .tmp 14]) rfl ?_); at_builtin; refine Kd.R_append (Kd.int .i64) (w0 := w) w.heap.size rfl (.tmp 10) (.tmp 14) 37 3 (.int .i64 0) 8 rfl Try.underlying37 info3 rfl (by decide) (by omega) (.slice none 0 0) ([] : List Int) (wrap64 ((-1) - a0_0)) [.int .i64 (wrap64 ((-1) - a0_0))] (fun _ => True) (fun _ => False) rfl rfl ?aP (fun _ hk => hk.elim) ?aF ?aO ?aB ?aS ?aL ?_; (case aP => exact rfl); (case aB => exact (by repeat (first | (with_reducible first | exact HB.out | apply below_alloc | apply pw_below_drewN | apply below_drew1 | refine below_set ?_ GE172.out) | exact HB.out))); (case aF => exact (fun _ _ => trivial)); (case aO => exact ((Kd.R_nil _ _ _ _ (fun _ => True)))); (case aS => exact (below_size (by repeat (first | (with_reducible first | exact HB.out | apply below_alloc | apply pw_below_drewN | apply below_drew1 | refine below_set ?_ GE172.out) | exact HB.out)))); (case aL => have := LMc6.out; omega); intro v174 w8 ho hb hg hat; rw [← Ny173.out] at ho; have n0_ := Aside0.mk (blk_grown (g := gb172) (o := .cells #[.int .i64 a0_0, .slice A0_1 l0_1.length c0_1] 25 (0, 0)) (by (with_reducible repeat (first | refine blk_drewN ?_ _ | refine blk_drew ?_ | refine blk_alloc ?_ _)); exact BK172.out) hg (by simp [Value.ownBlock])); have n1_ := Aside0.mk (hb); have n2_ := Aside0.mk (ho); clear BK172; clear HB; have BK172 := n0_; have HB := n1_; have HO175 := n2_; clear n0_ n1_ n2_; clear ho hb hg hat))
        go_meet
        case rel => exact ⟨_, (y173), H', ⟨by first | omega | exact Nat.le_refl _⟩, ⟨by (with_reducible repeat (first | apply Kd.R_alloc | apply Kd.R_drewN | apply Kd.R_drew)); exact HO175.out⟩, ⟨by (with_reducible repeat (first | refine blk_drewN ?_ _ | refine blk_drew ?_ | refine blk_alloc ?_ _)); exact BK172.out⟩, ⟨by repeat (first | (with_reducible first | exact HB.out | apply below_alloc | apply pw_below_drewN | apply below_drew1 | refine below_set ?_ GE172.out) | exact HB.out)⟩⟩
      · rw [if_neg c6] at H
        exact absurd H (by simp)
    · rw [if_neg c5] at H
      have c5b0 : decide (a0_0 < 0) = false := decide_eq_false c5
      clear c5
      (first | rw [c5b0] | (simp only [i64_w, i32_w]; rw [c5b0]) | skip)
      have H' := Aside0.mk H
      clear H
      go_wp2
      go_meet
      case rel => exact ⟨_, (([] : List Int)), H', ⟨by first | omega | exact Nat.le_refl _⟩, ⟨by first | exact Kd.R_nil _ _ _ _ _ | exact Kd.N_nil _ _ _ _ _ | exact Kd.V_nil _ _ _ _ _ | exact Kd.Q_nil _ _ _ _ _ | exact Kd.S_nil _ _ _ _ _⟩, ⟨by (with_reducible repeat (first | refine blk_drewN ?_ _ | refine blk_drew ?_ | refine blk_alloc ?_ _)); exact BK172.out⟩, ⟨by repeat (first | (with_reducible first | exact HB.out | apply below_alloc | apply pw_below_drewN | apply below_drew1 | refine below_set ?_ GE172.out) | exact HB.out)⟩⟩
  case rest =>
    clear HC2
    try clear p2
    try clear c5
    try clear c5b0
    try clear c6
    try clear p6
    try clear c7
    try clear hcz4_0
    try clear hcz4_1
    try clear hcz7_0
    try clear hcz7_1
    try clear hfz4_0
    try clear hfz4_1
    try clear hfz7_0
    try clear hfz7_1
    obtain ⟨kq, x3_1, HA, HJ1, HO_3, BK172, HB⟩ := hcut
    cases kq with
    | zero => exact absurd HA.out (by simp [elenchusref01_Vars.j0])
    | succ kj1 =>
      have H := HA.out
      clear HA
      simp only [elenchusref01_Vars.j0] at H
      have H' := Aside0.mk H
      clear H
      go_wp2
      go_loopg [3, 4] kj1 (fun kq v3 v4 w' => ∃ (x3_2 : List Int) (x4_2 : Int), v4 = .int .i64 x4_2 ∧ Aside0 (elenchusref01_Vars.l0 kq x3_2 x4_2 a0_0 l0_1 = some r) ∧ Aside0 (kq ≤ kj1) ∧ Aside0 (Kd.R (Kd.int .i64) 3 w' w.heap.size (fun _ => True) v3 x3_2) ∧ Aside0 (w'.heap[gb172]? = some (.cells #[.int .i64 a0_0, (.slice A0_1 l0_1.length c0_1)] 25 (0, 0))) ∧ Aside0 (Below w.heap.size w w'))
      case atStart => exact ⟨(x3_1), (0), (by first | rfl | (simp; done) | (simp [*]; done)), H', ⟨Nat.le_refl _⟩, ⟨by (with_reducible repeat (first | apply Kd.R_alloc | apply Kd.R_drewN | apply Kd.R_drew)); exact HO_3.out⟩, ⟨by (with_reducible repeat (first | refine blk_drewN ?_ _ | refine blk_drew ?_ | refine blk_alloc ?_ _)); exact BK172.out⟩, ⟨by repeat (first | (with_reducible first | exact HB.out | apply below_alloc | apply pw_below_drewN | apply below_drew1 | refine below_set ?_ GE172.out) | exact HB.out)⟩⟩
      case round =>
        clear H'
        try clear p2
        try clear c5
        try clear c5b0
        try clear c6
        try clear p6
        try clear c7
        try clear hcz4_0
        try clear hcz4_1
        try clear hcz7_0
        try clear hcz7_1
        try clear hfz4_0
        try clear hfz4_1
        try clear hfz7_0
        try clear hfz7_1
        try clear p2
        try clear p6
        obtain ⟨x3_2, x4_2, rfl, HA, HK2, HO_3, BK172, HB⟩ := hrel
        cases gk with
        | zero => exact absurd HA.out (by simp [elenchusref01_Vars.l0])
        | succ k2 =>
          have H := HA.out
          clear HA
          simp only [elenchusref01_Vars.l0] at H
          by_cases c9 : x4_2 < (l0_1.length : Int)
          · rw [if_pos c9] at H
            have c9b0 : decide (x4_2 < (l0_1.length : Int)) = true := decide_eq_true c9
            clear c9
            by_cases c10 : 0 ≤ x4_2
            · rw [if_pos c10] at H
              have c10b0 : decide (0 ≤ x4_2) = true := decide_eq_true c10
              clear c10
              replace H := Option.bind_eq_some_iff.mp H
              obtain ⟨t177, A110, H⟩ := H
              replace H : (elenchusref01_Vars.l1 k2 x3_2 x4_2 t177 0 a0_0 l0_1) = some r := H
              have A11 := Aside0.mk A110
              clear A110
              have H' := Aside0.mk H
              clear H
              have hcz12_0 : wr.cell? ⟨gb172, 0, none⟩ = some (.int .i64 a0_0) := (blk_cell BK172.out 0).trans rfl
              have hcz12_1 : wr.cell? ⟨gb172, 1, none⟩ = some (.slice A0_1 l0_1.length c0_1) := (blk_cell BK172.out 1).trans rfl
              have hfz12_0 := blk_frozen BK172.out 0
              have hfz12_1 := blk_frozen BK172.out 1
              have p176 : 0 ≤ (x4_2 : Int) := of_decide_eq_true (by first | (with_reducible assumption) | assumption)
              have q176 : x4_2 < (l0_1.length : Int) := of_decide_eq_true (by first | (with_reducible assumption) | assumption)
              obtain ⟨ad176, A176_1, c176_1, e176, hx176_0, hx176_1, hl176_1, hi176_1⟩ := at_T25 HR0_1.out x4_2 p176 q176
              cases e176
              replace hx176_0 := (HB.out.cell (World.block_lt_of_cell? w _ hx176_0)).trans hx176_0
              replace hx176_1 := (HB.out.cell (World.block_lt_of_cell? w _ hx176_1)).trans hx176_1
              have HR176_1 := Aside0.mk hi176_1
              have HC176_1 := Aside0.mk hl176_1
              clear hi176_1 hl176_1
              replace p176 := eq_true p176
              replace q176 := eq_true q176
              go_wp2_with (first | ((with_reducible refine gate_callee (f := 76) rfl ?_); refine goesL_ (some 28) rfl rfl Try.func76 (by kernel_rfl) rfl #[.agg #[.int .i64 ((rd_T25 l0_1 x4_2).f0), .slice A176_1 ((rd_T25 l0_1 x4_2).f1).length c176_1]] rfl (by (try simp only [List.map_toArray, List.map_cons, List.map_nil]); first | done | rfl | (simp only [List.length_drop, List.length_take]; rfl)) ?_; (with_reducible refine (ih k2 (by have := HJ1.out; have := HK2.out; omega) ((rd_T25 l0_1 x4_2).f0) _ _ ((rd_T25 l0_1 x4_2).f1) t177 _ ?side1 ?side2 A11.out).mono ?_); (case side1 => repeat (first | exact (Kd.C_below HR176_1.out HB.out) | (with_reducible refine Kd.C_alloc ?_ _) | (with_reducible refine Kd.C_drewN ?_ _) | (with_reducible refine Kd.C_drew ?_))); (case side2 => exact HC176_1.out); rintro e w13 ⟨v178, rfl, ho0, hb⟩; refine ⟨_, rfl, ?_⟩; have n0_ := Aside0.mk (Kd.R_elder' (by (with_reducible repeat (first | apply Kd.R_alloc | apply Kd.R_drewN | apply Kd.R_drew)); exact HO_3.out) (Kd.R_base ho0) hb); have n1_ := Aside0.mk (Kd.R_lower (Kd.R_new' ho0 (Kd.R_lt (by (with_reducible repeat (first | apply Kd.R_alloc | apply Kd.R_drewN | apply Kd.R_drew)); exact HO_3.out))) (below_size (by repeat (first | (with_reducible first | exact HB.out | apply below_alloc | apply pw_below_drewN | apply below_drew1 | refine below_set ?_ GE172.out) | exact HB.out)))); have n2_ := Aside0.mk (blk_below (g := gb172) (o := .cells #[.int .i64 a0_0, .slice (some ad176) l0_1.length c0_1] 25 (0, 0)) (by (with_reducible repeat (first | refine blk_drewN ?_ _ | refine blk_drew ?_ | refine blk_alloc ?_ _)); exact BK172.out) hb); have n3_ := Aside0.mk (below_step (by repeat (first | (with_reducible first | exact HB.out | apply below_alloc | apply pw_below_drewN | apply below_drew1 | refine below_set ?_ GE172.out) | exact HB.out)) hb); clear HO_3; clear BK172; clear HB; have HO_3 := n0_; have HO179 := n1_; have BK172 := n2_; have HB := n3_; clear n0_ n1_ n2_ n3_; (try clear hb); (try clear hb2); (try clear hk); (try clear hi); (try clear ho0)))
              go_loopg [3, 6] k2 (fun kq v3 v6 w' => ∃ (x3_3 : List Int) (x6_3 : Int), v6 = .int .i64 x6_3 ∧ Aside0 (elenchusref01_Vars.l1 kq x3_3 x4_2 t177 x6_3 a0_0 l0_1 = some r) ∧ Aside0 (kq ≤ k2) ∧ Aside0 (Kd.R (Kd.int .i64) 3 w' w.heap.size (fun k_ => some k_ ≠ (v178 : Value).ownBlock) v3 x3_3) ∧ Aside0 (Kd.R (Kd.int .i64) 3 w' w.heap.size (fun k_ => some k_ ≠ (v3 : Value).ownBlock) v178 t177) ∧ Aside0 (w'.heap[gb172]? = some (.cells #[.int .i64 a0_0, (.slice (some ad176) l0_1.length c0_1)] 25 (0, 0))) ∧ Aside0 (Below w.heap.size w w'))
              case atStart => exact ⟨(x3_2), (0), (by first | rfl | (simp; done) | (simp [*]; done)), H', ⟨Nat.le_refl _⟩, ⟨by (with_reducible repeat (first | apply Kd.R_alloc | apply Kd.R_drewN | apply Kd.R_drew)); exact Kd.R_mono HO_3.out (fun _ hk => hk.2)⟩, ⟨by (with_reducible repeat (first | apply Kd.R_alloc | apply Kd.R_drewN | apply Kd.R_drew)); exact Kd.R_mono HO179.out (fun _ hk => hk.2)⟩, ⟨by (with_reducible repeat (first | refine blk_drewN ?_ _ | refine blk_drew ?_ | refine blk_alloc ?_ _)); exact BK172.out⟩, ⟨by repeat (first | (with_reducible first | exact HB.out | apply below_alloc | apply pw_below_drewN | apply below_drew1 | refine below_set ?_ GE172.out) | exact HB.out)⟩⟩
              case round =>
                clear H'
                try clear c1
                try clear p1
                try clear q1
                try clear hx1
                try clear p2
                try clear c5
                try clear c5b0
                try clear c6
                try clear p6
                try clear c7
                try clear c9
                try clear c9b0
                try clear c10
                try clear c10b0
                try clear hcz12_0
                try clear hcz12_1
                try clear hcz4_0
                try clear hcz4_1
                try clear hcz7_0
                try clear hcz7_1
                try clear hfz12_0
                try clear hfz12_1
                try clear hfz4_0
                try clear hfz4_1
                try clear hfz7_0
                try clear hfz7_1
                try clear hx176_0
                try clear hx176_1
                try clear p176
                try clear p2
                try clear p6
                try clear q176
                obtain ⟨x3_3, x6_3, rfl, HA, HK3, HO_3, HO_5, BK172, HB⟩ := hrel
                cases gk with
                | zero => exact absurd HA.out (by simp [elenchusref01_Vars.l1])
                | succ k3 =>
                  have H := HA.out
                  clear HA
                  simp only [elenchusref01_Vars.l1] at H
                  by_cases c14 : x6_3 < (t177.length : Int)
                  · rw [if_pos c14] at H
                    have c14b0 : decide (x6_3 < (t177.length : Int)) = true := decide_eq_true c14
                    clear c14
                    by_cases c15 : 0 ≤ x6_3
                    · rw [if_pos c15] at H
                      have c15b0 : decide (0 ≤ x6_3) = true := decide_eq_true c15
                      clear c15
                      replace H := Option.bind_eq_some_iff.mp H
                      obtain ⟨t181, A160, H⟩ := H
                      replace H : (if t181 = true then (elenchusref01_Vars.l1 k3 x3_3 x4_2 t177 (wrap64 (x6_3 + 1)) a0_0 l0_1) else (if x3_3.length < 17592186044416 then (elenchusref01_Vars.l1 k3 (x3_3 ++ [rd t177 x6_3]) x4_2 t177 (wrap64 (x6_3 + 1)) a0_0 l0_1) else (none))) = some r := H
                      have A16 := Aside0.mk A160
                      clear A160
                      by_cases c17 : t181 = true
                      · subst c17
                        have H1 : (elenchusref01_Vars.l1 k3 x3_3 x4_2 t177 (wrap64 (x6_3 + 1)) a0_0 l0_1) = some r := by rw [if_pos rfl] at H; exact H
                        clear H
                        have H := H1
                        clear H1
                        have H' := Aside0.mk H
                        clear H
                        obtain ⟨Ao18, co18, eo18⟩ := Kd.R_slice HO_5.out
                        subst eo18
                        have p180 : 0 ≤ (x6_3 : Int) := of_decide_eq_true (by first | (with_reducible assumption) | assumption)
                        have q180 : x6_3 < (t177.length : Int) := of_decide_eq_true (by first | (with_reducible assumption) | assumption)
                        obtain ⟨ad180, e180, hx180_0⟩ := Kd.at_int (Kd.R_reads' HO_5.out).2.2 x6_3 p180 q180
                        cases e180
                        replace p180 := eq_true p180
                        replace q180 := eq_true q180
                        obtain ⟨Ao19, co19, eo19⟩ := Kd.R_slice HO_3.out
                        subst eo19
                        go_wp2_with (first | ((with_reducible refine gate_callee (f := 40) rfl ?_); refine goesL_ (some 40) rfl rfl Try.func40 (by kernel_rfl) rfl #[.int .i64 (rd t177 x6_3), .slice Ao19 x3_3.length co19] rfl (by (try simp only [List.map_toArray, List.map_cons, List.map_nil]); first | done | rfl | (simp only [List.length_drop, List.length_take]; rfl)) ?_; (with_reducible refine (elenchusref01_In.calls (rd t177 x6_3) _ _ x3_3 true _ ?side1 ?side2 A16.out).mono ?_); (case side1 => repeat (first | exact (Kd.R_reads' HO_3.out).2.2 | (with_reducible refine Kd.C_alloc ?_ _) | (with_reducible refine Kd.C_drewN ?_ _) | (with_reducible refine Kd.C_drew ?_))); (case side2 => exact (Kd.R_reads' HO_3.out).2.1); rintro e w20 ⟨rfl, hb⟩; refine ⟨_, rfl, ?_⟩; have n0_ := Aside0.mk (Kd.R_below (by (with_reducible repeat (first | apply Kd.R_alloc | apply Kd.R_drewN | apply Kd.R_drew)); exact HO_3.out) hb); have n1_ := Aside0.mk (Kd.R_below (by (with_reducible repeat (first | apply Kd.R_alloc | apply Kd.R_drewN | apply Kd.R_drew)); exact HO_5.out) hb); have n2_ := Aside0.mk (blk_below (g := gb172) (o := .cells #[.int .i64 a0_0, .slice (some ad176) l0_1.length c0_1] 25 (0, 0)) (by (with_reducible repeat (first | refine blk_drewN ?_ _ | refine blk_drew ?_ | refine blk_alloc ?_ _)); exact BK172.out) hb); have n3_ := Aside0.mk (below_step (by repeat (first | (with_reducible first | exact HB.out | apply below_alloc | apply pw_below_drewN | apply below_drew1 | refine below_set ?_ GE172.out) | exact HB.out)) hb); clear HO_3; clear HO_5; clear BK172; clear HB; have HO_3 := n0_; have HO_5 := n1_; have BK172 := n2_; have HB := n3_; clear n0_ n1_ n2_ n3_; (try clear hb); (try clear hb2); (try clear hk); (try clear hi)))
                        go_roundg k3
                        case measure => have := HJ1.out; have := HK2.out; have := HK3.out; omega
                        case rel => exact ⟨(x3_3), (wrap64 (x6_3 + 1)), (by first | rfl | (simp; done) | (simp [*]; done)), H', ⟨by have := HJ1.out; have := HK2.out; have := HK3.out; omega⟩, ⟨by (with_reducible repeat (first | apply Kd.R_alloc | apply Kd.R_drewN | apply Kd.R_drew)); exact HO_3.out⟩, ⟨by (with_reducible repeat (first | apply Kd.R_alloc | apply Kd.R_drewN | apply Kd.R_drew)); exact HO_5.out⟩, ⟨by (with_reducible repeat (first | refine blk_drewN ?_ _ | refine blk_drew ?_ | refine blk_alloc ?_ _)); exact BK172.out⟩, ⟨by repeat (first | (with_reducible first | exact HB.out | apply below_alloc | apply pw_below_drewN | apply below_drew1 | refine below_set ?_ GE172.out) | exact HB.out)⟩⟩
                      · replace c17 := Bool.eq_false_iff.mpr c17
                        subst c17
                        have H1 : (if x3_3.length < 17592186044416 then (elenchusref01_Vars.l1 k3 (x3_3 ++ [rd t177 x6_3]) x4_2 t177 (wrap64 (x6_3 + 1)) a0_0 l0_1) else (none)) = some r := by rw [if_neg (show ¬ (false = true) by decide)] at H; exact H
                        clear H
                        have H := H1
                        clear H1
                        by_cases c21 : x3_3.length < 17592186044416
                        · rw [if_pos c21] at H
                          have LMc21 := Aside0.mk c21
                          clear c21
                          obtain ⟨y183, hy183⟩ : ∃ y_ : List Int, y_ = (x3_3 ++ [rd t177 x6_3]) := ⟨_, rfl⟩
                          replace H : (elenchusref01_Vars.l1 k3 y183 x4_2 t177 (wrap64 (x6_3 + 1)) a0_0 l0_1) = some r := by first | (rw [hy183]; with_reducible exact H) | (have H2_ := (Option.bind_some _ _).symm.trans H; rw [hy183]; with_reducible exact H2_) | (have H2_ := (Option.bind_some _ _).symm.trans H; with_reducible exact H2_) | with_reducible exact H | (rw [hy183]; exact H) | exact H
                          have Ny183 := Aside0.mk hy183
                          clear hy183
                          have H' := Aside0.mk H
                          clear H
                          obtain ⟨Ao22, co22, eo22⟩ := Kd.R_slice HO_5.out
                          subst eo22
                          have p180 : 0 ≤ (x6_3 : Int) := of_decide_eq_true (by first | (with_reducible assumption) | assumption)
                          have q180 : x6_3 < (t177.length : Int) := of_decide_eq_true (by first | (with_reducible assumption) | assumption)
                          obtain ⟨ad180, e180, hx180_0⟩ := Kd.at_int (Kd.R_reads' HO_5.out).2.2 x6_3 p180 q180
                          cases e180
                          replace p180 := eq_true p180
                          replace q180 := eq_true q180
                          obtain ⟨Ao23, co23, eo23⟩ := Kd.R_slice HO_3.out
                          subst eo23
                          go_wp2_with (first | ((with_reducible refine gate_callee (f := 40) rfl ?_); refine goesL_ (some 40) rfl rfl Try.func40 (by kernel_rfl) rfl #[.int .i64 (rd t177 x6_3), .slice Ao23 x3_3.length co23] rfl (by (try simp only [List.map_toArray, List.map_cons, List.map_nil]); first | done | rfl | (simp only [List.length_drop, List.length_take]; rfl)) ?_; (with_reducible refine (elenchusref01_In.calls (rd t177 x6_3) _ _ x3_3 false _ ?side1 ?side2 A16.out).mono ?_); (case side1 => repeat (first | exact (Kd.R_reads' HO_3.out).2.2 | (with_reducible refine Kd.C_alloc ?_ _) | (with_reducible refine Kd.C_drewN ?_ _) | (with_reducible refine Kd.C_drew ?_))); (case side2 => exact (Kd.R_reads' HO_3.out).2.1); rintro e w24 ⟨rfl, hb⟩; refine ⟨_, rfl, ?_⟩; have n0_ := Aside0.mk (Kd.R_below (by (with_reducible repeat (first | apply Kd.R_alloc | apply Kd.R_drewN | apply Kd.R_drew)); exact HO_3.out) hb); have n1_ := Aside0.mk (Kd.R_below (by (with_reducible repeat (first | apply Kd.R_alloc | apply Kd.R_drewN | apply Kd.R_drew)); exact HO_5.out) hb); have n2_ := Aside0.mk (blk_below (g := gb172) (o := .cells #[.int .i64 a0_0, .slice (some ad176) l0_1.length c0_1] 25 (0, 0)) (by (with_reducible repeat (first | refine blk_drewN ?_ _ | refine blk_drew ?_ | refine blk_alloc ?_ _)); exact BK172.out) hb); have n3_ := Aside0.mk (below_step (by repeat (first | (with_reducible first | exact HB.out | apply below_alloc | apply pw_below_drewN | apply below_drew1 | refine below_set ?_ GE172.out) | exact HB.out)) hb); clear HO_3; clear HO_5; clear BK172; clear HB; have HO_3 := n0_; have HO_5 := n1_; have BK172 := n2_; have HB := n3_; clear n0_ n1_ n2_ n3_; (try clear hb); (try clear hb2); (try clear hk); (try clear hi); have p182 : 0 ≤ (x6_3 : Int) := of_decide_eq_true (by first | (with_reducible assumption) | assumption); have q182 : x6_3 < (t177.length : Int) := of_decide_eq_true (by first | (with_reducible assumption) | assumption); obtain ⟨ad182, e182, hx182_0⟩ := Kd.at_int (Kd.R_reads' HO_5.out).2.2 x6_3 p182 q182; obtain rfl : ad180 = ad182 := (by injection e182); replace p182 := eq_true p182; replace q182 := eq_true q182) | ((with_reducible refine gate_builtin (b := .append) (xs := #[.tmp 42, .tmp 47]) rfl ?_); at_builtin; refine Kd.R_append (Kd.int .i64) (w0 := w) w.heap.size rfl (.tmp 42) (.tmp 47) 37 3 (.int .i64 0) 8 rfl Try.underlying37 info3 rfl (by decide) (by omega) (.slice Ao23 x3_3.length co23) x3_3 (rd t177 x6_3) [.int .i64 (rd t177 x6_3)] (fun k_ => some k_ ≠ (.slice (some ad180) t177.length co22 : Value).ownBlock) (fun _ => False) rfl rfl ?aP (fun _ hk => hk.elim) ?aF ?aO ?aB ?aS ?aL ?_; (case aP => exact rfl); (case aB => exact (by repeat (first | (with_reducible first | exact HB.out | apply below_alloc | apply pw_below_drewN | apply below_drew1 | refine below_set ?_ GE172.out) | exact HB.out))); (case aF => exact (fun k_ hk => Kd.fresh' (Kd.R_lt (by (with_reducible repeat (first | apply Kd.R_alloc | apply Kd.R_drewN | apply Kd.R_drew)); exact HO_5.out)) k_ hk)); (case aO => exact (by (with_reducible repeat (first | apply Kd.R_alloc | apply Kd.R_drewN | apply Kd.R_drew)); exact HO_3.out)); (case aS => exact (below_size (by repeat (first | (with_reducible first | exact HB.out | apply below_alloc | apply pw_below_drewN | apply below_drew1 | refine below_set ?_ GE172.out) | exact HB.out)))); (case aL => have := LMc21.out; omega); intro v184 w25 ho hb hg hat; rw [← Ny183.out] at ho; have n0_ := Aside0.mk (Kd.R_after (ok := (fun _ => True)) (by (with_reducible repeat (first | apply Kd.R_alloc | apply Kd.R_drewN | apply Kd.R_drew)); exact Kd.R_mono HO_5.out (fun _ hk => ⟨trivial, hk⟩)) hg hat); have n1_ := Aside0.mk (blk_grown (g := gb172) (o := .cells #[.int .i64 a0_0, .slice (some ad176) l0_1.length c0_1] 25 (0, 0)) (by (with_reducible repeat (first | refine blk_drewN ?_ _ | refine blk_drew ?_ | refine blk_alloc ?_ _)); exact BK172.out) hg (Kd.R_ne HO_3.out BK172.out (by decide))); have n2_ := Aside0.mk (hb); have n3_ := Aside0.mk (ho); clear HO_5; clear BK172; clear HB; clear HO_3; have HO_5 := n0_; have BK172 := n1_; have HB := n2_; have HO185 := n3_; clear n0_ n1_ n2_ n3_; clear ho hb hg hat))
                          go_roundg k3
                          case measure => have := HJ1.out; have := HK2.out; have := HK3.out; omega
                          case rel => exact ⟨(y183), (wrap64 (x6_3 + 1)), (by first | rfl | (simp; done) | (simp [*]; done)), H', ⟨by have := HJ1.out; have := HK2.out; have := HK3.out; omega⟩, ⟨by (with_reducible repeat (first | apply Kd.R_alloc | apply Kd.R_drewN | apply Kd.R_drew)); exact HO185.out⟩, ⟨by (with_reducible repeat (first | apply Kd.R_alloc | apply Kd.R_drewN | apply Kd.R_drew)); exact Kd.R_mono HO_5.out (fun _ hk => hk.2)⟩, ⟨by (with_reducible repeat (first | refine blk_drewN ?_ _ | refine blk_drew ?_ | refine blk_alloc ?_ _)); exact BK172.out⟩, ⟨by repeat (first | (with_reducible first | exact HB.out | apply below_alloc | apply pw_below_drewN | apply below_drew1 | refine below_set ?_ GE172.out) | exact HB.out)⟩⟩
                        · rw [if_neg c21] at H
                          exact absurd H (by simp)
                    · rw [if_neg c15] at H
                      exact absurd H (by simp)
                  · rw [if_neg c14] at H
                    have c14b0 : decide (x6_3 < (t177.length : Int)) = false := decide_eq_false c14
                    clear c14
                    have H' := Aside0.mk H
                    clear H
                    obtain ⟨Ao26, co26, eo26⟩ := Kd.R_slice HO_5.out
                    subst eo26
                    go_wp2
                    go_roundg k3
                    case measure => have := HJ1.out; have := HK2.out; have := HK3.out; omega
                    case rel => exact ⟨(x3_3), (wrap64 (x4_2 + 1)), (by first | rfl | (simp; done) | (simp [*]; done)), H', ⟨by have := HJ1.out; have := HK2.out; have := HK3.out; omega⟩, ⟨by (with_reducible repeat (first | apply Kd.R_alloc | apply Kd.R_drewN | apply Kd.R_drew)); exact Kd.R_mono HO_3.out (fun _ hk => trivial)⟩, ⟨by (with_reducible repeat (first | refine blk_drewN ?_ _ | refine blk_drew ?_ | refine blk_alloc ?_ _)); exact BK172.out⟩, ⟨by repeat (first | (with_reducible first | exact HB.out | apply below_alloc | apply pw_below_drewN | apply below_drew1 | refine below_set ?_ GE172.out) | exact HB.out)⟩⟩
            · rw [if_neg c10] at H
              exact absurd H (by simp)
          · rw [if_neg c9] at H
            have c9b0 : decide (x4_2 < (l0_1.length : Int)) = false := decide_eq_false c9
            clear c9
            obtain rfl := Option.some.inj H
            have hcz27_0 : wr.cell? ⟨gb172, 0, none⟩ = some (.int .i64 a0_0) := (blk_cell BK172.out 0).trans rfl
            have hcz27_1 : wr.cell? ⟨gb172, 1, none⟩ = some (.slice A0_1 l0_1.length c0_1) := (blk_cell BK172.out 1).trans rfl
            have hfz27_0 := blk_frozen BK172.out 0
            have hfz27_1 := blk_frozen BK172.out 1
            go_wp2
            go_ret
            exact ⟨_, by first | rfl | (simp [errW_none, errW_some] <;> rfl) | (simp [*, errW_none, errW_some] <;> rfl), by (with_reducible repeat (first | apply Kd.R_alloc | apply Kd.R_drewN | apply Kd.R_drew)); exact HO_3.out, by repeat (first | (with_reducible first | exact HB.out | apply below_alloc | apply pw_below_drewN | apply below_drew1 | refine below_set ?_ GE172.out) | exact HB.out)⟩
end Go.Proofs.Ythplndalbfcbbaa.PA
namespace Go.Proofs.Ythplndalbfcbbaa.PA
open Go.RowKit Go.Proofs.YthplndalbfcbbaaW.PrintWords Go.Proofs.YthplndalbfcbbaaW.PrintLast Go.Proofs.YthplndalbfcbbaaW.PrintMore
attribute [local go_sem] max2_int min2_int max_two min_two max_three min_three max_four min_four   -- for this text's walks alone
set_option linter.unusedVariables false
set_option linter.unusedSimpArgs false
mutual
def elenchuslaw05_MatchUnifies.j0 : Nat → Bool → Int → List (S25) → Int → List (S25) → Option (Bool)
  | 0, _, _, _, _, _ => none
  | k + 1, x24, x301000, x301001, x302000, x302001 => if x24 = true then (some true) else ((match_Match.f x301000 x301001 x302000 x302001).bind fun bt307 => ((unify_Mgu.f x301000 x301001 x302000 x302001).bind fun bt312 => (if bt307.2.2 = 0 then (elenchuslaw05_MatchUnifies.j1 k bt307.1 bt307.2.1 bt307.2.2 bt312.1 bt312.2.1 bt312.2.2 (bt312.2.2 != 0)) else (elenchuslaw05_MatchUnifies.j1 k bt307.1 bt307.2.1 bt307.2.2 bt312.1 bt312.2.1 bt312.2.2 true))))
def elenchuslaw05_MatchUnifies.j1 : Nat → List (S60) → Bool → Int → List (S60) → Bool → Int → Bool → Option (Bool)
  | 0, _, _, _, _, _, _, _ => none
  | k + 1, x5, x6, x7, x8, x9, x10, x44 => if x44 = true then ((elenchuslaw05_awake.f).bind fun t317 => (if t317 = true then (some (x7 == x10)) else (some false))) else ((elenchuslaw05_awake.f).bind fun t318 => (if t318 = true then (if (x6 == x9) = true then ((elenchusref03_Same.f x5 x8).bind fun t319 => (some t319)) else (some false)) else (some false)))
end
def elenchuslaw05_MatchUnifies.f (k : Nat) (a0_0 : Int) (l0_1 : List (S25)) (a1_0 : Int) (l1_1 : List (S25)) : Option (Bool) := (elenchusref01_Few.f a0_0 l0_1).bind fun t302 => (if t302 = true then ((elenchusref01_Few.f a1_0 l1_1).bind fun t303 => (if t303 = true then ((elenchusref01_Vars.f k a1_0 l1_1).bind fun t304 => (elenchuslaw05_MatchUnifies.j0 k (decide ((t304.length : Int) > 0)) a0_0 l0_1 a1_0 l1_1)) else (elenchuslaw05_MatchUnifies.j0 k true a0_0 l0_1 a1_0 l1_1))) else (elenchuslaw05_MatchUnifies.j0 k true a0_0 l0_1 a1_0 l1_1))
set_option maxHeartbeats 8000000 in
set_option maxRecDepth 100000 in
theorem elenchuslaw05_MatchUnifies.calls (k : Nat) (a0_0 : Int) (A0_1 : Option Addr) (c0_1 : Nat) (l0_1 : List (S25)) (a1_0 : Int) (A1_1 : Option Addr) (c1_1 : Nat) (l1_1 : List (S25)) (r : Bool) (w : World) (hr0_1 : Kd.C k25 w A0_1 l0_1.length l0_1) (hc0_1 : l0_1.length ≤ c0_1) (hr1_1 : Kd.C k25 w A1_1 l1_1.length l1_1) (hc1_1 : l1_1.length ≤ c1_1) (h : elenchuslaw05_MatchUnifies.f k a0_0 l0_1 a1_0 l1_1 = some r) :
    Calls Try.prog 22 #[.agg #[.int .i64 a0_0, .slice A0_1 l0_1.length c0_1], .agg #[.int .i64 a1_0, .slice A1_1 l1_1.length c1_1]] w fun e w' => e = .returned (.bool r) ∧ Below w.heap.size w w' := by
  have hu25 := Try.underlying25
  have HR0_1 := Aside0.mk hr0_1
  have HC0_1 := Aside0.mk hc0_1
  clear hr0_1 hc0_1
  have HR1_1 := Aside0.mk hr1_1
  have HC1_1 := Aside0.mk hc1_1
  clear hr1_1 hc1_1
  have HB := Aside0.mk (Below.refl w.heap.size w)
  have H : ((elenchusref01_Few.f a0_0 l0_1).bind fun t302 => (if t302 = true then ((elenchusref01_Few.f a1_0 l1_1).bind fun t303 => (if t303 = true then ((elenchusref01_Vars.f k a1_0 l1_1).bind fun t304 => (elenchuslaw05_MatchUnifies.j0 k (decide ((t304.length : Int) > 0)) a0_0 l0_1 a1_0 l1_1)) else (elenchuslaw05_MatchUnifies.j0 k true a0_0 l0_1 a1_0 l1_1))) else (elenchuslaw05_MatchUnifies.j0 k true a0_0 l0_1 a1_0 l1_1))) = some r := h
  clear h
  have HC3 := Aside0.mk H
  clear H
  go_enter Try.func22, Try.ntmps22
  go_upto_region 1 with (first | ((with_reducible refine gate_dst (N := 2) rfl ?_); (try (refine gate_guard (by rfl) ?_; dsimp only)); refine box_event ?hg (N := 2) ?hd (cs := #[.int .i64 a0_0, .slice A0_1 l0_1.length c0_1]) (t := 25) ?hr ?_; (case hd => rfl); (case hg => rfl); (case hr => first | (go_simp; done) | (go_simp; rfl)); intro gb300 hg w4 hbox hb; have n0_ := Aside0.mk (below_step (by repeat (first | (with_reducible first | exact HB.out | apply below_alloc | apply pw_below_drewN | apply below_drew1) | exact HB.out)) hb); have n1_ := Aside0.mk (hbox); have n2_ := Aside0.mk ((by rw [hg]; exact (below_size (by repeat (first | (with_reducible first | exact HB.out | apply below_alloc | apply pw_below_drewN | apply below_drew1) | exact HB.out))) : w.heap.size ≤ gb300)); have n3_ := Aside0.mk ((by rw [hg]; exact (below_size (by repeat (first | (with_reducible first | exact HB.out | apply below_alloc | apply pw_below_drewN | apply below_drew1) | exact HB.out))) : w.heap.size ≤ gb300)); clear HB; have HB := n0_; have BK300 := n1_; have GW300 := n2_; have GE300 := n3_; clear n0_ n1_ n2_ n3_; clear hb hbox hg) | ((with_reducible refine gate_dst (N := 3) rfl ?_); (try (refine gate_guard (by rfl) ?_; dsimp only)); refine box_event ?hg (N := 3) ?hd (cs := #[.int .i64 a1_0, .slice A1_1 l1_1.length c1_1]) (t := 25) ?hr ?_; (case hd => rfl); (case hg => rfl); (case hr => first | (go_simp; done) | (go_simp; rfl)); intro gb301 hg w5 hbox hb; have n0_ := Aside0.mk (blk_below (g := gb300) (o := .cells #[.int .i64 a0_0, .slice A0_1 l0_1.length c0_1] 25 (0, 0)) (by (with_reducible repeat (first | refine blk_drewN ?_ _ | refine blk_drew ?_ | refine blk_alloc ?_ _)); exact BK300.out) hb); have n1_ := Aside0.mk (below_step (by repeat (first | (with_reducible first | exact HB.out | apply below_alloc | apply pw_below_drewN | apply below_drew1 | refine below_set ?_ GE300.out) | exact HB.out)) hb); have n2_ := Aside0.mk (hbox); have n3_ := Aside0.mk ((by rw [hg]; exact (below_size (by repeat (first | (with_reducible first | exact HB.out | apply below_alloc | apply pw_below_drewN | apply below_drew1 | refine below_set ?_ GE300.out) | exact HB.out))) : w.heap.size ≤ gb301)); have n4_ := Aside0.mk ((by rw [hg]; exact (below_size (by repeat (first | (with_reducible first | exact HB.out | apply below_alloc | apply pw_below_drewN | apply below_drew1 | refine below_set ?_ GE300.out) | exact HB.out))) : w.heap.size ≤ gb301)); have n5_ := Aside0.mk ((by rw [hg]; exact Nat.ne_of_lt (blk_lt (g := gb300) (o := .cells #[.int .i64 a0_0, .slice A0_1 l0_1.length c0_1] 25 (0, 0)) (by (with_reducible repeat (first | refine blk_drewN ?_ _ | refine blk_drew ?_ | refine blk_alloc ?_ _)); exact BK300.out)) : gb300 ≠ gb301)); have n6_ := Aside0.mk ((by rw [hg]; exact Nat.ne_of_gt (blk_lt (g := gb300) (o := .cells #[.int .i64 a0_0, .slice A0_1 l0_1.length c0_1] 25 (0, 0)) (by (with_reducible repeat (first | refine blk_drewN ?_ _ | refine blk_drew ?_ | refine blk_alloc ?_ _)); exact BK300.out)) : gb301 ≠ gb300)); clear BK300; clear HB; have BK300 := n0_; have HB := n1_; have BK301 := n2_; have GW301 := n3_; have GE301 := n4_; have NB300_301 := n5_; have NB301_300 := n6_; clear n0_ n1_ n2_ n3_ n4_ n5_ n6_; clear hb hbox hg))
  (try simp only [Act.put, List.setIfInBounds_toArray, List.set_cons_zero, List.set_cons_succ])
  go_cut [24] (fun v24 wc => ∃ (kq : Nat) (x24_2 : Bool), v24 = .bool x24_2 ∧ Aside0 (elenchuslaw05_MatchUnifies.j0 kq x24_2 a0_0 l0_1 a1_0 l1_1 = some r) ∧ Aside0 (kq ≤ k) ∧ Aside0 (wc.heap[gb300]? = some (.cells #[.int .i64 a0_0, (.slice A0_1 l0_1.length c0_1)] 25 (0, 0))) ∧ Aside0 (wc.heap[gb301]? = some (.cells #[.int .i64 a1_0, (.slice A1_1 l1_1.length c1_1)] 25 (0, 0))) ∧ Aside0 (Below w.heap.size w wc))
  case first =>
    have H := HC3.out
    clear HC3
    replace H := Option.bind_eq_some_iff.mp H
    obtain ⟨t302, A60, H⟩ := H
    replace H : (if t302 = true then ((elenchusref01_Few.f a1_0 l1_1).bind fun t303 => (if t303 = true then ((elenchusref01_Vars.f k a1_0 l1_1).bind fun t304 => (elenchuslaw05_MatchUnifies.j0 k (decide ((t304.length : Int) > 0)) a0_0 l0_1 a1_0 l1_1)) else (elenchuslaw05_MatchUnifies.j0 k true a0_0 l0_1 a1_0 l1_1))) else (elenchuslaw05_MatchUnifies.j0 k true a0_0 l0_1 a1_0 l1_1)) = some r := H
    have A6 := Aside0.mk A60
    clear A60
    by_cases c7 : t302 = true
    · subst c7
      have H1 : ((elenchusref01_Few.f a1_0 l1_1).bind fun t303 => (if t303 = true then ((elenchusref01_Vars.f k a1_0 l1_1).bind fun t304 => (elenchuslaw05_MatchUnifies.j0 k (decide ((t304.length : Int) > 0)) a0_0 l0_1 a1_0 l1_1)) else (elenchuslaw05_MatchUnifies.j0 k true a0_0 l0_1 a1_0 l1_1))) = some r := by rw [if_pos rfl] at H; exact H
      clear H
      have H := H1
      clear H1
      replace H := Option.bind_eq_some_iff.mp H
      obtain ⟨t303, A80, H⟩ := H
      replace H : (if t303 = true then ((elenchusref01_Vars.f k a1_0 l1_1).bind fun t304 => (elenchuslaw05_MatchUnifies.j0 k (decide ((t304.length : Int) > 0)) a0_0 l0_1 a1_0 l1_1)) else (elenchuslaw05_MatchUnifies.j0 k true a0_0 l0_1 a1_0 l1_1)) = some r := H
      have A8 := Aside0.mk A80
      clear A80
      by_cases c9 : t303 = true
      · subst c9
        have H1 : ((elenchusref01_Vars.f k a1_0 l1_1).bind fun t304 => (elenchuslaw05_MatchUnifies.j0 k (decide ((t304.length : Int) > 0)) a0_0 l0_1 a1_0 l1_1)) = some r := by rw [if_pos rfl] at H; exact H
        clear H
        have H := H1
        clear H1
        replace H := Option.bind_eq_some_iff.mp H
        obtain ⟨t304, A100, H⟩ := H
        replace H : (elenchuslaw05_MatchUnifies.j0 k (decide ((t304.length : Int) > 0)) a0_0 l0_1 a1_0 l1_1) = some r := H
        have A10 := Aside0.mk A100
        clear A100
        have H' := Aside0.mk H
        clear H
        have hnb11 := NB300_301.out
        have hnc11 := NB301_300.out
        have hcz12_0 : w5.cell? ⟨gb300, 0, none⟩ = some (.int .i64 a0_0) := (blk_cell BK300.out 0).trans rfl
        have hcz12_1 : w5.cell? ⟨gb300, 1, none⟩ = some (.slice A0_1 l0_1.length c0_1) := (blk_cell BK300.out 1).trans rfl
        have hfz12_0 := blk_frozen BK300.out 0
        have hfz12_1 := blk_frozen BK300.out 1
        go_wp2_with (first | ((with_reducible refine gate_callee (f := 26) rfl ?_); refine goesL_ (some 12) rfl rfl Try.func26 (by kernel_rfl) rfl #[.agg #[.int .i64 a0_0, .slice A0_1 l0_1.length c0_1]] rfl (by (try simp only [List.map_toArray, List.map_cons, List.map_nil]); first | done | rfl | (simp only [List.length_drop, List.length_take]; rfl)) ?_; (with_reducible refine (elenchusref01_Few.calls a0_0 _ _ l0_1 true _ ?side1 ?side2 A6.out).mono ?_); (case side1 => repeat (first | exact (Kd.C_below HR0_1.out HB.out) | (with_reducible refine Kd.C_alloc ?_ _) | (with_reducible refine Kd.C_drewN ?_ _) | (with_reducible refine Kd.C_drew ?_))); (case side2 => exact HC0_1.out); rintro e w13 ⟨rfl, hb⟩; refine ⟨_, rfl, ?_⟩; have n0_ := Aside0.mk (blk_below (g := gb300) (o := .cells #[.int .i64 a0_0, .slice A0_1 l0_1.length c0_1] 25 (0, 0)) (by (with_reducible repeat (first | refine blk_drewN ?_ _ | refine blk_drew ?_ | refine blk_alloc ?_ _)); exact BK300.out) hb); have n1_ := Aside0.mk (blk_below (g := gb301) (o := .cells #[.int .i64 a1_0, .slice A1_1 l1_1.length c1_1] 25 (0, 0)) (by (with_reducible repeat (first | refine blk_drewN ?_ _ | refine blk_drew ?_ | refine blk_alloc ?_ _)); exact BK301.out) hb); have n2_ := Aside0.mk (below_step (by repeat (first | (with_reducible first | exact HB.out | apply below_alloc | apply pw_below_drewN | apply below_drew1 | refine below_set ?_ GE300.out | refine below_set ?_ GE301.out) | exact HB.out)) hb); clear BK300; clear BK301; clear HB; have BK300 := n0_; have BK301 := n1_; have HB := n2_; clear n0_ n1_ n2_; (try clear hb); (try clear hb2); (try clear hk); (try clear hi); have hcz14_0 : w13.cell? ⟨gb301, 0, none⟩ = some (.int .i64 a1_0) := (blk_cell BK301.out 0).trans rfl; have hcz14_1 : w13.cell? ⟨gb301, 1, none⟩ = some (.slice A1_1 l1_1.length c1_1) := (blk_cell BK301.out 1).trans rfl; have hfz14_0 := blk_frozen BK301.out 0; have hfz14_1 := blk_frozen BK301.out 1) | (go_at_call 26; (with_reducible refine (elenchusref01_Few.calls a1_0 _ _ l1_1 true _ ?side1 ?side2 A8.out).mono ?_); (case side1 => repeat (first | exact (Kd.C_below HR1_1.out HB.out) | (with_reducible refine Kd.C_alloc ?_ _) | (with_reducible refine Kd.C_drewN ?_ _) | (with_reducible refine Kd.C_drew ?_))); (case side2 => exact HC1_1.out); rintro e w15 ⟨rfl, hb⟩; have n0_ := Aside0.mk (blk_below (g := gb300) (o := .cells #[.int .i64 a0_0, .slice A0_1 l0_1.length c0_1] 25 (0, 0)) (by (with_reducible repeat (first | refine blk_drewN ?_ _ | refine blk_drew ?_ | refine blk_alloc ?_ _)); exact BK300.out) hb); have n1_ := Aside0.mk (blk_below (g := gb301) (o := .cells #[.int .i64 a1_0, .slice A1_1 l1_1.length c1_1] 25 (0, 0)) (by (with_reducible repeat (first | refine blk_drewN ?_ _ | refine blk_drew ?_ | refine blk_alloc ?_ _)); exact BK301.out) hb); have n2_ := Aside0.mk (below_step (by repeat (first | (with_reducible first | exact HB.out | apply below_alloc | apply pw_below_drewN | apply below_drew1 | refine below_set ?_ GE300.out | refine below_set ?_ GE301.out) | exact HB.out)) hb); clear BK300; clear BK301; clear HB; have BK300 := n0_; have BK301 := n1_; have HB := n2_; clear n0_ n1_ n2_; (try clear hb); (try clear hb2); (try clear hk); (try clear hi); have hcz16_0 : w15.cell? ⟨gb301, 0, none⟩ = some (.int .i64 a1_0) := (blk_cell BK301.out 0).trans rfl; have hcz16_1 : w15.cell? ⟨gb301, 1, none⟩ = some (.slice A1_1 l1_1.length c1_1) := (blk_cell BK301.out 1).trans rfl; have hfz16_0 := blk_frozen BK301.out 0; have hfz16_1 := blk_frozen BK301.out 1) | (go_at_call 76; (with_reducible refine (elenchusref01_Vars.calls k a1_0 _ _ l1_1 t304 _ ?side1 ?side2 A10.out).mono ?_); (case side1 => repeat (first | exact (Kd.C_below HR1_1.out HB.out) | (with_reducible refine Kd.C_alloc ?_ _) | (with_reducible refine Kd.C_drewN ?_ _) | (with_reducible refine Kd.C_drew ?_))); (case side2 => exact HC1_1.out); rintro e w17 ⟨v305, rfl, ho0, hb⟩; have n0_ := Aside0.mk (Kd.R_lower ho0 (below_size (by repeat (first | (with_reducible first | exact HB.out | apply below_alloc | apply pw_below_drewN | apply below_drew1 | refine below_set ?_ GE300.out | refine below_set ?_ GE301.out) | exact HB.out)))); have n1_ := Aside0.mk (blk_below (g := gb300) (o := .cells #[.int .i64 a0_0, .slice A0_1 l0_1.length c0_1] 25 (0, 0)) (by (with_reducible repeat (first | refine blk_drewN ?_ _ | refine blk_drew ?_ | refine blk_alloc ?_ _)); exact BK300.out) hb); have n2_ := Aside0.mk (blk_below (g := gb301) (o := .cells #[.int .i64 a1_0, .slice A1_1 l1_1.length c1_1] 25 (0, 0)) (by (with_reducible repeat (first | refine blk_drewN ?_ _ | refine blk_drew ?_ | refine blk_alloc ?_ _)); exact BK301.out) hb); have n3_ := Aside0.mk (below_step (by repeat (first | (with_reducible first | exact HB.out | apply below_alloc | apply pw_below_drewN | apply below_drew1 | refine below_set ?_ GE300.out | refine below_set ?_ GE301.out) | exact HB.out)) hb); clear BK300; clear BK301; clear HB; have HO306 := n0_; have BK300 := n1_; have BK301 := n2_; have HB := n3_; clear n0_ n1_ n2_ n3_; (try clear hb); (try clear hb2); (try clear hk); (try clear hi); (try clear ho0); obtain ⟨Ao18, co18, eo18⟩ := Kd.R_slice HO306.out; subst eo18))
        go_meet
        case rel => exact ⟨_, (decide ((t304.length : Int) > 0)), (by first | rfl | (simp; done) | (simp [*]; done)), H', ⟨by first | omega | exact Nat.le_refl _⟩, ⟨by (with_reducible repeat (first | refine blk_drewN ?_ _ | refine blk_drew ?_ | refine blk_alloc ?_ _)); exact BK300.out⟩, ⟨by (with_reducible repeat (first | refine blk_drewN ?_ _ | refine blk_drew ?_ | refine blk_alloc ?_ _)); exact BK301.out⟩, ⟨by repeat (first | (with_reducible first | exact HB.out | apply below_alloc | apply pw_below_drewN | apply below_drew1 | refine below_set ?_ GE300.out | refine below_set ?_ GE301.out) | exact HB.out)⟩⟩
      · replace c9 := Bool.eq_false_iff.mpr c9
        subst c9
        have H1 : (elenchuslaw05_MatchUnifies.j0 k true a0_0 l0_1 a1_0 l1_1) = some r := by rw [if_neg (show ¬ (false = true) by decide)] at H; exact H
        clear H
        have H := H1
        clear H1
        have H' := Aside0.mk H
        clear H
        have hnb19 := NB300_301.out
        have hnc19 := NB301_300.out
        have hcz20_0 : w5.cell? ⟨gb300, 0, none⟩ = some (.int .i64 a0_0) := (blk_cell BK300.out 0).trans rfl
        have hcz20_1 : w5.cell? ⟨gb300, 1, none⟩ = some (.slice A0_1 l0_1.length c0_1) := (blk_cell BK300.out 1).trans rfl
        have hfz20_0 := blk_frozen BK300.out 0
        have hfz20_1 := blk_frozen BK300.out 1
        go_wp2_with (first | ((with_reducible refine gate_callee (f := 26) rfl ?_); refine goesL_ (some 12) rfl rfl Try.func26 (by kernel_rfl) rfl #[.agg #[.int .i64 a0_0, .slice A0_1 l0_1.length c0_1]] rfl (by (try simp only [List.map_toArray, List.map_cons, List.map_nil]); first | done | rfl | (simp only [List.length_drop, List.length_take]; rfl)) ?_; (with_reducible refine (elenchusref01_Few.calls a0_0 _ _ l0_1 true _ ?side1 ?side2 A6.out).mono ?_); (case side1 => repeat (first | exact (Kd.C_below HR0_1.out HB.out) | (with_reducible refine Kd.C_alloc ?_ _) | (with_reducible refine Kd.C_drewN ?_ _) | (with_reducible refine Kd.C_drew ?_))); (case side2 => exact HC0_1.out); rintro e w21 ⟨rfl, hb⟩; refine ⟨_, rfl, ?_⟩; have n0_ := Aside0.mk (blk_below (g := gb300) (o := .cells #[.int .i64 a0_0, .slice A0_1 l0_1.length c0_1] 25 (0, 0)) (by (with_reducible repeat (first | refine blk_drewN ?_ _ | refine blk_drew ?_ | refine blk_alloc ?_ _)); exact BK300.out) hb); have n1_ := Aside0.mk (blk_below (g := gb301) (o := .cells #[.int .i64 a1_0, .slice A1_1 l1_1.length c1_1] 25 (0, 0)) (by (with_reducible repeat (first | refine blk_drewN ?_ _ | refine blk_drew ?_ | refine blk_alloc ?_ _)); exact BK301.out) hb); have n2_ := Aside0.mk (below_step (by repeat (first | (with_reducible first | exact HB.out | apply below_alloc | apply pw_below_drewN | apply below_drew1 | refine below_set ?_ GE300.out | refine below_set ?_ GE301.out) | exact HB.out)) hb); clear BK300; clear BK301; clear HB; have BK300 := n0_; have BK301 := n1_; have HB := n2_; clear n0_ n1_ n2_; (try clear hb); (try clear hb2); (try clear hk); (try clear hi); have hcz22_0 : w21.cell? ⟨gb301, 0, none⟩ = some (.int .i64 a1_0) := (blk_cell BK301.out 0).trans rfl; have hcz22_1 : w21.cell? ⟨gb301, 1, none⟩ = some (.slice A1_1 l1_1.length c1_1) := (blk_cell BK301.out 1).trans rfl; have hfz22_0 := blk_frozen BK301.out 0; have hfz22_1 := blk_frozen BK301.out 1) | (go_at_call 26; (with_reducible refine (elenchusref01_Few.calls a1_0 _ _ l1_1 false _ ?side1 ?side2 A8.out).mono ?_); (case side1 => repeat (first | exact (Kd.C_below HR1_1.out HB.out) | (with_reducible refine Kd.C_alloc ?_ _) | (with_reducible refine Kd.C_drewN ?_ _) | (with_reducible refine Kd.C_drew ?_))); (case side2 => exact HC1_1.out); rintro e w23 ⟨rfl, hb⟩; have n0_ := Aside0.mk (blk_below (g := gb300) (o := .cells #[.int .i64 a0_0, .slice A0_1 l0_1.length c0_1] 25 (0, 0)) (by (with_reducible repeat (first | refine blk_drewN ?_ _ | refine blk_drew ?_ | refine blk_alloc ?_ _)); exact BK300.out) hb); have n1_ := Aside0.mk (blk_below (g := gb301) (o := .cells #[.int .i64 a1_0, .slice A1_1 l1_1.length c1_1] 25 (0, 0)) (by (with_reducible repeat (first | refine blk_drewN ?_ _ | refine blk_drew ?_ | refine blk_alloc ?_ _)); exact BK301.out) hb); have n2_ := Aside0.mk (below_step (by repeat (first | (with_reducible first | exact HB.out | apply below_alloc | apply pw_below_drewN | apply below_drew1 | refine below_set ?_ GE300.out | refine below_set ?_ GE301.out) | exact HB.out)) hb); clear BK300; clear BK301; clear HB; have BK300 := n0_; have BK301 := n1_; have HB := n2_; clear n0_ n1_ n2_; (try clear hb); (try clear hb2); (try clear hk); (try clear hi)))
        go_meet
        case rel => exact ⟨_, (true), (by first | rfl | (simp; done) | (simp [*]; done)), H', ⟨by first | omega | exact Nat.le_refl _⟩, ⟨by (with_reducible repeat (first | refine blk_drewN ?_ _ | refine blk_drew ?_ | refine blk_alloc ?_ _)); exact BK300.out⟩, ⟨by (with_reducible repeat (first | refine blk_drewN ?_ _ | refine blk_drew ?_ | refine blk_alloc ?_ _)); exact BK301.out⟩, ⟨by repeat (first | (with_reducible first | exact HB.out | apply below_alloc | apply pw_below_drewN | apply below_drew1 | refine below_set ?_ GE300.out | refine below_set ?_ GE301.out) | exact HB.out)⟩⟩
    · replace c7 := Bool.eq_false_iff.mpr c7
      subst c7
      have H1 : (elenchuslaw05_MatchUnifies.j0 k true a0_0 l0_1 a1_0 l1_1) = some r := by rw [if_neg (show ¬ (false = true) by decide)] at H; exact H
      clear H
      have H := H1
      clear H1
      have H' := Aside0.mk H
      clear H
      have hnb24 := NB300_301.out
      have hnc24 := NB301_300.out
      have hcz25_0 : w5.cell? ⟨gb300, 0, none⟩ = some (.int .i64 a0_0) := (blk_cell BK300.out 0).trans rfl
      have hcz25_1 : w5.cell? ⟨gb300, 1, none⟩ = some (.slice A0_1 l0_1.length c0_1) := (blk_cell BK300.out 1).trans rfl
      have hfz25_0 := blk_frozen BK300.out 0
      have hfz25_1 := blk_frozen BK300.out 1
      go_wp2_with (first | ((with_reducible refine gate_callee (f := 26) rfl ?_); refine goesL_ (some 12) rfl rfl Try.func26 (by kernel_rfl) rfl #[.agg #[.int .i64 a0_0, .slice A0_1 l0_1.length c0_1]] rfl (by (try simp only [List.map_toArray, List.map_cons, List.map_nil]); first | done | rfl | (simp only [List.length_drop, List.length_take]; rfl)) ?_; (with_reducible refine (elenchusref01_Few.calls a0_0 _ _ l0_1 false _ ?side1 ?side2 A6.out).mono ?_); (case side1 => repeat (first | exact (Kd.C_below HR0_1.out HB.out) | (with_reducible refine Kd.C_alloc ?_ _) | (with_reducible refine Kd.C_drewN ?_ _) | (with_reducible refine Kd.C_drew ?_))); (case side2 => exact HC0_1.out); rintro e w26 ⟨rfl, hb⟩; refine ⟨_, rfl, ?_⟩; have n0_ := Aside0.mk (blk_below (g := gb300) (o := .cells #[.int .i64 a0_0, .slice A0_1 l0_1.length c0_1] 25 (0, 0)) (by (with_reducible repeat (first | refine blk_drewN ?_ _ | refine blk_drew ?_ | refine blk_alloc ?_ _)); exact BK300.out) hb); have n1_ := Aside0.mk (blk_below (g := gb301) (o := .cells #[.int .i64 a1_0, .slice A1_1 l1_1.length c1_1] 25 (0, 0)) (by (with_reducible repeat (first | refine blk_drewN ?_ _ | refine blk_drew ?_ | refine blk_alloc ?_ _)); exact BK301.out) hb); have n2_ := Aside0.mk (below_step (by repeat (first | (with_reducible first | exact HB.out | apply below_alloc | apply pw_below_drewN | apply below_drew1 | refine below_set ?_ GE300.out | refine below_set ?_ GE301.out) | exact HB.out)) hb); clear BK300; clear BK301; clear HB; have BK300 := n0_; have BK301 := n1_; have HB := n2_; clear n0_ n1_ n2_; (try clear hb); (try clear hb2); (try clear hk); (try clear hi)))
      go_meet
      case rel => exact ⟨_, (true), (by first | rfl | (simp; done) | (simp [*]; done)), H', ⟨by first | omega | exact Nat.le_refl _⟩, ⟨by (with_reducible repeat (first | refine blk_drewN ?_ _ | refine blk_drew ?_ | refine blk_alloc ?_ _)); exact BK300.out⟩, ⟨by (with_reducible repeat (first | refine blk_drewN ?_ _ | refine blk_drew ?_ | refine blk_alloc ?_ _)); exact BK301.out⟩, ⟨by repeat (first | (with_reducible first | exact HB.out | apply below_alloc | apply pw_below_drewN | apply below_drew1 | refine below_set ?_ GE300.out | refine below_set ?_ GE301.out) | exact HB.out)⟩⟩
  case rest =>
    clear HC3
    try clear c1
    try clear c2
    try clear p2
    try clear c7
    try clear c9
    try clear c11
    try clear c19
    try clear c22
    try clear c24
    try clear c26
    try clear hcz12_0
    try clear hcz12_1
    try clear hcz14_0
    try clear hcz14_1
    try clear hcz16_0
    try clear hcz16_1
    try clear hcz20_0
    try clear hcz20_1
    try clear hcz22_0
    try clear hcz22_1
    try clear hcz25_0
    try clear hcz25_1
    try clear hfz12_0
    try clear hfz12_1
    try clear hfz14_0
    try clear hfz14_1
    try clear hfz16_0
    try clear hfz16_1
    try clear hfz20_0
    try clear hfz20_1
    try clear hfz22_0
    try clear hfz22_1
    try clear hfz25_0
    try clear hfz25_1
    obtain ⟨kq, x24_2, rfl, HA, HJ2, BK300, BK301, HB⟩ := hcut
    cases kq with
    | zero => exact absurd HA.out (by simp [elenchuslaw05_MatchUnifies.j0])
    | succ kj2 =>
      have H := HA.out
      clear HA
      simp only [elenchuslaw05_MatchUnifies.j0] at H
      by_cases c27 : x24_2 = true
      · subst c27
        have H1 : (some true) = some r := by rw [if_pos rfl] at H; exact H
        clear H
        have H := H1
        clear H1
        obtain rfl := Option.some.inj H
        go_wp2
        go_ret
        exact ⟨by first | rfl | (simp [errW_none, errW_some] <;> rfl) | (simp [*, errW_none, errW_some] <;> rfl), by repeat (first | (with_reducible first | exact HB.out | apply below_alloc | apply pw_below_drewN | apply below_drew1 | refine below_set ?_ GE300.out | refine below_set ?_ GE301.out) | exact HB.out)⟩
      · replace c27 := Bool.eq_false_iff.mpr c27
        subst c27
        have H1 : ((match_Match.f a0_0 l0_1 a1_0 l1_1).bind fun bt307 => ((unify_Mgu.f a0_0 l0_1 a1_0 l1_1).bind fun bt312 => (if bt307.2.2 = 0 then (elenchuslaw05_MatchUnifies.j1 kj2 bt307.1 bt307.2.1 bt307.2.2 bt312.1 bt312.2.1 bt312.2.2 (bt312.2.2 != 0)) else (elenchuslaw05_MatchUnifies.j1 kj2 bt307.1 bt307.2.1 bt307.2.2 bt312.1 bt312.2.1 bt312.2.2 true)))) = some r := by rw [if_neg (show ¬ (false = true) by decide)] at H; exact H
        clear H
        have H := H1
        clear H1
        replace H := Option.bind_eq_some_iff.mp H
        obtain ⟨⟨t307, t310, t311⟩, A280, H⟩ := H
        replace H : ((unify_Mgu.f a0_0 l0_1 a1_0 l1_1).bind fun bt312 => (if t311 = 0 then (elenchuslaw05_MatchUnifies.j1 kj2 t307 t310 t311 bt312.1 bt312.2.1 bt312.2.2 (bt312.2.2 != 0)) else (elenchuslaw05_MatchUnifies.j1 kj2 t307 t310 t311 bt312.1 bt312.2.1 bt312.2.2 true))) = some r := H
        have A28 := Aside0.mk A280
        clear A280
        replace H := Option.bind_eq_some_iff.mp H
        obtain ⟨⟨t312, t315, t316⟩, A290, H⟩ := H
        replace H : (if t311 = 0 then (elenchuslaw05_MatchUnifies.j1 kj2 t307 t310 t311 t312 t315 t316 (t316 != 0)) else (elenchuslaw05_MatchUnifies.j1 kj2 t307 t310 t311 t312 t315 t316 true)) = some r := H
        have A29 := Aside0.mk A290
        clear A290
        have HC30 := Aside0.mk H
        clear H
        have hnb31 := NB300_301.out
        have hnc31 := NB301_300.out
        have hcz32_0 : wc.cell? ⟨gb300, 0, none⟩ = some (.int .i64 a0_0) := (blk_cell BK300.out 0).trans rfl
        have hcz32_1 : wc.cell? ⟨gb300, 1, none⟩ = some (.slice A0_1 l0_1.length c0_1) := (blk_cell BK300.out 1).trans rfl
        have hfz32_0 := blk_frozen BK300.out 0
        have hfz32_1 := blk_frozen BK300.out 1
        have hcz33_0 : wc.cell? ⟨gb301, 0, none⟩ = some (.int .i64 a1_0) := (blk_cell BK301.out 0).trans rfl
        have hcz33_1 : wc.cell? ⟨gb301, 1, none⟩ = some (.slice A1_1 l1_1.length c1_1) := (blk_cell BK301.out 1).trans rfl
        have hfz33_0 := blk_frozen BK301.out 0
        have hfz33_1 := blk_frozen BK301.out 1
        go_upto_region 5 with (first | ((with_reducible refine gate_callee (f := 46) rfl ?_); refine goesL_ (some 28) rfl rfl Try.func46 (by kernel_rfl) rfl #[.agg #[.int .i64 a0_0, .slice A0_1 l0_1.length c0_1], .agg #[.int .i64 a1_0, .slice A1_1 l1_1.length c1_1]] rfl (by (try simp only [List.map_toArray, List.map_cons, List.map_nil]); first | done | rfl | (simp only [List.length_drop, List.length_take]; rfl)) ?_; (with_reducible refine (match_Match.calls a0_0 (fun k_ => k_ < w.heap.size) _ _ l0_1 a1_0 (fun k_ => k_ < w.heap.size) _ _ l1_1 t307 t310 t311 _ ?side1 ?side2 A28.out).mono ?_); (case side1 => exact Kd.V_mk HC0_1.out (Kd.F_below (Kd.C_F k25_heap HR0_1.out) (by repeat (first | (with_reducible first | exact HB.out | apply below_alloc | apply pw_below_drewN | apply below_drew1 | refine below_set ?_ GE300.out | refine below_set ?_ GE301.out) | exact HB.out)))); (case side2 => exact Kd.V_mk HC1_1.out (Kd.F_below (Kd.C_F k25_heap HR1_1.out) (by repeat (first | (with_reducible first | exact HB.out | apply below_alloc | apply pw_below_drewN | apply below_drew1 | refine below_set ?_ GE300.out | refine below_set ?_ GE301.out) | exact HB.out)))); rintro e w34 ⟨v308, rfl, ho0, hb⟩; refine ⟨_, rfl, ?_⟩; have n0_ := Aside0.mk (Kd.V_lower (Kd.V_mono (ok' := fun k_ => k_ ≠ gb300 ∧ k_ ≠ gb301) ho0 (fun k_ hk_ => ⟨Or.elim hk_ (fun hs_ => Or.elim hs_ (fun hs_ => fun e_ => Nat.not_le.2 hs_ (by rw [e_]; exact GW300.out)) (fun hs_ => fun e_ => Nat.not_le.2 hs_ (by rw [e_]; exact GW300.out))) (fun hn_ => (Kd.freshB (g := gb300) (o := .cells #[.int .i64 a0_0, .slice A0_1 l0_1.length c0_1] 25 (0, 0)) (by (with_reducible repeat (first | refine blk_drewN ?_ _ | refine blk_drew ?_ | refine blk_alloc ?_ _)); exact BK300.out) k_ hn_)), Or.elim hk_ (fun hs_ => Or.elim hs_ (fun hs_ => fun e_ => Nat.not_le.2 hs_ (by rw [e_]; exact GW301.out)) (fun hs_ => fun e_ => Nat.not_le.2 hs_ (by rw [e_]; exact GW301.out))) (fun hn_ => (Kd.freshB (g := gb301) (o := .cells #[.int .i64 a1_0, .slice A1_1 l1_1.length c1_1] 25 (0, 0)) (by (with_reducible repeat (first | refine blk_drewN ?_ _ | refine blk_drew ?_ | refine blk_alloc ?_ _)); exact BK301.out) k_ hn_))⟩)) (below_size (by repeat (first | (with_reducible first | exact HB.out | apply below_alloc | apply pw_below_drewN | apply below_drew1 | refine below_set ?_ GE300.out | refine below_set ?_ GE301.out) | exact HB.out)))); have n1_ := Aside0.mk (blk_below (g := gb300) (o := .cells #[.int .i64 a0_0, .slice A0_1 l0_1.length c0_1] 25 (0, 0)) (by (with_reducible repeat (first | refine blk_drewN ?_ _ | refine blk_drew ?_ | refine blk_alloc ?_ _)); exact BK300.out) hb); have n2_ := Aside0.mk (blk_below (g := gb301) (o := .cells #[.int .i64 a1_0, .slice A1_1 l1_1.length c1_1] 25 (0, 0)) (by (with_reducible repeat (first | refine blk_drewN ?_ _ | refine blk_drew ?_ | refine blk_alloc ?_ _)); exact BK301.out) hb); have n3_ := Aside0.mk (below_step (by repeat (first | (with_reducible first | exact HB.out | apply below_alloc | apply pw_below_drewN | apply below_drew1 | refine below_set ?_ GE300.out | refine below_set ?_ GE301.out) | exact HB.out)) hb); clear BK300; clear BK301; clear HB; have HO309 := n0_; have BK300 := n1_; have BK301 := n2_; have HB := n3_; clear n0_ n1_ n2_ n3_; (try clear hb); (try clear hb2); (try clear hk); (try clear hi); (try clear ho0); have hcz35_0 : w34.cell? ⟨gb300, 0, none⟩ = some (.int .i64 a0_0) := (blk_cell BK300.out 0).trans rfl; have hcz35_1 : w34.cell? ⟨gb300, 1, none⟩ = some (.slice A0_1 l0_1.length c0_1) := (blk_cell BK300.out 1).trans rfl; have hfz35_0 := blk_frozen BK300.out 0; have hfz35_1 := blk_frozen BK300.out 1; have hcz36_0 : w34.cell? ⟨gb301, 0, none⟩ = some (.int .i64 a1_0) := (blk_cell BK301.out 0).trans rfl; have hcz36_1 : w34.cell? ⟨gb301, 1, none⟩ = some (.slice A1_1 l1_1.length c1_1) := (blk_cell BK301.out 1).trans rfl; have hfz36_0 := blk_frozen BK301.out 0; have hfz36_1 := blk_frozen BK301.out 1) | ((with_reducible refine gate_callee (f := 55) rfl ?_); refine goesL_ (some 35) rfl rfl Try.func55 (by kernel_rfl) rfl #[.agg #[.int .i64 a0_0, .slice A0_1 l0_1.length c0_1], .agg #[.int .i64 a1_0, .slice A1_1 l1_1.length c1_1]] rfl (by (try simp only [List.map_toArray, List.map_cons, List.map_nil]); first | done | rfl | (simp only [List.length_drop, List.length_take]; rfl)) ?_; (with_reducible refine (unify_Mgu.calls a0_0 (fun k_ => k_ < w.heap.size) _ _ l0_1 a1_0 (fun k_ => k_ < w.heap.size) _ _ l1_1 t312 t315 t316 _ ?side1 ?side2 A29.out).mono ?_); (case side1 => exact Kd.V_mk HC0_1.out (Kd.F_below (Kd.C_F k25_heap HR0_1.out) (by repeat (first | (with_reducible first | exact HB.out | apply below_alloc | apply pw_below_drewN | apply below_drew1 | refine below_set ?_ GE300.out | refine below_set ?_ GE301.out) | exact HB.out)))); (case side2 => exact Kd.V_mk HC1_1.out (Kd.F_below (Kd.C_F k25_heap HR1_1.out) (by repeat (first | (with_reducible first | exact HB.out | apply below_alloc | apply pw_below_drewN | apply below_drew1 | refine below_set ?_ GE300.out | refine below_set ?_ GE301.out) | exact HB.out)))); rintro e w37 ⟨v313, rfl, ho0, hb⟩; refine ⟨_, rfl, ?_⟩; have n0_ := Aside0.mk (Kd.V_below (by (with_reducible repeat (first | apply Kd.V_alloc | apply Kd.V_drewN | apply Kd.V_drew)); exact HO309.out) hb); have n1_ := Aside0.mk (Kd.V_lower (Kd.V_mono (ok' := fun k_ => k_ ≠ gb300 ∧ k_ ≠ gb301) ho0 (fun k_ hk_ => ⟨Or.elim hk_ (fun hs_ => Or.elim hs_ (fun hs_ => fun e_ => Nat.not_le.2 hs_ (by rw [e_]; exact GW300.out)) (fun hs_ => fun e_ => Nat.not_le.2 hs_ (by rw [e_]; exact GW300.out))) (fun hn_ => (Kd.freshB (g := gb300) (o := .cells #[.int .i64 a0_0, .slice A0_1 l0_1.length c0_1] 25 (0, 0)) (by (with_reducible repeat (first | refine blk_drewN ?_ _ | refine blk_drew ?_ | refine blk_alloc ?_ _)); exact BK300.out) k_ hn_)), Or.elim hk_ (fun hs_ => Or.elim hs_ (fun hs_ => fun e_ => Nat.not_le.2 hs_ (by rw [e_]; exact GW301.out)) (fun hs_ => fun e_ => Nat.not_le.2 hs_ (by rw [e_]; exact GW301.out))) (fun hn_ => (Kd.freshB (g := gb301) (o := .cells #[.int .i64 a1_0, .slice A1_1 l1_1.length c1_1] 25 (0, 0)) (by (with_reducible repeat (first | refine blk_drewN ?_ _ | refine blk_drew ?_ | refine blk_alloc ?_ _)); exact BK301.out) k_ hn_))⟩)) (below_size (by repeat (first | (with_reducible first | exact HB.out | apply below_alloc | apply pw_below_drewN | apply below_drew1 | refine below_set ?_ GE300.out | refine below_set ?_ GE301.out) | exact HB.out)))); have n2_ := Aside0.mk (blk_below (g := gb300) (o := .cells #[.int .i64 a0_0, .slice A0_1 l0_1.length c0_1] 25 (0, 0)) (by (with_reducible repeat (first | refine blk_drewN ?_ _ | refine blk_drew ?_ | refine blk_alloc ?_ _)); exact BK300.out) hb); have n3_ := Aside0.mk (blk_below (g := gb301) (o := .cells #[.int .i64 a1_0, .slice A1_1 l1_1.length c1_1] 25 (0, 0)) (by (with_reducible repeat (first | refine blk_drewN ?_ _ | refine blk_drew ?_ | refine blk_alloc ?_ _)); exact BK301.out) hb); have n4_ := Aside0.mk (below_step (by repeat (first | (with_reducible first | exact HB.out | apply below_alloc | apply pw_below_drewN | apply below_drew1 | refine below_set ?_ GE300.out | refine below_set ?_ GE301.out) | exact HB.out)) hb); clear HO309; clear BK300; clear BK301; clear HB; have HO309 := n0_; have HO314 := n1_; have BK300 := n2_; have BK301 := n3_; have HB := n4_; clear n0_ n1_ n2_ n3_ n4_; (try clear hb); (try clear hb2); (try clear hk); (try clear hi); (try clear ho0)))
        (try simp only [Act.put, List.setIfInBounds_toArray, List.set_cons_zero, List.set_cons_succ])
        go_cut [44] (fun v44 wc => ∃ (kq : Nat) (x44_29 : Bool), v44 = .bool x44_29 ∧ Aside0 (elenchuslaw05_MatchUnifies.j1 kq t307 t310 t311 t312 t315 t316 x44_29 = some r) ∧ Aside0 (kq ≤ kj2) ∧ Aside0 (Kd.V k60 60 wc w.heap.size (fun k_ => k_ ≠ gb300 ∧ k_ ≠ gb301) v308 t307) ∧ Aside0 (Kd.V k60 60 wc w.heap.size (fun k_ => k_ ≠ gb300 ∧ k_ ≠ gb301) v313 t312) ∧ Aside0 (wc.heap[gb300]? = some (.cells #[.int .i64 a0_0, (.slice A0_1 l0_1.length c0_1)] 25 (0, 0))) ∧ Aside0 (wc.heap[gb301]? = some (.cells #[.int .i64 a1_0, (.slice A1_1 l1_1.length c1_1)] 25 (0, 0))) ∧ Aside0 (Below w.heap.size w wc))
        case first =>
          have H := HC30.out
          clear HC30
          by_cases c38 : t311 = 0
          · rw [if_pos c38] at H
            have c38b0 : (t311 == 0) = true := beq_iff_eq.mpr c38
            have c38b1 : (t311 != 0) = false := bne_eq_false_iff_eq.mpr c38
            clear c38
            (first | rw [c38b0] | (simp only [i64_w, i32_w]; rw [c38b0]) | skip)
            have H' := Aside0.mk H
            clear H
            go_wp2
            go_meet
            case rel => exact ⟨_, ((t316 != 0)), (by first | rfl | (simp; done) | (simp [*]; done)), H', ⟨by have := HJ2.out; first | omega | exact Nat.le_refl _⟩, ⟨by (with_reducible repeat (first | apply Kd.V_alloc | apply Kd.V_drewN | apply Kd.V_drew)); exact HO309.out⟩, ⟨by (with_reducible repeat (first | apply Kd.V_alloc | apply Kd.V_drewN | apply Kd.V_drew)); exact HO314.out⟩, ⟨by (with_reducible repeat (first | refine blk_drewN ?_ _ | refine blk_drew ?_ | refine blk_alloc ?_ _)); exact BK300.out⟩, ⟨by (with_reducible repeat (first | refine blk_drewN ?_ _ | refine blk_drew ?_ | refine blk_alloc ?_ _)); exact BK301.out⟩, ⟨by repeat (first | (with_reducible first | exact HB.out | apply below_alloc | apply pw_below_drewN | apply below_drew1 | refine below_set ?_ GE300.out | refine below_set ?_ GE301.out) | exact HB.out)⟩⟩
          · rw [if_neg c38] at H
            have c38b0 : (t311 == 0) = false := beq_eq_false_iff_ne.mpr c38
            have c38b1 : (t311 != 0) = true := bne_iff_ne.mpr c38
            (first | rw [c38b0] | (simp only [i64_w, i32_w]; rw [c38b0]) | skip)
            have H' := Aside0.mk H
            clear H
            go_wp2
            go_meet
            case rel => exact ⟨_, (true), (by first | rfl | (simp; done) | (simp [*]; done)), H', ⟨by have := HJ2.out; first | omega | exact Nat.le_refl _⟩, ⟨by (with_reducible repeat (first | apply Kd.V_alloc | apply Kd.V_drewN | apply Kd.V_drew)); exact HO309.out⟩, ⟨by (with_reducible repeat (first | apply Kd.V_alloc | apply Kd.V_drewN | apply Kd.V_drew)); exact HO314.out⟩, ⟨by (with_reducible repeat (first | refine blk_drewN ?_ _ | refine blk_drew ?_ | refine blk_alloc ?_ _)); exact BK300.out⟩, ⟨by (with_reducible repeat (first | refine blk_drewN ?_ _ | refine blk_drew ?_ | refine blk_alloc ?_ _)); exact BK301.out⟩, ⟨by repeat (first | (with_reducible first | exact HB.out | apply below_alloc | apply pw_below_drewN | apply below_drew1 | refine below_set ?_ GE300.out | refine below_set ?_ GE301.out) | exact HB.out)⟩⟩
        case rest =>
          clear HC30
          try clear c1
          try clear c2
          try clear p2
          try clear c3
          try clear c4
          try clear c5
          try clear c7
          try clear c9
          try clear c11
          try clear c19
          try clear c22
          try clear c24
          try clear c26
          try clear c27
          try clear c31
          try clear c38
          try clear c38b0
          try clear c38b1
          try clear hcz12_0
          try clear hcz12_1
          try clear hcz14_0
          try clear hcz14_1
          try clear hcz16_0
          try clear hcz16_1
          try clear hcz20_0
          try clear hcz20_1
          try clear hcz22_0
          try clear hcz22_1
          try clear hcz25_0
          try clear hcz25_1
          try clear hcz32_0
          try clear hcz32_1
          try clear hcz33_0
          try clear hcz33_1
          try clear hcz35_0
          try clear hcz35_1
          try clear hcz36_0
          try clear hcz36_1
          try clear hfz12_0
          try clear hfz12_1
          try clear hfz14_0
          try clear hfz14_1
          try clear hfz16_0
          try clear hfz16_1
          try clear hfz20_0
          try clear hfz20_1
          try clear hfz22_0
          try clear hfz22_1
          try clear hfz25_0
          try clear hfz25_1
          try clear hfz32_0
          try clear hfz32_1
          try clear hfz33_0
          try clear hfz33_1
          try clear hfz35_0
          try clear hfz35_1
          try clear hfz36_0
          try clear hfz36_1
          try clear p2
          obtain ⟨kq, x44_29, rfl, HA, HJ29, HO_5, HO_8, BK300, BK301, HB⟩ := hcut
          cases kq with
          | zero => exact absurd HA.out (by simp [elenchuslaw05_MatchUnifies.j1])
          | succ kj29 =>
            have H := HA.out
            clear HA
            simp only [elenchuslaw05_MatchUnifies.j1] at H
            by_cases c39 : x44_29 = true
            · subst c39
              have H1 : ((elenchuslaw05_awake.f).bind fun t317 => (if t317 = true then (some (t311 == t316)) else (some false))) = some r := by rw [if_pos rfl] at H; exact H
              clear H
              have H := H1
              clear H1
              replace H := Option.bind_eq_some_iff.mp H
              obtain ⟨t317, A400, H⟩ := H
              replace H : (if t317 = true then (some (t311 == t316)) else (some false)) = some r := H
              have A40 := Aside0.mk A400
              clear A400
              by_cases c41 : t317 = true
              · subst c41
                have H1 : (some (t311 == t316)) = some r := by rw [if_pos rfl] at H; exact H
                clear H
                have H := H1
                clear H1
                obtain rfl := Option.some.inj H
                go_wp2_with (first | ((with_reducible refine gate_callee (f := 44) rfl ?_); refine goesL_ (some 45) rfl rfl Try.func44 (by kernel_rfl) rfl #[] rfl (by (try simp only [List.map_toArray, List.map_cons, List.map_nil]); first | done | rfl | (simp only [List.length_drop, List.length_take]; rfl)) ?_; (with_reducible refine (elenchuslaw05_awake.calls  true _ A40.out).mono ?_); rintro e w42 ⟨rfl, hb⟩; refine ⟨_, rfl, ?_⟩; have n0_ := Aside0.mk (Kd.V_below (by (with_reducible repeat (first | apply Kd.V_alloc | apply Kd.V_drewN | apply Kd.V_drew)); exact HO_5.out) hb); have n1_ := Aside0.mk (Kd.V_below (by (with_reducible repeat (first | apply Kd.V_alloc | apply Kd.V_drewN | apply Kd.V_drew)); exact HO_8.out) hb); have n2_ := Aside0.mk (blk_below (g := gb300) (o := .cells #[.int .i64 a0_0, .slice A0_1 l0_1.length c0_1] 25 (0, 0)) (by (with_reducible repeat (first | refine blk_drewN ?_ _ | refine blk_drew ?_ | refine blk_alloc ?_ _)); exact BK300.out) hb); have n3_ := Aside0.mk (blk_below (g := gb301) (o := .cells #[.int .i64 a1_0, .slice A1_1 l1_1.length c1_1] 25 (0, 0)) (by (with_reducible repeat (first | refine blk_drewN ?_ _ | refine blk_drew ?_ | refine blk_alloc ?_ _)); exact BK301.out) hb); have n4_ := Aside0.mk (below_step (by repeat (first | (with_reducible first | exact HB.out | apply below_alloc | apply pw_below_drewN | apply below_drew1 | refine below_set ?_ GE300.out | refine below_set ?_ GE301.out) | exact HB.out)) hb); clear HO_5; clear HO_8; clear BK300; clear BK301; clear HB; have HO_5 := n0_; have HO_8 := n1_; have BK300 := n2_; have BK301 := n3_; have HB := n4_; clear n0_ n1_ n2_ n3_ n4_; (try clear hb); (try clear hb2); (try clear hk); (try clear hi)))
                go_ret
                exact ⟨by first | rfl | (simp [errW_none, errW_some] <;> rfl) | (simp [*, errW_none, errW_some] <;> rfl), by repeat (first | (with_reducible first | exact HB.out | apply below_alloc | apply pw_below_drewN | apply below_drew1 | refine below_set ?_ GE300.out | refine below_set ?_ GE301.out) | exact HB.out)⟩
              · replace c41 := Bool.eq_false_iff.mpr c41
                subst c41
                have H1 : (some false) = some r := by rw [if_neg (show ¬ (false = true) by decide)] at H; exact H
                clear H
                have H := H1
                clear H1
                obtain rfl := Option.some.inj H
                go_wp2_with (first | ((with_reducible refine gate_callee (f := 44) rfl ?_); refine goesL_ (some 45) rfl rfl Try.func44 (by kernel_rfl) rfl #[] rfl (by (try simp only [List.map_toArray, List.map_cons, List.map_nil]); first | done | rfl | (simp only [List.length_drop, List.length_take]; rfl)) ?_; (with_reducible refine (elenchuslaw05_awake.calls  false _ A40.out).mono ?_); rintro e w43 ⟨rfl, hb⟩; refine ⟨_, rfl, ?_⟩; have n0_ := Aside0.mk (Kd.V_below (by (with_reducible repeat (first | apply Kd.V_alloc | apply Kd.V_drewN | apply Kd.V_drew)); exact HO_5.out) hb); have n1_ := Aside0.mk (Kd.V_below (by (with_reducible repeat (first | apply Kd.V_alloc | apply Kd.V_drewN | apply Kd.V_drew)); exact HO_8.out) hb); have n2_ := Aside0.mk (blk_below (g := gb300) (o := .cells #[.int .i64 a0_0, .slice A0_1 l0_1.length c0_1] 25 (0, 0)) (by (with_reducible repeat (first | refine blk_drewN ?_ _ | refine blk_drew ?_ | refine blk_alloc ?_ _)); exact BK300.out) hb); have n3_ := Aside0.mk (blk_below (g := gb301) (o := .cells #[.int .i64 a1_0, .slice A1_1 l1_1.length c1_1] 25 (0, 0)) (by (with_reducible repeat (first | refine blk_drewN ?_ _ | refine blk_drew ?_ | refine blk_alloc ?_ _)); exact BK301.out) hb); have n4_ := Aside0.mk (below_step (by repeat (first | (with_reducible first | exact HB.out | apply below_alloc | apply pw_below_drewN | apply below_drew1 | refine below_set ?_ GE300.out | refine below_set ?_ GE301.out) | exact HB.out)) hb); clear HO_5; clear HO_8; clear BK300; clear BK301; clear HB; have HO_5 := n0_; have HO_8 := n1_; have BK300 := n2_; have BK301 := n3_; have HB := n4_; clear n0_ n1_ n2_ n3_ n4_; (try clear hb); (try clear hb2); (try clear hk); (try clear hi)))
                go_ret
                exact ⟨by first | rfl | (simp [errW_none, errW_some] <;> rfl) | (simp [*, errW_none, errW_some] <;> rfl), by repeat (first | (with_reducible first | exact HB.out | apply below_alloc | apply pw_below_drewN | apply below_drew1 | refine below_set ?_ GE300.out | refine below_set ?_ GE301.out) | exact HB.out)⟩
            · replace c39 := Bool.eq_false_iff.mpr c39
              subst c39
              have H1 : ((elenchuslaw05_awake.f).bind fun t318 => (if t318 = true then (if (t310 == t315) = true then ((elenchusref03_Same.f t307 t312).bind fun t319 => (some t319)) else (some false)) else (some false))) = some r := by rw [if_neg (show ¬ (false = true) by decide)] at H; exact H
              clear H
              have H := H1
              clear H1
              replace H := Option.bind_eq_some_iff.mp H
              obtain ⟨t318, A440, H⟩ := H
              replace H : (if t318 = true then (if (t310 == t315) = true then ((elenchusref03_Same.f t307 t312).bind fun t319 => (some t319)) else (some false)) else (some false)) = some r := H
              have A44 := Aside0.mk A440
              clear A440
              by_cases c45 : t318 = true
              · subst c45
                have H1 : (if (t310 == t315) = true then ((elenchusref03_Same.f t307 t312).bind fun t319 => (some t319)) else (some false)) = some r := by rw [if_pos rfl] at H; exact H
                clear H
                have H := H1
                clear H1
                by_cases c46 : (t310 == t315) = true
                · rw [if_pos c46] at H
                  have c46b0 : (t310 == t315) = true := c46
                  (try (have c46b1 : decide (t310 = t315) = true := by simpa using c46))
                  (try (have c46b2 : (t310 == t315) = true := by simpa using c46))
                  clear c46
                  replace H := Option.bind_eq_some_iff.mp H
                  obtain ⟨t319, A470, H⟩ := H
                  replace H : (some t319) = some r := H
                  have A47 := Aside0.mk A470
                  clear A470
                  obtain rfl := Option.some.inj H
                  go_wp2_with (first | ((with_reducible refine gate_callee (f := 44) rfl ?_); refine goesL_ (some 51) rfl rfl Try.func44 (by kernel_rfl) rfl #[] rfl (by (try simp only [List.map_toArray, List.map_cons, List.map_nil]); first | done | rfl | (simp only [List.length_drop, List.length_take]; rfl)) ?_; (with_reducible refine (elenchuslaw05_awake.calls  true _ A44.out).mono ?_); rintro e w48 ⟨rfl, hb⟩; refine ⟨_, rfl, ?_⟩; have n0_ := Aside0.mk (Kd.V_below (by (with_reducible repeat (first | apply Kd.V_alloc | apply Kd.V_drewN | apply Kd.V_drew)); exact HO_5.out) hb); have n1_ := Aside0.mk (Kd.V_below (by (with_reducible repeat (first | apply Kd.V_alloc | apply Kd.V_drewN | apply Kd.V_drew)); exact HO_8.out) hb); have n2_ := Aside0.mk (blk_below (g := gb300) (o := .cells #[.int .i64 a0_0, .slice A0_1 l0_1.length c0_1] 25 (0, 0)) (by (with_reducible repeat (first | refine blk_drewN ?_ _ | refine blk_drew ?_ | refine blk_alloc ?_ _)); exact BK300.out) hb); have n3_ := Aside0.mk (blk_below (g := gb301) (o := .cells #[.int .i64 a1_0, .slice A1_1 l1_1.length c1_1] 25 (0, 0)) (by (with_reducible repeat (first | refine blk_drewN ?_ _ | refine blk_drew ?_ | refine blk_alloc ?_ _)); exact BK301.out) hb); have n4_ := Aside0.mk (below_step (by repeat (first | (with_reducible first | exact HB.out | apply below_alloc | apply pw_below_drewN | apply below_drew1 | refine below_set ?_ GE300.out | refine below_set ?_ GE301.out) | exact HB.out)) hb); clear HO_5; clear HO_8; clear BK300; clear BK301; clear HB; have HO_5 := n0_; have HO_8 := n1_; have BK300 := n2_; have BK301 := n3_; have HB := n4_; clear n0_ n1_ n2_ n3_ n4_; (try clear hb); (try clear hb2); (try clear hk); (try clear hi); obtain ⟨Ao49, co49, eo49⟩ := Kd.V_slice HO_5.out; subst eo49; obtain ⟨Ao50, co50, eo50⟩ := Kd.V_slice HO_8.out; subst eo50) | (go_at_call 45; (with_reducible refine (elenchusref03_Same.calls _ _ t307 _ _ t312 t319 _ ?side1 ?side2 ?side3 ?side4 A47.out).mono ?_); (case side1 => repeat (first | exact (Kd.V_reads' HO_5.out).2.2 | (with_reducible refine Kd.C_alloc ?_ _) | (with_reducible refine Kd.C_drewN ?_ _) | (with_reducible refine Kd.C_drew ?_))); (case side2 => exact (Kd.V_reads' HO_5.out).2.1); (case side3 => repeat (first | exact (Kd.V_reads' HO_8.out).2.2 | (with_reducible refine Kd.C_alloc ?_ _) | (with_reducible refine Kd.C_drewN ?_ _) | (with_reducible refine Kd.C_drew ?_))); (case side4 => exact (Kd.V_reads' HO_8.out).2.1); rintro e w51 ⟨rfl, hb⟩; have n0_ := Aside0.mk (Kd.V_below (by (with_reducible repeat (first | apply Kd.V_alloc | apply Kd.V_drewN | apply Kd.V_drew)); exact HO_5.out) hb); have n1_ := Aside0.mk (Kd.V_below (by (with_reducible repeat (first | apply Kd.V_alloc | apply Kd.V_drewN | apply Kd.V_drew)); exact HO_8.out) hb); have n2_ := Aside0.mk (blk_below (g := gb300) (o := .cells #[.int .i64 a0_0, .slice A0_1 l0_1.length c0_1] 25 (0, 0)) (by (with_reducible repeat (first | refine blk_drewN ?_ _ | refine blk_drew ?_ | refine blk_alloc ?_ _)); exact BK300.out) hb); have n3_ := Aside0.mk (blk_below (g := gb301) (o := .cells #[.int .i64 a1_0, .slice A1_1 l1_1.length c1_1] 25 (0, 0)) (by (with_reducible repeat (first | refine blk_drewN ?_ _ | refine blk_drew ?_ | refine blk_alloc ?_ _)); exact BK301.out) hb); have n4_ := Aside0.mk (below_step (by repeat (first | (with_reducible first | exact HB.out | apply below_alloc | apply pw_below_drewN | apply below_drew1 | refine below_set ?_ GE300.out | refine below_set ?_ GE301.out) | exact HB.out)) hb); clear HO_5; clear HO_8; clear BK300; clear BK301; clear HB; have HO_5 := n0_; have HO_8 := n1_; have BK300 := n2_; have BK301 := n3_; have HB := n4_; clear n0_ n1_ n2_ n3_ n4_; (try clear hb); (try clear hb2); (try clear hk); (try clear hi)))
                  go_ret
                  exact ⟨by first | rfl | (simp [errW_none, errW_some] <;> rfl) | (simp [*, errW_none, errW_some] <;> rfl), by repeat (first | (with_reducible first | exact HB.out | apply below_alloc | apply pw_below_drewN | apply below_drew1 | refine below_set ?_ GE300.out | refine below_set ?_ GE301.out) | exact HB.out)⟩
                · rw [if_neg c46] at H
                  have c46b0 : (t310 == t315) = false := by simpa using c46
                  (try (have c46b1 : decide (t310 = t315) = false := by simpa using c46))
                  (try (have c46b2 : (t310 == t315) = false := by simpa using c46))
                  (try (have c46b3 : ¬ (t310 = t315) := by simpa using c46))
                  clear c46
                  obtain rfl := Option.some.inj H
                  go_wp2_with (first | ((with_reducible refine gate_callee (f := 44) rfl ?_); refine goesL_ (some 51) rfl rfl Try.func44 (by kernel_rfl) rfl #[] rfl (by (try simp only [List.map_toArray, List.map_cons, List.map_nil]); first | done | rfl | (simp only [List.length_drop, List.length_take]; rfl)) ?_; (with_reducible refine (elenchuslaw05_awake.calls  true _ A44.out).mono ?_); rintro e w52 ⟨rfl, hb⟩; refine ⟨_, rfl, ?_⟩; have n0_ := Aside0.mk (Kd.V_below (by (with_reducible repeat (first | apply Kd.V_alloc | apply Kd.V_drewN | apply Kd.V_drew)); exact HO_5.out) hb); have n1_ := Aside0.mk (Kd.V_below (by (with_reducible repeat (first | apply Kd.V_alloc | apply Kd.V_drewN | apply Kd.V_drew)); exact HO_8.out) hb); have n2_ := Aside0.mk (blk_below (g := gb300) (o := .cells #[.int .i64 a0_0, .slice A0_1 l0_1.length c0_1] 25 (0, 0)) (by (with_reducible repeat (first | refine blk_drewN ?_ _ | refine blk_drew ?_ | refine blk_alloc ?_ _)); exact BK300.out) hb); have n3_ := Aside0.mk (blk_below (g := gb301) (o := .cells #[.int .i64 a1_0, .slice A1_1 l1_1.length c1_1] 25 (0, 0)) (by (with_reducible repeat (first | refine blk_drewN ?_ _ | refine blk_drew ?_ | refine blk_alloc ?_ _)); exact BK301.out) hb); have n4_ := Aside0.mk (below_step (by repeat (first | (with_reducible first | exact HB.out | apply below_alloc | apply pw_below_drewN | apply below_drew1 | refine below_set ?_ GE300.out | refine below_set ?_ GE301.out) | exact HB.out)) hb); clear HO_5; clear HO_8; clear BK300; clear BK301; clear HB; have HO_5 := n0_; have HO_8 := n1_; have BK300 := n2_; have BK301 := n3_; have HB := n4_; clear n0_ n1_ n2_ n3_ n4_; (try clear hb); (try clear hb2); (try clear hk); (try clear hi)))
                  go_ret
                  exact ⟨by first | rfl | (simp [errW_none, errW_some] <;> rfl) | (simp [*, errW_none, errW_some] <;> rfl), by repeat (first | (with_reducible first | exact HB.out | apply below_alloc | apply pw_below_drewN | apply below_drew1 | refine below_set ?_ GE300.out | refine below_set ?_ GE301.out) | exact HB.out)⟩
              · replace c45 := Bool.eq_false_iff.mpr c45
                subst c45
                have H1 : (some false) = some r := by rw [if_neg (show ¬ (false = true) by decide)] at H; exact H
                clear H
                have H := H1
                clear H1
                obtain rfl := Option.some.inj H
                go_wp2_with (first | ((with_reducible refine gate_callee (f := 44) rfl ?_); refine goesL_ (some 51) rfl rfl Try.func44 (by kernel_rfl) rfl #[] rfl (by (try simp only [List.map_toArray, List.map_cons, List.map_nil]); first | done | rfl | (simp only [List.length_drop, List.length_take]; rfl)) ?_; (with_reducible refine (elenchuslaw05_awake.calls  false _ A44.out).mono ?_); rintro e w53 ⟨rfl, hb⟩; refine ⟨_, rfl, ?_⟩; have n0_ := Aside0.mk (Kd.V_below (by (with_reducible repeat (first | apply Kd.V_alloc | apply Kd.V_drewN | apply Kd.V_drew)); exact HO_5.out) hb); have n1_ := Aside0.mk (Kd.V_below (by (with_reducible repeat (first | apply Kd.V_alloc | apply Kd.V_drewN | apply Kd.V_drew)); exact HO_8.out) hb); have n2_ := Aside0.mk (blk_below (g := gb300) (o := .cells #[.int .i64 a0_0, .slice A0_1 l0_1.length c0_1] 25 (0, 0)) (by (with_reducible repeat (first | refine blk_drewN ?_ _ | refine blk_drew ?_ | refine blk_alloc ?_ _)); exact BK300.out) hb); have n3_ := Aside0.mk (blk_below (g := gb301) (o := .cells #[.int .i64 a1_0, .slice A1_1 l1_1.length c1_1] 25 (0, 0)) (by (with_reducible repeat (first | refine blk_drewN ?_ _ | refine blk_drew ?_ | refine blk_alloc ?_ _)); exact BK301.out) hb); have n4_ := Aside0.mk (below_step (by repeat (first | (with_reducible first | exact HB.out | apply below_alloc | apply pw_below_drewN | apply below_drew1 | refine below_set ?_ GE300.out | refine below_set ?_ GE301.out) | exact HB.out)) hb); clear HO_5; clear HO_8; clear BK300; clear BK301; clear HB; have HO_5 := n0_; have HO_8 := n1_; have BK300 := n2_; have BK301 := n3_; have HB := n4_; clear n0_ n1_ n2_ n3_ n4_; (try clear hb); (try clear hb2); (try clear hk); (try clear hi)))
                go_ret
                exact ⟨by first | rfl | (simp [errW_none, errW_some] <;> rfl) | (simp [*, errW_none, errW_some] <;> rfl), by repeat (first | (with_reducible first | exact HB.out | apply below_alloc | apply pw_below_drewN | apply below_drew1 | refine below_set ?_ GE300.out | refine below_set ?_ GE301.out) | exact HB.out)⟩
end Go.Proofs.Ythplndalbfcbbaa.PA
namespace Go.Proofs.Ythplndalbfcbbaa.PA
open Go.RowKit Go.Proofs.YthplndalbfcbbaaW.PrintWords Go.Proofs.YthplndalbfcbbaaW.PrintLast Go.Proofs.YthplndalbfcbbaaW.PrintMore
attribute [local go_sem] max2_int min2_int max_two min_two max_three min_three max_four min_four   -- for this text's walks alone
set_option linter.unusedVariables false
set_option linter.unusedSimpArgs false
end Go.Proofs.Ythplndalbfcbbaa.PA
namespace Go.Proofs.Ythplndalbfcbbaa.PA
open Go.RowKit Go.Proofs.YthplndalbfcbbaaW.PrintWords Go.Proofs.YthplndalbfcbbaaW.PrintLast Go.Proofs.YthplndalbfcbbaaW.PrintMore
attribute [local go_sem] max2_int min2_int max_two min_two max_three min_three max_four min_four   -- for this text's walks alone
set_option linter.unusedVariables false
set_option linter.unusedSimpArgs false
end Go.Proofs.Ythplndalbfcbbaa.PA
namespace Go.Proofs.Ythplndalbfcbbaa.PA
open Go.RowKit Go.Proofs.YthplndalbfcbbaaW.PrintWords Go.Proofs.YthplndalbfcbbaaW.PrintLast Go.Proofs.YthplndalbfcbbaaW.PrintMore
attribute [local go_sem] max2_int min2_int max_two min_two max_three min_three max_four min_four   -- for this text's walks alone
set_option linter.unusedVariables false
set_option linter.unusedSimpArgs false
end Go.Proofs.Ythplndalbfcbbaa.PA
namespace Go.Proofs.Ythplndalbfcbbaa.PA
open Go.RowKit Go.Proofs.YthplndalbfcbbaaW.PrintWords Go.Proofs.YthplndalbfcbbaaW.PrintLast Go.Proofs.YthplndalbfcbbaaW.PrintMore
attribute [local go_sem] max2_int min2_int max_two min_two max_three min_three max_four min_four   -- for this text's walks alone
set_option linter.unusedVariables false
set_option linter.unusedSimpArgs false
end Go.Proofs.Ythplndalbfcbbaa.PA
namespace Go.Proofs.Ythplndalbfcbbaa.PA
open Go.RowKit Go.Proofs.YthplndalbfcbbaaW.PrintWords Go.Proofs.YthplndalbfcbbaaW.PrintLast Go.Proofs.YthplndalbfcbbaaW.PrintMore
attribute [local go_sem] max2_int min2_int max_two min_two max_three min_three max_four min_four   -- for this text's walks alone
set_option linter.unusedVariables false
set_option linter.unusedSimpArgs false
end Go.Proofs.Ythplndalbfcbbaa.PA
namespace Go.Proofs.Ythplndalbfcbbaa.PA
open Go.RowKit Go.Proofs.YthplndalbfcbbaaW.PrintWords Go.Proofs.YthplndalbfcbbaaW.PrintLast Go.Proofs.YthplndalbfcbbaaW.PrintMore
attribute [local go_sem] max2_int min2_int max_two min_two max_three min_three max_four min_four   -- for this text's walks alone
set_option linter.unusedVariables false
set_option linter.unusedSimpArgs false
end Go.Proofs.Ythplndalbfcbbaa.PA
namespace Go.Proofs.Ythplndalbfcbbaa.PA
open Go.RowKit Go.Proofs.YthplndalbfcbbaaW.PrintWords Go.Proofs.YthplndalbfcbbaaW.PrintLast Go.Proofs.YthplndalbfcbbaaW.PrintMore
attribute [local go_sem] max2_int min2_int max_two min_two max_three min_three max_four min_four   -- for this text's walks alone
set_option linter.unusedVariables false
set_option linter.unusedSimpArgs false
end Go.Proofs.Ythplndalbfcbbaa.PA
namespace Go.Proofs.Ythplndalbfcbbaa.PA
open Go.RowKit Go.Proofs.YthplndalbfcbbaaW.PrintWords Go.Proofs.YthplndalbfcbbaaW.PrintLast Go.Proofs.YthplndalbfcbbaaW.PrintMore
attribute [local go_sem] max2_int min2_int max_two min_two max_three min_three max_four min_four   -- for this text's walks alone
set_option linter.unusedVariables false
set_option linter.unusedSimpArgs false
end Go.Proofs.Ythplndalbfcbbaa.PA
namespace Go.Proofs.Ythplndalbfcbbaa.PA
open Go.RowKit Go.Proofs.YthplndalbfcbbaaW.PrintWords Go.Proofs.YthplndalbfcbbaaW.PrintLast Go.Proofs.YthplndalbfcbbaaW.PrintMore
attribute [local go_sem] max2_int min2_int max_two min_two max_three min_three max_four min_four   -- for this text's walks alone
set_option linter.unusedVariables false
set_option linter.unusedSimpArgs false
end Go.Proofs.Ythplndalbfcbbaa.PA
namespace Go.Proofs.Ythplndalbfcbbaa.PA
open Go.RowKit Go.Proofs.YthplndalbfcbbaaW.PrintWords Go.Proofs.YthplndalbfcbbaaW.PrintLast Go.Proofs.YthplndalbfcbbaaW.PrintMore
attribute [local go_sem] max2_int min2_int max_two min_two max_three min_three max_four min_four   -- for this text's walks alone
set_option linter.unusedVariables false
set_option linter.unusedSimpArgs false
end Go.Proofs.Ythplndalbfcbbaa.PA
namespace Go.Proofs.Ythplndalbfcbbaa.PA
open Go.RowKit Go.Proofs.YthplndalbfcbbaaW.PrintWords Go.Proofs.YthplndalbfcbbaaW.PrintLast Go.Proofs.YthplndalbfcbbaaW.PrintMore
attribute [local go_sem] max2_int min2_int max_two min_two max_three min_three max_four min_four   -- for this text's walks alone
set_option linter.unusedVariables false
set_option linter.unusedSimpArgs false
end Go.Proofs.Ythplndalbfcbbaa.PA
namespace Go.Proofs.Ythplndalbfcbbaa.PA
open Go.RowKit Go.Proofs.YthplndalbfcbbaaW.PrintWords Go.Proofs.YthplndalbfcbbaaW.PrintLast Go.Proofs.YthplndalbfcbbaaW.PrintMore
attribute [local go_sem] max2_int min2_int max_two min_two max_three min_three max_four min_four   -- for this text's walks alone
set_option linter.unusedVariables false
set_option linter.unusedSimpArgs false
end Go.Proofs.Ythplndalbfcbbaa.PA
namespace Go.Proofs.Ythplndalbfcbbaa.PA
open Go.RowKit Go.Proofs.YthplndalbfcbbaaW.PrintWords Go.Proofs.YthplndalbfcbbaaW.PrintLast Go.Proofs.YthplndalbfcbbaaW.PrintMore
attribute [local go_sem] max2_int min2_int max_two min_two max_three min_three max_four min_four   -- for this text's walks alone
set_option linter.unusedVariables false
set_option linter.unusedSimpArgs false
end Go.Proofs.Ythplndalbfcbbaa.PA
namespace Go.Proofs.Ythplndalbfcbbaa.PA
open Go.RowKit Go.Proofs.YthplndalbfcbbaaW.PrintWords Go.Proofs.YthplndalbfcbbaaW.PrintLast Go.Proofs.YthplndalbfcbbaaW.PrintMore
attribute [local go_sem] max2_int min2_int max_two min_two max_three min_three max_four min_four   -- for this text's walks alone
set_option linter.unusedVariables false
set_option linter.unusedSimpArgs false
end Go.Proofs.Ythplndalbfcbbaa.PA
namespace Go.Proofs.Ythplndalbfcbbaa.PA
open Go.RowKit Go.Proofs.YthplndalbfcbbaaW.PrintWords Go.Proofs.YthplndalbfcbbaaW.PrintLast Go.Proofs.YthplndalbfcbbaaW.PrintMore
attribute [local go_sem] max2_int min2_int max_two min_two max_three min_three max_four min_four   -- for this text's walks alone
set_option linter.unusedVariables false
set_option linter.unusedSimpArgs false
end Go.Proofs.Ythplndalbfcbbaa.PA
namespace Go.Proofs.Ythplndalbfcbbaa.PA
open Go.RowKit Go.Proofs.YthplndalbfcbbaaW.PrintWords Go.Proofs.YthplndalbfcbbaaW.PrintLast Go.Proofs.YthplndalbfcbbaaW.PrintMore
attribute [local go_sem] max2_int min2_int max_two min_two max_three min_three max_four min_four   -- for this text's walks alone
set_option linter.unusedVariables false
set_option linter.unusedSimpArgs false
end Go.Proofs.Ythplndalbfcbbaa.PA
set_option linter.unusedSimpArgs false
set_option linter.unusedVariables false
namespace Go.Proofs.Ythplndalbfcbbaa
open Go.RowKit Go.Proofs.YthplndalbfcbbaaW.PrintWords
theorem ofS_mk (t : Tm) : ofS ⟨t.h, toSL t.args⟩ = t := by cases t; simp only [ofS, Tm.h, Tm.args, ofSL_toSL]
theorem wrap_next {i : Int} (h0 : 0 ≤ i) (h1 : i ≤ 9223372036854775806) : wrap64 (i + 1) = i + 1 := by unfold wrap64; omega
theorem rd_nat (l : List Int) (i : Nat) (h : i < l.length) : rd l (i : Int) = l[i] := by simp [rd, h]
theorem rdT_nat (l : List Tm) (i : Nat) (h : i < l.length) : PA.rd_T25 (toSL l) (i : Int) = toS l[i] := by simp [PA.rd_T25, toSL_map, h]
theorem match_pure {p t : Tm} (hp : p.size ≤ 1000000000) (ht : t.size ≤ 1000000000) : PA.match_Match.f p.h (toSL p.args) t.h (toSL t.args) = some (toBL (matchT [p] [t]).1, (matchT [p] [t]).2.1, (matchT [p] [t]).2.2) := by
  unfold PA.match_Match.f
  rw [ofS_mk, ofS_mk, if_pos ⟨hp, ht⟩]
end Go.Proofs.Ythplndalbfcbbaa
set_option linter.unusedSimpArgs false
set_option linter.unusedVariables false
namespace Go.Proofs.Ythplndalbfcbbaa
open Go.RowKit Go.Proofs.YthplndalbfcbbaaW.PrintWords
def Ev {α : Type} (f : Nat → Option α) (r : α) : Prop := ∃ k0, ∀ k, k0 ≤ k → f k = some r
theorem Ev.step {α : Type} {f g : Nat → Option α} {r : α} (h : Ev f r) (e : ∀ k, g (k + 1) = f k) : Ev g r := by
  obtain ⟨k0, h⟩ := h
  refine ⟨k0 + 1, fun k hk => ?_⟩
  obtain ⟨k, rfl⟩ : ∃ m, k = m + 1 := ⟨k - 1, by omega⟩
  rw [e, h k (by omega)]
theorem Ev.const {α : Type} {r : α} : Ev (fun _ => some r) r := ⟨0, fun _ _ => rfl⟩
theorem Ev.bind {α β : Type} {f : Nat → Option α} {g : Nat → α → Option β} {a : α} {r : β} (h : Ev f a) (k : Ev (fun n => g n a) r) : Ev (fun n => (f n).bind (g n)) r := by
  obtain ⟨k1, h⟩ := h
  obtain ⟨k2, k⟩ := k
  exact ⟨max k1 k2, fun n hn => by simp only [h n (by omega), Option.bind_some, k n (by omega)]⟩
theorem Ev.congr {α : Type} {f g : Nat → Option α} {r : α} (h : Ev f r) (e : ∀ k, g k = f k) : Ev g r := by
  obtain ⟨k0, h⟩ := h
  exact ⟨k0, fun k hk => by rw [e, h k hk]⟩
theorem step_fold (v : Int) : ∀ (L acc : List Int), v ∈ L → v ∈ L.foldl numStep acc
  | [], _, h => by simp at h
  | x :: L, acc, h => by
    rw [List.foldl_cons]
    have hm : ∀ (L acc : List Int), v ∈ acc → v ∈ L.foldl numStep acc := by
      intro L
      induction L with
      | nil => intro acc h; exact h
      | cons y L ih => intro acc h; exact ih _ (mem_numStep.2 (.inl h))
    rcases List.mem_cons.1 h with rfl | h
    · exact hm L _ (mem_step _ _)
    · exact step_fold v L _ h
theorem fold_vstep : ∀ (hs L acc : List Int), (hs.foldl vstep L).foldl numStep acc = hs.foldl vstep (L.foldl numStep acc)
  | [], _, _ => rfl
  | h :: hs, L, acc => by
    rw [List.foldl_cons, List.foldl_cons, fold_vstep hs]
    congr 1
    unfold vstep
    by_cases hc : h < 0
    · by_cases hm : (-1 - h) ∈ L
      · rw [if_neg (fun e => e.2 hm), if_neg (fun e => e.2 (step_fold _ _ _ hm))]
      · rw [if_pos ⟨hc, hm⟩, List.foldl_append]
        simp only [List.foldl_cons, List.foldl_nil, numStep]
        by_cases h2 : (-1 - h) ∈ L.foldl numStep acc
        · rw [if_pos h2, if_neg (fun e => e.2 h2)]
        · rw [if_neg h2, if_pos ⟨hc, h2⟩]
    · rw [if_neg (fun e => hc e.1), if_neg (fun e => hc e.1)]
theorem fold_num {t : Tm} (hg : t.good = true) (acc : List Int) : (numT [] t).foldl numStep acc = numT acc t := by
  rw [num_heads t [] hg, num_heads t acc hg, fold_vstep]; rfl
theorem fold_length : ∀ (vs acc : List Int), (vs.foldl numStep acc).length ≤ acc.length + vs.length
  | [], _ => by simp
  | v :: vs, acc => by
    have h1 := fold_length vs (numStep acc v)
    have h2 : (numStep acc v).length ≤ acc.length + 1 := by unfold numStep; split <;> simp
    simp only [List.foldl_cons, List.length_cons]; omega
theorem foldl_drop (vs : List Int) (j : Nat) (h : j < vs.length) (acc : List Int) : (vs.drop j).foldl numStep acc = (vs.drop (j + 1)).foldl numStep (numStep acc vs[j]) := by
  rw [List.drop_eq_getElem_cons h, List.foldl_cons]
theorem sizes_drop (l : List Tm) (i : Nat) (h : i < l.length) : Tm.sizes (l.drop i) = l[i].size + Tm.sizes (l.drop (i + 1)) := by
  rw [List.drop_eq_getElem_cons h, Tm.sizes]
theorem numL_drop (l : List Tm) (i : Nat) (h : i < l.length) (acc : List Int) : numL acc (l.drop i) = numL (numT acc l[i]) (l.drop (i + 1)) := by
  rw [List.drop_eq_getElem_cons h, numL]
theorem vars_l1 {h : Int} {l : List Tm} {i : Nat} {vs : List Int} (hvs : vs.length ≤ 1000000000) (hi : i ≤ 1000000000) {r : List Int} :
    ∀ (d j : Nat) (acc : List Int), j + d = vs.length → acc.length + d ≤ 3000000000 → Ev (fun k => PA.elenchusref01_Vars.l0 k ((vs.drop j).foldl numStep acc) ((i + 1 : Nat) : Int) h (toSL l)) r → Ev (fun k => PA.elenchusref01_Vars.l1 k acc (i : Int) vs (j : Int) h (toSL l)) r
  | 0, j, acc, hj, ha, hr => by
    rw [List.drop_eq_nil_of_le (by omega), List.foldl_nil] at hr
    refine hr.step fun k => ?_
    simp only [PA.elenchusref01_Vars.l1]
    rw [if_neg (by omega), wrap_next (by omega) (by omega)]; rfl
  | d + 1, j, acc, hj, ha, hr => by
    have hlt : j < vs.length := by omega
    rw [foldl_drop vs j hlt] at hr
    have h1 : (numStep acc vs[j]).length + d ≤ 3000000000 := by
      have : (numStep acc vs[j]).length ≤ acc.length + 1 := by unfold numStep; split <;> simp
      omega
    refine (vars_l1 hvs hi d (j + 1) (numStep acc vs[j]) (by omega) h1 hr).step fun k => ?_
    rw [PA.elenchusref01_Vars.l1, if_pos (by omega), if_pos (by omega), rd_nat vs j hlt, wrap_next (by omega) (by omega)]
    simp only [PA.elenchusref01_In.f, Option.bind_some]
    by_cases hm : vs[j] ∈ acc
    · rw [if_pos (hasB_iff.2 hm), show numStep acc vs[j] = acc by simp [numStep, hm]]; rfl
    · rw [if_neg (fun e => hm (hasB_iff.1 e)), if_pos (by omega), show numStep acc vs[j] = acc ++ [vs[j]] by simp [numStep, hm]]; rfl
end Go.Proofs.Ythplndalbfcbbaa
set_option linter.unusedSimpArgs false
set_option linter.unusedVariables false
namespace Go.Proofs.Ythplndalbfcbbaa
open Go.RowKit Go.Proofs.YthplndalbfcbbaaW.PrintWords
def OkN (l : List Int) : Prop := l.Nodup ∧ ∀ x, x ∈ l → 0 ≤ x ∧ x < (256 : Nat)
theorem OkN.len {l : List Int} (h : OkN l) : l.length ≤ 256 := pigeon 256 l h.1 h.2
theorem OkN.nil : OkN [] := ⟨List.nodup_nil, by simp⟩
theorem OkN.step {l : List Int} (h : OkN l) {v : Int} (h0 : 0 ≤ v) (h1 : v < (256 : Nat)) : OkN (numStep l v) := by
  unfold numStep
  split
  · exact h
  · rename_i hm
    refine ⟨List.nodup_append.2 ⟨h.1, by simp, fun a ha b hb => ?_⟩, fun x hx => ?_⟩
    · simp only [List.mem_singleton] at hb
      subst hb
      exact fun e => hm (e ▸ ha)
    · rcases List.mem_append.1 hx with hx | hx
      · exact h.2 x hx
      · simp only [List.mem_singleton] at hx
        subst hx; exact ⟨h0, h1⟩
theorem OkN.heads : ∀ (hs : List Int) {l : List Int}, OkN l → (∀ h, h ∈ hs → -256 ≤ h) → OkN (hs.foldl vstep l)
  | [], _, h, _ => h
  | x :: hs, l, h, hr => by
    rw [List.foldl_cons]
    refine OkN.heads hs ?_ fun y hy => hr y (by simp [hy])
    have hx := hr x (by simp)
    unfold vstep
    split
    · rename_i hc
      have := h.step (v := -1 - x) (by omega) (by omega)
      unfold numStep at this
      rwa [if_neg hc.2] at this
    · exact h
theorem OkN.num {l : List Int} (h : OkN l) {t : Tm} (hg : t.good = true) : OkN (numT l t) := by
  rw [num_heads t l hg]
  exact h.heads _ fun x hx => (good_heads t hg x hx).1
theorem varsG_l1 {h : Int} {l : List Tm} {i : Nat} {vs : List Int} (hvs : OkN vs) (hi : i ≤ 1000000000) {r : List Int} :
    ∀ (d j : Nat) (acc : List Int), j + d = vs.length → OkN acc → Ev (fun k => PA.elenchusref01_Vars.l0 k ((vs.drop j).foldl numStep acc) ((i + 1 : Nat) : Int) h (toSL l)) r → Ev (fun k => PA.elenchusref01_Vars.l1 k acc (i : Int) vs (j : Int) h (toSL l)) r
  | 0, j, acc, hj, ha, hr => by
    have hvl := hvs.len
    rw [List.drop_eq_nil_of_le (by omega), List.foldl_nil] at hr
    refine hr.step fun k => ?_
    simp only [PA.elenchusref01_Vars.l1]
    rw [if_neg (by omega), wrap_next (by omega) (by omega)]; rfl
  | d + 1, j, acc, hj, ha, hr => by
    have hvl := hvs.len
    have hal := ha.len
    have hlt : j < vs.length := by omega
    have hv := hvs.2 _ (List.getElem_mem hlt)
    rw [foldl_drop vs j hlt] at hr
    refine (varsG_l1 hvs hi d (j + 1) (numStep acc vs[j]) (by omega) (ha.step hv.1 hv.2) hr).step fun k => ?_
    rw [PA.elenchusref01_Vars.l1, if_pos (by omega), if_pos (by omega), rd_nat vs j hlt, wrap_next (by omega) (by omega)]
    simp only [PA.elenchusref01_In.f, Option.bind_some]
    by_cases hm : vs[j] ∈ acc
    · rw [if_pos (hasB_iff.2 hm), show numStep acc vs[j] = acc by simp [numStep, hm]]; rfl
    · rw [if_neg (fun e => hm (hasB_iff.1 e)), if_pos (by omega), show numStep acc vs[j] = acc ++ [vs[j]] by simp [numStep, hm]]; rfl
theorem varsG_l0 (n0 : Nat) (ih : ∀ t : Tm, t.size ≤ n0 → t.good = true → Ev (fun k => PA.elenchusref01_Vars.f k t.h (toSL t.args)) (numT [] t)) {h : Int} {l : List Tm} (hl : l.length ≤ 1000000000) (hk : ∀ t, t ∈ l → t.size ≤ n0 ∧ t.good = true) :
    ∀ (d i : Nat) (acc : List Int), i + d = l.length → OkN acc → Ev (fun k => PA.elenchusref01_Vars.l0 k acc (i : Int) h (toSL l)) (numL acc (l.drop i))
  | 0, i, acc, hi, ha => by
    rw [List.drop_eq_nil_of_le (by omega), numL]
    refine Ev.const.step fun k => ?_
    simp only [PA.elenchusref01_Vars.l0]
    rw [if_neg (by rw [toSL_length]; omega)]
  | d + 1, i, acc, hi, ha => by
    have hlt : i < l.length := by omega
    obtain ⟨g1, g3⟩ := hk l[i] (List.getElem_mem hlt)
    have hrec := varsG_l0 n0 ih (h := h) hl hk d (i + 1) (numT acc l[i]) (by omega) (ha.num g3)
    rw [← numL_drop l i hlt, ← fold_num g3] at hrec
    have hl1 := varsG_l1 (h := h) (l := l) (i := i) (vs := numT [] l[i]) (OkN.nil.num g3) (by omega) (numT [] l[i]).length 0 acc (by omega) ha (by rw [List.drop_zero]; exact hrec)
    refine ((ih l[i] g1 g3).bind (g := fun k v => PA.elenchusref01_Vars.l1 k acc (i : Int) v ((0 : Nat) : Int) h (toSL l)) hl1).step fun k => ?_
    rw [PA.elenchusref01_Vars.l0, if_pos (by rw [toSL_length]; omega), if_pos (by omega), rdT_nat l i hlt, toS_f0, toS_f1]; rfl
theorem varsG_f (n0 : Nat) : ∀ (t : Tm), t.size ≤ n0 → t.good = true → Ev (fun k => PA.elenchusref01_Vars.f k t.h (toSL t.args)) (numT [] t) := by
  induction n0 with
  | zero => intro t ht; have := t.size_eq; omega
  | succ n0 ih =>
    intro t ht hg
    obtain ⟨hh, hl8, hkids⟩ := good_args hg
    have hsz := t.size_eq
    have h0 := varsG_l0 n0 ih (h := t.h) (l := t.args) (by omega) (fun u hu => by
      obtain ⟨i, hi, rfl⟩ := List.getElem_of_mem hu
      have := Tm.size_get t.args i hi
      exact ⟨by omega, hkids i hi⟩)
    have hj : ∀ acc : List Int, OkN acc → Ev (fun k => PA.elenchusref01_Vars.j0 k acc t.h (toSL t.args)) (numL acc t.args) := fun acc ha => by
      have := h0 t.args.length 0 acc (by omega) ha
      rw [List.drop_zero] at this
      exact this.step fun k => by rw [PA.elenchusref01_Vars.j0]; rfl
    by_cases hneg : t.h < 0
    · have ha : t.args = [] := by cases t; exact good_var hg hneg
      have hr : numT [] t = numL [-1 - t.h] t.args := by rw [(renT_neg [] t hneg).2, ha]; simp [numStep, numL]
      rw [hr]
      have hok : OkN [-1 - t.h] := by
        have := OkN.nil.step (v := -1 - t.h) (by omega) (by omega)
        simpa [numStep] using this
      refine (hj [-1 - t.h] hok).step fun k => ?_
      rw [PA.elenchusref01_Vars.f, if_pos hneg, if_pos (by simp)]
      have : wrap64 (-1 - t.h) = -1 - t.h := by unfold wrap64; omega
      rw [this]; rfl
    · rw [(renT_pos [] t hneg).2]
      refine (hj [] OkN.nil).step fun k => ?_
      rw [PA.elenchusref01_Vars.f, if_neg hneg]
theorem refvars {t : Tm} (hg : t.good = true) : Ev (fun k => PA.elenchusref01_Vars.f k t.h (toSL t.args)) (varsT t) := by
  have := varsG_f t.size t (Nat.le_refl _) hg
  rwa [num_heads t [] hg] at this
end Go.Proofs.Ythplndalbfcbbaa
set_option linter.unusedSimpArgs false
set_option linter.unusedVariables false
namespace Go.Proofs.Ythplndalbfcbbaa
open Go.RowKit Go.Proofs.YthplndalbfcbbaaW.PrintWords
theorem endL_no {S : Sub} : ∀ (vs : List Int) (acc : List Bd), (endL S vs acc).2 ≠ 0 → (endL S vs acc).1 = []
  | [], acc, h => absurd rfl h
  | v :: vs, acc, h => by
    simp only [endL] at h ⊢
    split
    · rfl
    · rename_i h1
      rw [if_neg h1] at h
      split
      · rfl
      · rename_i h2
        rw [if_neg h2] at h
        exact endL_no vs _ h
theorem endL_yes {S : Sub} : ∀ (vs : List Int) (acc : List Bd), (∀ v, v ∈ vs → (S v).good = true) → (endL S vs acc).2 = 0 → (endL S vs acc).1 = acc ++ vs.map (fun v => ⟨v, S v⟩) ∧ ∀ v, v ∈ vs → chk (S v) = 0
  | [], acc, _, _ => ⟨by simp [endL], by simp⟩
  | v :: vs, acc, hg, h => by
    simp only [endL] at h ⊢
    by_cases h1 : 400 < (S v).size
    · rw [if_pos h1] at h; cases h
    · rw [if_neg h1] at h ⊢
      by_cases h2 : 40 < (S v).depth
      · rw [if_pos h2] at h; cases h
      · rw [if_neg h2] at h ⊢
        obtain ⟨g1, g2⟩ := endL_yes vs _ (fun u hu => hg u (by simp [hu])) h
        refine ⟨by rw [g1]; simp, fun u hu => ?_⟩
        rcases List.mem_cons.1 hu with rfl | hu
        · simp [chk, h1, h2, hg u (by simp)]
        · exact g2 u hu
inductive UCase (ps ts : List Tm) : Prop
  | wrong : ¬ (ps.length = ts.length ∧ ps.all rightB = true ∧ ts.all rightB = true) → unifyT ps ts = ([], false, 1) → UCase ps ts
  | none : ps.length = ts.length → ps.all rightB = true → ts.all rightB = true → (∀ τ, ¬ Sol τ (ps.zip ts)) → unifyT ps ts = ([], false, 0) → UCase ps ts
  | long (f : Env) (S : Sub) (e : Int) : ps.length = ts.length → ps.all rightB = true → ts.all rightB = true → Solved f S → UState (ps.zip ts) f [] → e = 2 ∨ e = 7 → unifyT ps ts = ([], false, e) → UCase ps ts
  | ok (f : Env) (S : Sub) : ps.length = ts.length → ps.all rightB = true → ts.all rightB = true → Solved f S → UState (ps.zip ts) f [] → (∀ v, 0 ≤ v → v ≤ 255 → chk (S v) = 0) → unifyT ps ts = (tidyF S, true, 0) → UCase ps ts
theorem endL_err {S : Sub} : ∀ (vs : List Int) (acc : List Bd), (endL S vs acc).2 = 0 ∨ (endL S vs acc).2 = 2 ∨ (endL S vs acc).2 = 7
  | [], acc => .inl rfl
  | v :: vs, acc => by
    simp only [endL]
    split
    · exact .inr (.inl rfl)
    · split
      · exact .inr (.inr rfl)
      · exact endL_err vs _
theorem ucase {ps ts : List Tm} (h10 : ps.length ≤ 10) : UCase ps ts := by
  by_cases hc : ps.length = ts.length ∧ ps.all rightB = true ∧ ts.all rightB = true
  rotate_left
  · exact .wrong hc (unify_wrong hc)
  obtain ⟨hl, hp, ht⟩ := hc
  obtain ⟨r, h1, h2⟩ := unify_ends hl h10 hp ht
  cases r with
  | none => exact .none hl hp ht h2 (unify_none hl h10 hp ht h2)
  | some S =>
    obtain ⟨f, g1, g2, g3⟩ := h2
    have hs := unify_some hl h10 hp ht (mgu_of g1 g2)
    have hgd : ∀ v, v ∈ (upto 256).filter (movesS S) → (S v).good = true := fun v hv => by
      have := mem_upto.1 (List.mem_filter.1 hv).1
      exact g1.good v this.1 (by omega)
    by_cases he : (tidyS S).2 = 0
    · have hy := endL_yes ((upto 256).filter (movesS S)) [] hgd he
      refine .ok f S hl hp ht g1 g2 (fun v h0 h1 => ?_) ?_
      · by_cases hm : movesS S v = true
        · exact hy.2 v (List.mem_filter.2 ⟨mem_upto.2 ⟨h0, by omega⟩, hm⟩)
        · rw [moves_iff g1 h0 h1] at hm
          have hf : f v = none := by
            cases hf : f v with
            | none => rfl
            | some t => rw [hf] at hm; exact absurd rfl hm
          rw [g1.free v hf]
          exact rightB_chk.1 (rightB_var h0 h1)
      · rw [hs, he]
        have e1 : (tidyS S).1 = tidyF S := by
          have := hy.1
          rw [List.nil_append] at this
          exact this
        rw [e1]; rfl
    · have hn := endL_no ((upto 256).filter (movesS S)) [] he
      have hr : (tidyS S).2 = 2 ∨ (tidyS S).2 = 7 := (endL_err ((upto 256).filter (movesS S)) []).resolve_left he
      refine .long f S (tidyS S).2 hl hp ht g1 g2 hr ?_
      rw [hs]
      have e1 : (tidyS S).1 = [] := hn
      have e2 : ((tidyS S).2 == 0) = false := by simpa using he
      rw [e1, e2]
theorem unifyT_sizes {ps ts : List Tm} (h10 : ps.length ≤ 10) : ∀ b, b ∈ (unifyT ps ts).1 → b.t.size ≤ 400 := by
  intro b hb
  cases ucase (ts := ts) h10 with
  | wrong _ e => rw [e] at hb; cases hb
  | none _ _ _ _ e => rw [e] at hb; cases hb
  | long _ _ _ _ _ _ _ _ _ e => rw [e] at hb; cases hb
  | ok f S _ _ _ _ _ h e =>
    rw [e] at hb
    obtain ⟨h1, h2, h3⟩ := tidyF_mem.1 hb
    rw [h2]
    exact right_size (h _ h1.1 h1.2)
theorem unify_pure {a b : Tm} (ha : a.size ≤ 1000000000) (hb : b.size ≤ 1000000000) : PA.unify_Mgu.f a.h (toSL a.args) b.h (toSL b.args) = some (toBL (unifyT [a] [b]).1, (unifyT [a] [b]).2.1, (unifyT [a] [b]).2.2) := by
  unfold PA.unify_Mgu.f
  rw [ofS_mk, ofS_mk, if_pos ⟨ha, hb⟩]
theorem same_selfU {l : List Bd} (h : ∀ b, b ∈ l → b.t.size ≤ 1000000000) : PA.elenchusref03_Same.f (toBL l) (toBL l) = some true := by
  unfold PA.elenchusref03_Same.f
  rw [ofBL_toBL, if_pos ⟨eqBL_iff.2 rfl, List.all_eq_true.2 fun b hb => by simpa using h b hb⟩]
end Go.Proofs.Ythplndalbfcbbaa
set_option linter.unusedSimpArgs false
set_option linter.unusedVariables false
namespace Go.Proofs.Ythplndalbfcbbaa
open Go.RowKit Go.Proofs.YthplndalbfcbbaaW.PrintWords
theorem varsA_l0 (n0 : Nat) (ih : ∀ t : Tm, t.size ≤ n0 → ∃ r, Ev (fun k => PA.elenchusref01_Vars.f k t.h (toSL t.args)) r ∧ r.length ≤ t.size) {h : Int} {l : List Tm} (hl : l.length ≤ 1000000) (hk : ∀ t, t ∈ l → t.size ≤ n0 ∧ t.size ≤ 1000000) :
    ∀ (d i : Nat) (acc : List Int), i + d = l.length → acc.length + Tm.sizes (l.drop i) ≤ 1000001 → ∃ r, Ev (fun k => PA.elenchusref01_Vars.l0 k acc (i : Int) h (toSL l)) r ∧ r.length ≤ acc.length + Tm.sizes (l.drop i)
  | 0, i, acc, hi, ha => ⟨acc, Ev.const.step fun k => by rw [PA.elenchusref01_Vars.l0, if_neg (by rw [toSL_length]; omega)], by omega⟩
  | d + 1, i, acc, hi, ha => by
    have hlt : i < l.length := by omega
    obtain ⟨g1, g2⟩ := hk l[i] (List.getElem_mem hlt)
    rw [sizes_drop l i hlt] at ha ⊢
    obtain ⟨vs, h1, h2⟩ := ih l[i] g1
    have h3 := fold_length vs acc
    obtain ⟨r, h4, h5⟩ := varsA_l0 n0 ih (h := h) hl hk d (i + 1) (vs.foldl numStep acc) (by omega) (by omega)
    have hl1 := vars_l1 (h := h) (l := l) (i := i) (vs := vs) (by omega) (by omega) vs.length 0 acc (by omega) (by omega) (by rw [List.drop_zero]; exact h4)
    refine ⟨r, (h1.bind (g := fun k v => PA.elenchusref01_Vars.l1 k acc (i : Int) v ((0 : Nat) : Int) h (toSL l)) hl1).step fun k => ?_, by omega⟩
    rw [PA.elenchusref01_Vars.l0, if_pos (by rw [toSL_length]; omega), if_pos (by omega), rdT_nat l i hlt, toS_f0, toS_f1]; rfl
theorem varsA_f (n0 : Nat) (hn : n0 ≤ 1000000) : ∀ (t : Tm), t.size ≤ n0 → ∃ r, Ev (fun k => PA.elenchusref01_Vars.f k t.h (toSL t.args)) r ∧ r.length ≤ t.size := by
  induction n0 with
  | zero => intro t ht; have := t.size_eq; omega
  | succ n0 ih =>
    intro t ht
    have hsz := t.size_eq
    have hll := Tm.sizes_length t.args
    have h0 := fun acc ha => varsA_l0 n0 (ih (by omega)) (h := t.h) (l := t.args) (by omega) (fun u hu => by
      obtain ⟨i, hi, rfl⟩ := List.getElem_of_mem hu
      have := Tm.size_get t.args i hi
      exact ⟨by omega, by omega⟩) t.args.length 0 acc (by omega) ha
    simp only [List.drop_zero] at h0
    have hj : ∀ acc : List Int, acc.length ≤ 1 → ∃ r, Ev (fun k => PA.elenchusref01_Vars.j0 k acc t.h (toSL t.args)) r ∧ r.length ≤ t.size := fun acc ha => by
      obtain ⟨r, h1, h2⟩ := h0 acc (by omega)
      exact ⟨r, h1.step fun k => by rw [PA.elenchusref01_Vars.j0]; rfl, by omega⟩
    by_cases hneg : t.h < 0
    · obtain ⟨r, h1, h2⟩ := hj [wrap64 (-1 - t.h)] (by simp)
      exact ⟨r, h1.step fun k => by rw [PA.elenchusref01_Vars.f, if_pos hneg, if_pos (by simp)]; rfl, h2⟩
    · obtain ⟨r, h1, h2⟩ := hj [] (by simp)
      exact ⟨r, h1.step fun k => by rw [PA.elenchusref01_Vars.f, if_neg hneg], h2⟩
theorem endL_all {S : Sub} : ∀ (vs : List Int) (acc : List Bd), (∀ v, v ∈ vs → chk (S v) = 0) → endL S vs acc = (acc ++ vs.map fun v => ⟨v, S v⟩, 0)
  | [], acc, _ => by simp [endL]
  | v :: vs, acc, h => by
    have h1 := h v (by simp)
    have hz := right_size h1
    have hd : ¬ 40 < (S v).depth := fun hd => by
      unfold chk at h1
      rw [if_neg (by omega), if_pos hd] at h1
      cases h1
    rw [endL, if_neg (by omega), if_neg hd, endL_all vs _ fun u hu => h u (by simp [hu])]
    simp
theorem unify_mgu {a b : Tm} (ra : rightB a = true) (rb : rightB b = true) {S : Sub} (hS : Mgu [(a, b)] S) (hc : ∀ v, 0 ≤ v → v ≤ 255 → chk (S v) = 0) : unifyT [a] [b] = (tidyF S, true, 0) := by
  rw [unify_some (ps := [a]) (ts := [b]) rfl (by simp) (by simpa using ra) (by simpa using rb) hS]
  have e : tidyS S = (tidyF S, 0) := by
    unfold tidyS
    rw [endL_all _ _ fun v hv => by have := mem_upto.1 (List.mem_filter.1 hv).1; exact hc v this.1 (by omega)]
    rfl
  rw [e]; rfl
end Go.Proofs.Ythplndalbfcbbaa
set_option linter.unusedSimpArgs false
set_option linter.unusedVariables false
namespace Go.Proofs.Ythplndalbfcbbaa
open Go.RowKit Go.Proofs.YthplndalbfcbbaaW.PrintWords
mutual
theorem makes_sub {σ : Env} {v : Int} : ∀ (p t : Tm), p.good = true → Makes σ p t → occ v p → ∃ u, σ v = some u ∧ u.size ≤ t.size ∧ u.depth ≤ t.depth ∧ (t.good = true → u.good = true) ∧ ∀ w, occ w u → occ w t
  | .node h l, t, hg, hm, hv => by
    by_cases hn : h < 0
    · have e := good_is_var hg hn
      rw [e, occ_var (by simp only [Tm.h]; omega)] at hv
      have hs := (makes_var (p := .node h l) hn).1 hm
      simp only [Tm.h] at hs hv
      exact ⟨t, by rw [hv]; exact hs, Nat.le_refl _, Nat.le_refl _, id, fun w h => h⟩
    · obtain ⟨h1, h2⟩ := (makes_fun (p := .node h l) hn).1 hm
      obtain ⟨c, hc, hcv⟩ := (occ_args (t := .node h l) hn).1 hv
      obtain ⟨u, g1, g2, g3, g4, g5⟩ := makesL_sub l t.args (goodsOf hg) h2 c hc hcv
      have hz := t.size_eq
      have hd := Tm.depth_eq t
      refine ⟨u, g1, by omega, by omega, fun h => g4 (goodsOf h), fun w hw => ?_⟩
      obtain ⟨c', hc', hw'⟩ := g5 w hw
      exact (occ_args (by rw [← h1]; exact hn)).2 ⟨c', hc', hw'⟩
theorem makesL_sub {σ : Env} {v : Int} : ∀ (ps ts : List Tm), Tm.goods ps = true → MakesL σ ps ts → ∀ c, c ∈ ps → occ v c → ∃ u, σ v = some u ∧ u.size ≤ Tm.sizes ts ∧ u.depth ≤ Tm.depths ts ∧ (Tm.goods ts = true → u.good = true) ∧ ∀ w, occ w u → ∃ c', c' ∈ ts ∧ occ w c'
  | [], _, _, _, c, hc, _ => absurd hc (by simp)
  | p :: ps, [], _, hm, _, _, _ => by simp [MakesL] at hm
  | p :: ps, t :: ts, hg, hm, c, hc, hv => by
    have g := goods_mem hg
    simp only [MakesL] at hm
    rcases List.mem_cons.1 hc with e | hc
    · rw [e] at hv
      obtain ⟨u, g1, g2, g3, g4, g5⟩ := makes_sub p t (g p (by simp)) hm.1 hv
      refine ⟨u, g1, by simp only [Tm.sizes]; omega, by simp only [Tm.depths]; omega, fun h => g4 (goods_mem h t (by simp)), fun w hw => ⟨t, by simp, g5 w hw⟩⟩
    · obtain ⟨u, g1, g2, g3, g4, g5⟩ := makesL_sub ps ts (goods_of_mem fun u hu => g u (by simp [hu])) hm.2 c hc hv
      refine ⟨u, g1, by simp only [Tm.sizes]; omega, by simp only [Tm.depths]; omega, fun h => g4 (goods_of_mem fun u hu => goods_mem h u (by simp [hu])), fun w hw => ?_⟩
      obtain ⟨c', hc', hw'⟩ := g5 w hw
      exact ⟨c', by simp [hc'], hw'⟩
end
mutual
theorem makes_app_eq {f : Env} {S : Sub} : ∀ (p t : Tm), p.good = true → Makes f p t → (∀ v, occ v p → f v = some (S v)) → app S p = t
  | .node h l, t, hg, hm, hs => by
    by_cases hn : h < 0
    · have hs2 := (makes_var (p := .node h l) hn).1 hm
      have h3 := hs (-1 - h) ⟨by omega, by rw [show -1 - (-1 - h) = h by omega, Tm.heads_eq]; exact List.mem_cons_self⟩
      rw [app_neg (by exact hn)]
      simp only [Tm.h] at hs2 ⊢
      rw [hs2] at h3
      exact (Option.some.inj h3).symm
    · obtain ⟨h1, h2⟩ := (makes_fun (p := .node h l) hn).1 hm
      rw [app_pos (by exact hn)]
      have := makesL_app_eq l t.args (goodsOf hg) h2 fun c hc v hv => hs v ((occ_args (t := .node h l) hn).2 ⟨c, hc, hv⟩)
      simp only [Tm.args, Tm.h] at this h1 ⊢
      cases t with
      | node x m => simp only [Tm.h, Tm.args] at h1 this; rw [h1, this]
theorem makesL_app_eq {f : Env} {S : Sub} : ∀ (ps ts : List Tm), Tm.goods ps = true → MakesL f ps ts → (∀ c, c ∈ ps → ∀ v, occ v c → f v = some (S v)) → appL S ps = ts
  | [], [], _, _, _ => rfl
  | [], _ :: _, _, hm, _ => by simp [MakesL] at hm
  | _ :: _, [], _, hm, _ => by simp [MakesL] at hm
  | p :: ps, t :: ts, hg, hm, hs => by
    have g := goods_mem hg
    simp only [MakesL] at hm
    rw [appL, makes_app_eq p t (g p (by simp)) hm.1 (hs p (by simp)), makesL_app_eq ps ts (goods_of_mem fun u hu => g u (by simp [hu])) hm.2 fun c hc => hs c (by simp [hc])]
end
theorem app_closed {u : Tm} (hg : u.good = true) (hc : ∀ v, ¬ occ v u) (τ : Sub) : app τ u = u := (app_congr u fun v hv => absurd hv (hc v)).trans (app_id u hg)
open Classical in
theorem match_unify {p t : Tm} (hp : rightB p = true) (ht : rightB t = true) (hcl : ∀ v, ¬ occ v t) : matchT [p] [t] = unifyT [p] [t] ∧ (matchT [p] [t]).2.2 = 0 := by
  have gp := chk_good hp
  have gt := chk_good ht
  have hct := rightB_chk.1 ht
  have happ : ∀ τ : Sub, app τ p = t → Makes (fun v => some (τ v)) p t := fun τ h => by rw [← h]; exact makes_app p gp fun v _ => rfl
  have hsol : ∀ τ : Sub, Sol τ [(p, t)] ↔ app τ p = t := fun τ => by
    rw [sol_cons]
    show (app τ p = app τ t ∧ _) ↔ _
    rw [app_closed gt hcl]
    exact ⟨fun h => h.1, fun h => ⟨h, fun q hq => (by cases hq)⟩⟩
  have hm0 : matchT [p] [t] = (match gatherL [p] [t] noE with | some f => (tidyT f, true, 0) | none => ([], false, 0)) := by
    rw [matchT, if_pos ⟨rfl, by simpa using hp, by simpa using ht⟩]; rfl
  cases hgf : gatherL [p] [t] noE with
  | none =>
    rw [hm0, hgf, unify_none (ps := [p]) (ts := [t]) rfl (by simp) (by simpa using hp) (by simpa using ht) fun τ hτ => gather_none (show [p].length = [t].length from rfl) hgf _ (makesL_one.2 (happ τ ((hsol τ).1 hτ)))]
    exact ⟨rfl, rfl⟩
  | some f =>
    have hgd := gather_gathered (show [p].length = [t].length from rfl) hgf
    have hm := makesL_one.1 hgd.makes
    let S : Sub := fun v => (f v).getD (varT v)
    have hfo : ∀ v, occ v p → f v = some (S v) := fun v hv => by
      obtain ⟨u, h1, -⟩ := makes_sub p t gp hm hv
      show f v = some ((f v).getD (varT v))
      rw [h1]; rfl
    have hSp : app S p = t := makes_app_eq p t gp hm hfo
    have hdom : ∀ v u, f v = some u → occ v p := fun v u hv => by
      have hw := (hgd (fun v => if occ v p then some (S v) else none)).1 (makesL_one.2 (by
        rw [← hSp]; exact makes_app p gp fun v hv => if_pos hv)) v u hv
      by_cases ho : occ v p
      · exact ho
      · simp only [if_neg ho] at hw; cases hw
    have hsub : ∀ v u, f v = some u → u.good = true ∧ (∀ w, ¬ occ w u) ∧ chk u = 0 := fun v u hv => by
      obtain ⟨u', h1, h2, h3, h4, h5⟩ := makes_sub p t gp hm (hdom v u hv)
      rw [hv] at h1
      cases h1
      refine ⟨h4 gt, fun w hw => hcl w (h5 w hw), ?_⟩
      have hz := right_size hct
      have hd : ¬ 40 < t.depth := fun hd => by
        unfold chk at hct
        rw [if_neg (by omega), if_pos hd] at hct
        cases hct
      unfold chk
      rw [if_neg (by omega), if_neg (by omega), if_pos (h4 gt)]
    have hS : Mgu [(p, t)] S :=
      { most := fun τ => by
          rw [hsol τ]
          constructor
          · intro h w h0
            have hw := (hgd _).1 (makesL_one.2 (happ τ h))
            show τ w = app τ ((f w).getD (varT w))
            cases hfw : f w with
            | none => exact (app_var τ h0).symm
            | some u =>
              obtain ⟨g1, g2, -⟩ := hsub w u hfw
              have := hw w u hfw
              simp only [Option.some.injEq] at this
              rw [this]
              exact (app_closed g1 g2 τ).symm
          · intro h
            rw [← hSp]
            refine app_congr p fun v hv => ?_
            have h0 := h v hv.1
            obtain ⟨g1, g2, -⟩ := hsub v (S v) (hfo v hv)
            rw [h0, app_closed g1 g2]
        idem := fun w h0 => by
          show app S ((f w).getD (varT w)) = (f w).getD (varT w)
          cases hfw : f w with
          | none =>
            show app S (varT w) = varT w
            rw [app_var S h0]
            show (f w).getD (varT w) = _
            rw [hfw]; rfl
          | some u =>
            obtain ⟨g1, g2, -⟩ := hsub w u hfw
            exact app_closed g1 g2 S
        low := fun w h0 hn => by
          have hn' : ((f w).getD (varT w)).h < 0 := hn
          show -1 - ((f w).getD (varT w)).h ≤ w
          cases hfw : f w with
          | none => simp only [Option.getD_none, varT, Tm.h]; omega
          | some u =>
            obtain ⟨g1, g2, -⟩ := hsub w u hfw
            rw [hfw] at hn'
            simp only [Option.getD_some] at hn'
            exact absurd ⟨by omega, by rw [show -1 - (-1 - u.h) = u.h by omega, Tm.heads_eq]; exact List.mem_cons_self⟩ (g2 (-1 - u.h))
        good := fun w h0 h1 => by
          show ((f w).getD (varT w)).good = true
          cases hfw : f w with
          | none => exact good_varT h0 h1
          | some u => exact (hsub w u hfw).1
        out := fun w hw => by
          show (f w).getD (varT w) = varT w
          cases hfw : f w with
          | none => rfl
          | some u => have := occ_range gp (hdom w u hfw); omega }
    have hc : ∀ v, 0 ≤ v → v ≤ 255 → chk (S v) = 0 := fun v h0 h1 => by
      show chk ((f v).getD (varT v)) = 0
      cases hfv : f v with
      | none => exact rightB_chk.1 (rightB_var h0 h1)
      | some u => exact (hsub v u hfv).2.2
    rw [hm0, hgf, unify_mgu hp ht hS hc]
    exact ⟨by simp only [tidyT_F]; rfl, rfl⟩
theorem munifies_pure (p t : Tm) : Ev (fun k => PA.elenchuslaw05_MatchUnifies.f k p.h (toSL p.args) t.h (toSL t.args)) true := by
  have hj0 : ∀ q : Bool, (q = false → p.size ≤ 500 ∧ t.size ≤ 500 ∧ (rightB p = true → rightB t = true → ∀ v, ¬ occ v t)) → Ev (fun k => PA.elenchuslaw05_MatchUnifies.j0 k q p.h (toSL p.args) t.h (toSL t.args)) true := fun q hq => by
    cases q with
    | true => exact Ev.const.step fun k => by rw [PA.elenchuslaw05_MatchUnifies.j0, if_pos rfl]
    | false =>
      obtain ⟨sp, st, hcl⟩ := hq rfl
      have e1 := match_pure (p := p) (t := t) (by omega) (by omega)
      have e2 := unify_pure (a := p) (b := t) (by omega) (by omega)
      by_cases hc : rightB p = true ∧ rightB t = true
      · obtain ⟨h1, h2⟩ := match_unify hc.1 hc.2 (hcl hc.1 hc.2)
        rw [← h1] at e2
        have hsz : ∀ b, b ∈ (matchT [p] [t]).1 → b.t.size ≤ 1000000000 := fun b hb => by
          rw [h1] at hb
          exact Nat.le_trans (unifyT_sizes (ps := [p]) (ts := [t]) (by simp) b hb) (by omega)
        have hj1 : Ev (fun k => PA.elenchuslaw05_MatchUnifies.j1 k (toBL (matchT [p] [t]).1) (matchT [p] [t]).2.1 (matchT [p] [t]).2.2 (toBL (matchT [p] [t]).1) (matchT [p] [t]).2.1 (matchT [p] [t]).2.2 ((matchT [p] [t]).2.2 != 0)) true := Ev.const.step fun k => by
          rw [PA.elenchuslaw05_MatchUnifies.j1, h2, if_neg (by simp), same_selfU hsz]
          simp [PA.elenchuslaw05_awake.f]
        refine hj1.step fun k => ?_
        rw [PA.elenchuslaw05_MatchUnifies.j0, if_neg (by simp), e1, e2]
        simp only [Option.bind_some]
        rw [if_pos h2]
      · have hm : matchT [p] [t] = ([], false, 1) := by rw [matchT, if_neg]; simp only [List.all_cons, List.all_nil, Bool.and_true]; exact fun h => hc ⟨h.2.1, h.2.2⟩
        have hu : unifyT [p] [t] = ([], false, 1) := unify_wrong (by simp only [List.all_cons, List.all_nil, Bool.and_true]; exact fun h => hc ⟨h.2.1, h.2.2⟩)
        rw [hm] at e1
        rw [hu] at e2
        have hj1 : Ev (fun k => PA.elenchuslaw05_MatchUnifies.j1 k (toBL []) false 1 (toBL []) false 1 true) true := Ev.const.step fun k => by
          rw [PA.elenchuslaw05_MatchUnifies.j1, if_pos rfl]
          simp [PA.elenchuslaw05_awake.f]
        refine hj1.step fun k => ?_
        rw [PA.elenchuslaw05_MatchUnifies.j0, if_neg (by simp), e1, e2]
        simp
  unfold PA.elenchuslaw05_MatchUnifies.f
  simp only [PA.elenchusref01_Few.f, Option.bind_some, ofS_mk]
  cases h1 : fewB p
  · exact (hj0 true (fun h => by cases h)).congr fun k => by simp
  cases h2 : fewB t
  · exact (hj0 true (fun h => by cases h)).congr fun k => by simp
  have sp := few_size h1
  have st := few_size h2
  simp only [if_true]
  by_cases ht : rightB t = true
  · refine (refvars (chk_good ht)).bind (g := fun k vs => PA.elenchuslaw05_MatchUnifies.j0 k (decide ((vs.length : Int) > 0)) p.h (toSL p.args) t.h (toSL t.args)) ?_
    refine hj0 _ fun h => ⟨sp, st, fun _ _ v hv => ?_⟩
    have hl : (varsT t).length = 0 := by simpa using h
    rw [occ_iff, List.length_eq_zero_iff.1 hl] at hv
    cases hv
  · obtain ⟨r, g1, g2⟩ := varsA_f 500 (by omega) t st
    refine g1.bind (g := fun k vs => PA.elenchuslaw05_MatchUnifies.j0 k (decide ((vs.length : Int) > 0)) p.h (toSL p.args) t.h (toSL t.args)) ?_
    exact hj0 _ fun h => ⟨sp, st, fun _ h => absurd h ht⟩
theorem munifies_calls (p t : Tm) (h1 h2 : Int) (s1 s2 : Value) (w : World) (hp : IsTm (fun _ => False) w h1 s1 p) (ht : IsTm (fun _ => False) w h2 s2 t) :
    Calls Try.prog 22 #[.agg #[.int .i64 h1, s1], .agg #[.int .i64 h2, s2]] w fun e w' => e = .returned (.bool true) ∧ Below w.heap.size w w' := by
  obtain ⟨rfl, a1, c1, rfl, -, -⟩ := hp.shape
  obtain ⟨rfl, a2, c2, rfl, -, -⟩ := ht.shape
  obtain ⟨e1, g1, k1⟩ := c_of hp.2
  obtain ⟨e2, g2, k2⟩ := c_of ht.2
  rw [e1, e2]
  obtain ⟨k0, hk⟩ := munifies_pure p t
  exact PA.elenchuslaw05_MatchUnifies.calls k0 p.h a1 c1 (toSL p.args) t.h a2 c2 (toSL t.args) true w k1 g1 k2 g2 (hk k0 (Nat.le_refl _))
end Go.Proofs.Ythplndalbfcbbaa
