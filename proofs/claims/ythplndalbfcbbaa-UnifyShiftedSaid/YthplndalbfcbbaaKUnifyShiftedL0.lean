/- What the proof of the law rests on: contracts of the functions, plain laws, and words. -/
import Derived.Test.YthplndalbfcbbaaProg
import Derived.Below
import Derived.Deep.Draws
import Derived.Deep.AppendLies
import Derived.Maps.AppendAt
import Derived.OwnWalk
import Derived.Laws.BytesArg
import Derived.Laws.MakeOwn
import Derived.Laws.OwnMore
import Derived.Deep.OwnRows
import Derived.Tactics
import Derived.Lib.ConvBytes
import Derived.Laws.Slices
import Derived.WalkKit
import Derived.KernelRfl
import Derived.RowKit3
import Derived.Deep.LoopGhost
import Derived.Deep.QuietTactic
import Derived.BigQuiet
import Derived.WideLaws
import Derived.Deep.DeepCutAuto
import Derived.Deep.CutBlock
import Derived.Deep.RegionHeld3
import Derived.Laws.Rows
import Derived.Lib.AppendStr
import Derived.ArgAppend
import Derived.Laws.IdiomCopy
import Derived.OrdersHeld
import Derived.Laws.BitsLemmas
import Derived.RowKit
import Derived.Laws.StructEq
import Derived.Test.YthplndalbfcbbaaKUnifyShiftedU0
import Derived.Test.YthplndalbfcbbaaKUnifyShiftedXAwake4
import Derived.Test.YthplndalbfcbbaaKUnifyShiftedG4
import Derived.Test.YthplndalbfcbbaaKUnifyShiftedG1
import Derived.Test.YthplndalbfcbbaaKUnifyShiftedG6
import Derived.Test.YthplndalbfcbbaaKUnifyShiftedG3
import Derived.Test.YthplndalbfcbbaaKUnifyShiftedG9
import Derived.Test.YthplndalbfcbbaaKUnifyShiftedG7
import Derived.Test.YthplndalbfcbbaaKUnifyShiftedXUAll
namespace Go.Proofs.Ythplndalbfcbbaa.PA
open Go.RowKit Go.Proofs.YthplndalbfcbbaaW.PrintWords Go.Proofs.YthplndalbfcbbaaW.PrintLast Go.Proofs.YthplndalbfcbbaaW.PrintMore
attribute [local go_sem] max2_int min2_int max_two min_two max_three min_three max_four min_four   -- for this text's walks alone
set_option linter.unusedVariables false
set_option linter.unusedSimpArgs false
def errW : Option Int → Value
  | none => .nilIface
  | some c => .iface 0 (.int .i64 c)
theorem errW_none : errW none = .nilIface := rfl
theorem errW_some (c : Int) : errW (some c) = .iface 0 (.int .i64 c) := rfl
theorem info3 : (Try.prog.info? 3).map (fun i => (i.zero, i.size, i.bytes)) = some (some (.int .i64 0), 1, 8) := by kernel_rfl
structure S25 where
  f0 : Int
  f1 : (List S25)
def z25 : S25 := ⟨(0 : Int), ([] : List S25)⟩
def F25 (d : Kd S25) : Kd S25 := Kd.iso (Kd.pair (Kd.int .i64) (Kd.slice 25 d)) (fun x : S25 => (x.f0, x.f1))
theorem mono25 : Kd.Mono F25 := Kd.mono_iso _ (Kd.mono_pair (Kd.mono_const _) (Kd.mono_slice 25 Kd.mono_id))
theorem sub25 : Kd.Sub F25 [25] := Kd.sub_iso _ (Kd.sub_pair (Kd.sub_const _ (by decide)) (Kd.sub_slice 25 (by decide) Kd.sub_id))
theorem sz25 : ∀ n, (Kd.upto F25 2 [25] n).sz = 2 := Kd.upto_sz (fun _ => rfl)
def k25 : Kd S25 := Kd.fix F25 2 [25] sz25 (Kd.upto_E sub25)
theorem k25_open {w : World} {x : S25} {cs : List Value} (h : k25.K w x cs) : ∃ A1 c1, cs = [.int .i64 x.f0, .slice A1 x.f1.length c1] ∧ x.f1.length ≤ c1 ∧ k25.C w A1 x.f1.length x.f1 := by
  obtain ⟨n, h⟩ := h
  cases n with
  | zero => exact h.elim
  | succ n =>
    obtain ⟨_, _, rfl, rfl, ⟨A1, c1, rfl, l1, g1⟩⟩ := h
    exact ⟨A1, c1, rfl, l1, Kd.fix_C g1⟩
theorem k25_mk (w : World) (x : S25) {A1 : Option Addr} {c1 : Nat} (l1 : x.f1.length ≤ c1) (g1 : k25.C w A1 x.f1.length x.f1) : k25.K w x [.int .i64 x.f0, .slice A1 x.f1.length c1] := by
  obtain ⟨n1, q1⟩ := Kd.fix_C_back mono25 g1
  have r1 := Kd.upto_C_le mono25 sz25 (show n1 ≤ n1 by omega) q1
  exact ⟨n1 + 1, ⟨[.int .i64 x.f0], [.slice A1 x.f1.length c1], rfl, rfl, ⟨A1, c1, rfl, l1, r1⟩⟩⟩
theorem k25_openF {W : World} {ok : Nat → Prop} {x : S25} {cs : List Value} (h : Kd.FK k25 W ok x cs) : ∃ A1 c1, cs = [.int .i64 x.f0, .slice A1 x.f1.length c1] ∧ x.f1.length ≤ c1 ∧ Kd.F k25 W ok A1 x.f1.length x.f1 := by
  obtain ⟨A1, c1, rfl, l1, _⟩ := k25_open (Kd.FK_now h)
  exact ⟨A1, c1, rfl, l1, (fun W' hW => by obtain ⟨A1_, c1_, he, l1_, g1_⟩ := k25_open (h W' hW); injection (Option.some.inj (show some (Value.slice A1 x.f1.length c1) = some (Value.slice A1_ x.f1.length c1_) from congrArg (fun l => l[1]?) he)) with ha_ _ _; rw [ha_]; exact g1_)⟩
theorem k25_mkF (W : World) (ok : Nat → Prop) (x : S25) {A1 : Option Addr} {c1 : Nat} (l1 : x.f1.length ≤ c1) (g1 : Kd.F k25 W ok A1 x.f1.length x.f1) : Kd.FK k25 W ok x [.int .i64 x.f0, .slice A1 x.f1.length c1] := fun W2 hW => k25_mk W2 x l1 (g1 W2 hW)
def rd_T25 (xs : List S25) (i : Int) : S25 := xs.getD i.toNat z25
theorem at_T25 {w : World} {A : Option Addr} {n : Nat} {xs : List S25} (h : Kd.C k25 w A n xs) (i : Int) (h0 : 0 ≤ i) (h1 : i < n) : ∃ ad A1 c1, A = some ad ∧ w.cell? (ad.add (i.toNat * 2)) = some (.int .i64 (rd_T25 xs i).f0) ∧ w.cell? ⟨(ad.add (i.toNat * 2)).block, (ad.add (i.toNat * 2)).off + 1, none⟩ = some (.slice A1 (rd_T25 xs i).f1.length c1) ∧ (rd_T25 xs i).f1.length ≤ c1 ∧ k25.C w A1 (rd_T25 xs i).f1.length (rd_T25 xs i).f1 := by
  obtain ⟨ad, c, e, _, hK, hc0⟩ := Kd.C_get h z25 i h0 h1
  have hc : ∀ j u, c[j]? = some u → w.cell? (ad.add (i.toNat * 2 + j)) = some u := hc0
  obtain ⟨A1, c1, rfl, l1, g1⟩ := k25_open hK
  exact ⟨ad, A1, c1, e, hc 0 _ rfl, by rw [← add_field _ _ 1 (by omega)]; exact hc 1 _ rfl, l1, g1⟩
structure S60 where
  f0 : Int
  f1 : S25
def z60 : S60 := ⟨(0 : Int), z25⟩
def k60 : Kd S60 := Kd.iso (Kd.pair (Kd.int .i64) k25) (fun x : S60 => (x.f0, x.f1))
theorem k60_open {w : World} {x : S60} {cs : List Value} (h : k60.K w x cs) : ∃ A2 c2, cs = [.int .i64 x.f0, .int .i64 x.f1.f0, .slice A2 x.f1.f1.length c2] ∧ x.f1.f1.length ≤ c2 ∧ k25.C w A2 x.f1.f1.length x.f1.f1 := by
  obtain ⟨_, _, rfl, rfl, s1⟩ := h
  obtain ⟨A2, c2, rfl, l2, g2⟩ := k25_open s1
  exact ⟨A2, c2, rfl, l2, g2⟩
theorem k60_mk (w : World) (x : S60) {A2 : Option Addr} {c2 : Nat} (l2 : x.f1.f1.length ≤ c2) (g2 : k25.C w A2 x.f1.f1.length x.f1.f1) : k60.K w x [.int .i64 x.f0, .int .i64 x.f1.f0, .slice A2 x.f1.f1.length c2] := ⟨[.int .i64 x.f0], [.int .i64 x.f1.f0, .slice A2 x.f1.f1.length c2], rfl, rfl, (k25_mk w x.f1 l2 g2)⟩
theorem k60_openF {W : World} {ok : Nat → Prop} {x : S60} {cs : List Value} (h : Kd.FK k60 W ok x cs) : ∃ A2 c2, cs = [.int .i64 x.f0, .int .i64 x.f1.f0, .slice A2 x.f1.f1.length c2] ∧ x.f1.f1.length ≤ c2 ∧ Kd.F k25 W ok A2 x.f1.f1.length x.f1.f1 := by
  obtain ⟨A2, c2, rfl, l2, _⟩ := k60_open (Kd.FK_now h)
  exact ⟨A2, c2, rfl, l2, (fun W' hW => by obtain ⟨A2_, c2_, he, l2_, g2_⟩ := k60_open (h W' hW); injection (Option.some.inj (show some (Value.slice A2 x.f1.f1.length c2) = some (Value.slice A2_ x.f1.f1.length c2_) from congrArg (fun l => l[2]?) he)) with ha_ _ _; rw [ha_]; exact g2_)⟩
end Go.Proofs.Ythplndalbfcbbaa.PA
set_option linter.unusedVariables false
namespace Go.Proofs.Ythplndalbfcbbaa.PA
open Go.RowKit Go.Proofs.YthplndalbfcbbaaW.PrintWords
def elenchuslaw04_awake.f : Option (Bool) := some true
theorem elenchuslaw04_awake.calls (r : Bool) (w : World) (h : elenchuslaw04_awake.f = some r) :
    Calls Try.prog 57 #[] w fun e w' => e = .returned (.bool r) ∧ Below w.heap.size w w' := by
  cases h
  exact awake4_calls w
end Go.Proofs.Ythplndalbfcbbaa.PA
set_option linter.unusedSimpArgs false
set_option linter.unusedVariables false
namespace Go.Proofs.Ythplndalbfcbbaa
open Go.RowKit Go.Proofs.YthplndalbfcbbaaW.PrintWords
abbrev TS := PA.S25
abbrev BS := PA.S60
abbrev kT := PA.k25
abbrev kB := PA.k60
mutual
def toS : Tm → TS
  | .node h l => ⟨h, toSL l⟩
def toSL : List Tm → List TS
  | [] => []
  | t :: ts => toS t :: toSL ts
end
mutual
def ofS : TS → Tm
  | ⟨h, l⟩ => .node h (ofSL l)
def ofSL : List TS → List Tm
  | [] => []
  | x :: xs => ofS x :: ofSL xs
end
mutual
theorem ofS_toS : ∀ t : Tm, ofS (toS t) = t
  | .node h l => by simp only [toS, ofS, ofSL_toSL l]
theorem ofSL_toSL : ∀ l : List Tm, ofSL (toSL l) = l
  | [] => rfl
  | t :: ts => by simp only [toSL, ofSL, ofS_toS t, ofSL_toSL ts]
end
theorem toSL_map (l : List Tm) : toSL l = l.map toS := by induction l <;> simp_all [toSL]
theorem ofSL_map (l : List TS) : ofSL l = l.map ofS := by induction l <;> simp_all [ofSL]
theorem toSL_length (l : List Tm) : (toSL l).length = l.length := by rw [toSL_map]; simp
theorem ofSL_length (l : List TS) : (ofSL l).length = l.length := by rw [ofSL_map]; simp
theorem toS_f0 (t : Tm) : (toS t).f0 = t.h := by cases t; rfl
theorem toS_f1 (t : Tm) : (toS t).f1 = toSL t.args := by cases t; rfl
theorem ofS_h (x : TS) : (ofS x).h = x.f0 := by cases x; rfl
theorem ofS_args (x : TS) : (ofS x).args = ofSL x.f1 := by cases x; rfl
theorem add_flat (b off k : Nat) : (⟨b, off, none⟩ : Addr).add k = ⟨b, off + k, none⟩ := by unfold Addr.add; split <;> simp_all
mutual
theorem k_of {A : Nat → Prop} {w : World} : ∀ (t : Tm) (cs : List Value), RepD A w t.d cs → kT.K w (toS t) cs
  | .node h l, cs, hr => by
    obtain ⟨s, rfl, hs⟩ := repTm.1 hr
    have hs' : RepD A w (.row 2 (Tm.ds l)) [s] := hs
    simp only [RepD] at hs'
    obtain ⟨a, n, c, h1, h2, h3, h4, h5⟩ := hs'
    simp only [List.cons.injEq, and_true] at h1
    subst h1
    have hn : n = (toSL l).length := by rw [h2, Tm.ds_eq, toSL_length]; simp
    subst hn
    refine PA.k25_mk w (toS (.node h l)) (A1 := a) (c1 := c) h3 ⟨rfl, h4, fun h0 => ?_⟩
    obtain ⟨b, off, rfl, hb, hA, hR⟩ := h5 h0
    exact ⟨_, rfl, fun j p hp => by
      obtain ⟨c1, e1, e2, e3⟩ := kr_of l off hR j p hp
      exact ⟨c1, e1, e2, fun i u hu => by rw [add_flat, ← Nat.add_assoc]; exact e3 i u hu⟩⟩
theorem kr_of {A : Nat → Prop} {w : World} {b : Nat} : ∀ (l : List Tm) (off : Nat), RepR A w b 2 off (Tm.ds l) → ∀ j p, (toSL l)[j]? = some p → ∃ c : List Value, c.length = 2 ∧ kT.K w p c ∧ ∀ i u, c[i]? = some u → w.cell? ⟨b, off + j * 2 + i, none⟩ = some u
  | [], _, _, j, p, hp => by simp [toSL] at hp
  | t :: ts, off, h, j, p, hp => by
    simp only [Tm.ds, RepR] at h
    obtain ⟨⟨cs, e1, e2, e3⟩, h2⟩ := h
    cases j with
    | zero =>
      simp only [toSL, List.getElem?_cons_zero, Option.some.injEq] at hp
      subst hp
      refine ⟨cs, e1, k_of t cs e3, fun i u hu => ?_⟩
      have hi : i < 2 := by have := (List.getElem?_eq_some_iff.1 hu).1; omega
      rw [show off + 0 * 2 + i = off + i by omega, e2 i hi, hu]
    | succ j =>
      simp only [toSL, List.getElem?_cons_succ] at hp
      obtain ⟨c1, g1, g2, g3⟩ := kr_of ts (off + 2) h2 j p hp
      exact ⟨c1, g1, g2, fun i u hu => by rw [show off + (j + 1) * 2 + i = off + 2 + j * 2 + i by omega]; exact g3 i u hu⟩
end
theorem c_of {A : Nat → Prop} {w : World} {a : Option Addr} {n c : Nat} {l : List Tm} (hs : Terms A w (.slice a n c) l) : n = (toSL l).length ∧ (toSL l).length ≤ c ∧ kT.C w a (toSL l).length (toSL l) := by
  have hs' : RepD A w (.row 2 (Tm.ds l)) [.slice a n c] := hs
  simp only [RepD] at hs'
  obtain ⟨a', n', c', h1, h2, h3, h4, h5⟩ := hs'
  simp only [List.cons.injEq, and_true, Value.slice.injEq] at h1
  obtain ⟨rfl, rfl, rfl⟩ := h1
  have hn : n = (toSL l).length := by rw [h2, Tm.ds_eq, toSL_length]; simp
  subst hn
  refine ⟨rfl, h3, rfl, h4, fun h0 => ?_⟩
  obtain ⟨b, off, rfl, hb, hA, hR⟩ := h5 h0
  exact ⟨_, rfl, fun j p hp => by
    obtain ⟨c1, e1, e2, e3⟩ := kr_of l off hR j p hp
    exact ⟨c1, e1, e2, fun i u hu => by rw [add_flat, ← Nat.add_assoc]; exact e3 i u hu⟩⟩
theorem f_of {A ok : Nat → Prop} {w : World} {a : Option Addr} {n c : Nat} {l : List Tm} (hs : Terms A w (.slice a n c) l) (hA : ∀ b, b < w.heap.size → ¬ A b → ok b) : Kd.F kT w ok a (toSL l).length (toSL l) := fun W' hW =>
  (c_of (RepD.frame (B := A) (fun b hb hlt => hW b (hA b hlt hb) hlt) (fun _ _ h => h) _ _ hs : Terms A W' (.slice a n c) l)).2.2
theorem v_of {A ok : Nat → Prop} {w : World} {base e : Nat} {v : Value} {l : List Tm} (hs : Terms A w v l) (hA : ∀ b, b < w.heap.size → ¬ A b → ok b) : Kd.V kT e w base ok v (toSL l) := by
  obtain ⟨a, c, rfl, hc, hm⟩ := hs.shape
  refine ⟨a, c, ?_, by rw [toSL_length]; exact hc, f_of hs hA⟩
  rw [toSL_length]
theorem plain_of {w : World} {ad : Addr} {u : Value} (h : w.cell? ad = some u) : ad = ⟨ad.block, ad.off, none⟩ ∧ ad.block < w.heap.size := by
  refine ⟨?_, World.block_lt_of_cell? w ad h⟩
  cases ad with
  | mk b o s =>
    cases s with
    | none => rfl
    | some x =>
      unfold World.cell? at h
      split at h
      · simp at h
      · cases h
mutual
theorem tm_of {ok : Nat → Prop} {w : World} : ∀ (x : TS) (cs : List Value), Kd.FK kT w ok x cs → RepD (fun b => ¬ ok b) w (ofS x).d cs
  | ⟨h, l⟩, cs, hf => by
    obtain ⟨A1, c1, rfl, l1, g1⟩ := PA.k25_openF hf
    refine repTm.2 ⟨_, rfl, ?_⟩
    show RepD _ w (.row 2 (Tm.ds (ofSL l))) _
    simp only [RepD]
    refine ⟨A1, l.length, c1, rfl, by rw [Tm.ds_eq, List.length_map, ofSL_length], l1, Kd.F_max g1, fun h0 => ?_⟩
    obtain ⟨ad, c0, rfl, e1, _, e2, e3⟩ := Kd.F_get g1 PA.z25 0 (by omega) (by show (0 : Int) < (l.length : Int); omega)
    have hc0 : c0.length = 2 := e1
    have hcell := e2 0 (c0[0]'(by omega)) (List.getElem?_eq_getElem (by omega))
    obtain ⟨hp, hlt⟩ := plain_of (show w.cell? ad = some (c0[0]'(by omega)) from hcell)
    refine ⟨ad.block, ad.off, by rw [← hp], hlt, fun hn => hn (e3 (by show 0 < 2; omega)), tr_of l ad.off fun j p hj => ?_⟩
    have hjl := (List.getElem?_eq_some_iff.1 hj).1
    obtain ⟨ad', cs, he, g2, g3, g4, _⟩ := Kd.F_get g1 PA.z25 j (by omega) (by show (j : Int) < (l.length : Int); omega)
    simp only [Option.some.injEq] at he
    subst he
    have hx : l.getD (j : Int).toNat PA.z25 = p := by simp [List.getD_eq_getElem?_getD, hj]
    have g3' : Kd.FK kT w ok (l.getD (j : Int).toNat PA.z25) cs := g3
    rw [hx] at g3'
    refine ⟨cs, g2, g3', fun i u hu => ?_⟩
    have := g4 i u hu
    rw [hp, add_flat] at this
    rw [show ad.off + j * 2 + i = ad.off + ((j : Int).toNat * 2 + i) by simp; omega]
    exact this
theorem tr_of {ok : Nat → Prop} {w : World} {b : Nat} : ∀ (l : List TS) (off : Nat), (∀ j p, l[j]? = some p → ∃ cs : List Value, cs.length = 2 ∧ Kd.FK kT w ok p cs ∧ ∀ i u, cs[i]? = some u → w.cell? ⟨b, off + j * 2 + i, none⟩ = some u) → RepR (fun b => ¬ ok b) w b 2 off (Tm.ds (ofSL l))
  | [], _, _ => by simp only [ofSL, Tm.ds, RepR]
  | x :: xs, off, h => by
    simp only [ofSL, Tm.ds, RepR]
    obtain ⟨cs, e1, e2, e3⟩ := h 0 x rfl
    refine ⟨⟨cs, e1, fun i hi => ?_, tm_of x cs e2⟩, tr_of xs (off + 2) fun j p hj => ?_⟩
    · have := e3 i (cs[i]'(by omega)) (List.getElem?_eq_getElem (by omega))
      rw [show off + 0 * 2 + i = off + i by omega] at this
      rw [this, List.getElem?_eq_getElem (by omega)]
    · obtain ⟨c1, g1, g2, g3⟩ := h (j + 1) p (by simpa using hj)
      exact ⟨c1, g1, g2, fun i u hu => by rw [show off + 2 + j * 2 + i = off + (j + 1) * 2 + i by omega]; exact g3 i u hu⟩
end
theorem terms_of {ok : Nat → Prop} {w : World} {a : Option Addr} {c : Nat} {l : List TS} (hc : l.length ≤ c) (hf : Kd.F kT w ok a l.length l) : Terms (fun b => ¬ ok b) w (.slice a l.length c) (ofSL l) := by
  have h : Kd.FK kT w ok (⟨0, l⟩ : TS) [.int .i64 0, .slice a l.length c] := PA.k25_mkF w ok ⟨0, l⟩ hc hf
  have h2 := tm_of _ _ h
  obtain ⟨s, e, h3⟩ := repTm.1 h2
  simp only [List.cons.injEq, and_true] at e
  rw [e.2]; exact h3
theorem terms_of_v {ok : Nat → Prop} {w : World} {base e : Nat} {a : Option Addr} {n c : Nat} {l : List TS} (h : Kd.V kT e w base ok (.slice a n c) l) : Terms (fun b => ¬ ok b) w (.slice a n c) (ofSL l) := by
  obtain ⟨a', c', e', hc, hf⟩ := h
  simp only [Value.slice.injEq] at e'
  obtain ⟨rfl, rfl, rfl⟩ := e'
  exact terms_of hc hf
def toB (b : Bd) : BS := ⟨b.v, toS b.t⟩
def ofB (x : BS) : Bd := ⟨x.f0, ofS x.f1⟩
def toBL (l : List Bd) : List BS := l.map toB
def ofBL (l : List BS) : List Bd := l.map ofB
theorem ofB_toB (b : Bd) : ofB (toB b) = b := by cases b; simp [toB, ofB, ofS_toS]
theorem ofBL_toBL (l : List Bd) : ofBL (toBL l) = l := by simp [ofBL, toBL, ofB_toB, Function.comp_def]
theorem toBL_length (l : List Bd) : (toBL l).length = l.length := by simp [toBL]
theorem ofBL_length (l : List BS) : (ofBL l).length = l.length := by simp [ofBL]
theorem kb_of {A : Nat → Prop} {w : World} (b : Bd) (cs : List Value) (h : RepD A w b.d cs) : kB.K w (toB b) cs := by
  obtain ⟨s, rfl, hs⟩ := repBd.1 h
  obtain ⟨a, c, rfl, hc, hm⟩ := hs.shape
  have h1 := c_of hs
  have h2 := PA.k60_mk w (toB b) (A2 := a) (c2 := c) (by show (toS b.t).f1.length ≤ c; rw [toS_f1, toSL_length]; exact hc) (by show kT.C w a (toS b.t).f1.length (toS b.t).f1; rw [toS_f1]; exact h1.2.2)
  have e1 : (toB b).f1.f0 = b.t.h := toS_f0 b.t
  have e2 : (toB b).f1.f1.length = b.t.args.length := by show (toS b.t).f1.length = _; rw [toS_f1, toSL_length]
  have e3 : (toB b).f0 = b.v := rfl
  rw [e1, e2, e3] at h2
  exact h2
theorem cb_of {A : Nat → Prop} {w : World} {a : Option Addr} {n c : Nat} {l : List Bd} (hs : Binds A w (.slice a n c) l) : n = (toBL l).length ∧ (toBL l).length ≤ c ∧ kB.C w a (toBL l).length (toBL l) := by
  have hs' : RepD A w (.row 3 (l.map Bd.d)) [.slice a n c] := hs
  simp only [RepD] at hs'
  obtain ⟨a', n', c', h1, h2, h3, h4, h5⟩ := hs'
  simp only [List.cons.injEq, and_true, Value.slice.injEq] at h1
  obtain ⟨rfl, rfl, rfl⟩ := h1
  have hn : n = (toBL l).length := by rw [h2, toBL_length]; simp
  subst hn
  refine ⟨rfl, h3, rfl, h4, fun h0 => ?_⟩
  obtain ⟨b, off, rfl, hb, hA, hR⟩ := h5 h0
  refine ⟨_, rfl, fun j p hp => ?_⟩
  simp only [toBL, List.getElem?_map, Option.map_eq_some_iff] at hp
  obtain ⟨x, hx, rfl⟩ := hp
  have hj : j < (l.map Bd.d).length := by have := (List.getElem?_eq_some_iff.1 hx).1; simpa using this
  obtain ⟨cs, g1, g2, g3⟩ := hR.at j hj
  have hx' : (l.map Bd.d)[j] = x.d := by simp [List.getElem_map, (List.getElem?_eq_some_iff.1 hx).2]
  rw [hx'] at g3
  refine ⟨cs, g1, kb_of x cs g3, fun i u hu => ?_⟩
  have hi : i < 3 := by have := (List.getElem?_eq_some_iff.1 hu).1; omega
  rw [add_flat]
  show w.cell? ⟨b, off + (j * 3 + i), none⟩ = some u
  rw [← Nat.add_assoc, g2 i hi, hu]
theorem fb_of {A ok : Nat → Prop} {w : World} {a : Option Addr} {n c : Nat} {l : List Bd} (hs : Binds A w (.slice a n c) l) (hA : ∀ b, b < w.heap.size → ¬ A b → ok b) : Kd.F kB w ok a (toBL l).length (toBL l) := fun W' hW =>
  (cb_of (RepD.frame (B := A) (fun b hb hlt => hW b (hA b hlt hb) hlt) (fun _ _ h => h) _ _ hs : Binds A W' (.slice a n c) l)).2.2
theorem vb_of {A ok : Nat → Prop} {w : World} {base e : Nat} {v : Value} {l : List Bd} (hs : Binds A w v l) (hA : ∀ b, b < w.heap.size → ¬ A b → ok b) : Kd.V kB e w base ok v (toBL l) := by
  obtain ⟨a, c, rfl, hc, hm⟩ := hs.shape
  refine ⟨a, c, ?_, by rw [toBL_length]; exact hc, fb_of hs hA⟩
  rw [toBL_length]
theorem bd_of {ok : Nat → Prop} {w : World} (x : BS) (cs : List Value) (hf : Kd.FK kB w ok x cs) : RepD (fun b => ¬ ok b) w (ofB x).d cs := by
  obtain ⟨A2, c2, rfl, l2, g2⟩ := PA.k60_openF hf
  refine repBd.2 ⟨.slice A2 x.f1.f1.length c2, ?_, ?_⟩
  · simp only [ofB, ofS_h]
  · show Terms _ w _ (ofS x.f1).args
    rw [ofS_args]; exact terms_of l2 g2
theorem bs_of {ok : Nat → Prop} {w : World} {b : Nat} : ∀ (l : List BS) (off : Nat), (∀ j p, l[j]? = some p → ∃ cs : List Value, cs.length = 3 ∧ Kd.FK kB w ok p cs ∧ ∀ i u, cs[i]? = some u → w.cell? ⟨b, off + j * 3 + i, none⟩ = some u) → RepR (fun b => ¬ ok b) w b 3 off ((ofBL l).map Bd.d)
  | [], _, _ => by simp only [ofBL, List.map_nil, RepR]
  | x :: xs, off, h => by
    simp only [ofBL, List.map_cons, RepR]
    obtain ⟨cs, e1, e2, e3⟩ := h 0 x rfl
    refine ⟨⟨cs, e1, fun i hi => ?_, bd_of x cs e2⟩, bs_of xs (off + 3) fun j p hj => ?_⟩
    · have := e3 i (cs[i]'(by omega)) (List.getElem?_eq_getElem (by omega))
      rw [show off + 0 * 3 + i = off + i by omega] at this
      rw [this, List.getElem?_eq_getElem (by omega)]
    · obtain ⟨c1, g1, g2, g3⟩ := h (j + 1) p (by simpa using hj)
      exact ⟨c1, g1, g2, fun i u hu => by rw [show off + 3 + j * 3 + i = off + (j + 1) * 3 + i by omega]; exact g3 i u hu⟩
theorem binds_of {ok : Nat → Prop} {w : World} {a : Option Addr} {c : Nat} {l : List BS} (hc : l.length ≤ c) (g1 : Kd.F kB w ok a l.length l) : Binds (fun b => ¬ ok b) w (.slice a l.length c) (ofBL l) := by
  show RepD _ w (.row 3 ((ofBL l).map Bd.d)) _
  simp only [RepD]
  refine ⟨a, l.length, c, rfl, by rw [List.length_map, ofBL_length], hc, Kd.F_max g1, fun h0 => ?_⟩
  obtain ⟨ad, c0, rfl, e1, _, e2, e3⟩ := Kd.F_get g1 PA.z60 0 (by omega) (by show (0 : Int) < (l.length : Int); omega)
  have hc0 : c0.length = 3 := e1
  have hcell := e2 0 (c0[0]'(by omega)) (List.getElem?_eq_getElem (by omega))
  obtain ⟨hp, hlt⟩ := plain_of (show w.cell? ad = some (c0[0]'(by omega)) from hcell)
  refine ⟨ad.block, ad.off, by rw [← hp], hlt, fun hn => hn (e3 (by show 0 < 3; omega)), bs_of l ad.off fun j p hj => ?_⟩
  have hjl := (List.getElem?_eq_some_iff.1 hj).1
  obtain ⟨ad', cs, he, g2, g3, g4, _⟩ := Kd.F_get g1 PA.z60 j (by omega) (by show (j : Int) < (l.length : Int); omega)
  simp only [Option.some.injEq] at he
  subst he
  have hx : l.getD (j : Int).toNat PA.z60 = p := by simp [List.getD_eq_getElem?_getD, hj]
  have g3' : Kd.FK kB w ok (l.getD (j : Int).toNat PA.z60) cs := g3
  rw [hx] at g3'
  refine ⟨cs, g2, g3', fun i u hu => ?_⟩
  have := g4 i u hu
  rw [hp, add_flat] at this
  have e4 : ad.off + j * 3 + i = ad.off + ((j : Int).toNat * 3 + i) := by simp; omega
  rw [e4]
  exact this
theorem binds_of_v {ok : Nat → Prop} {w : World} {base e : Nat} {a : Option Addr} {n c : Nat} {l : List BS} (h : Kd.V kB e w base ok (.slice a n c) l) : Binds (fun b => ¬ ok b) w (.slice a n c) (ofBL l) := by
  obtain ⟨a', c', e', hc, hf⟩ := h
  simp only [Value.slice.injEq] at e'
  obtain ⟨rfl, rfl, rfl⟩ := e'
  exact binds_of hc hf
theorem is_of {w : World} {b : Nat} : ∀ (l : List Int) (off : Nat) (A : Nat → Prop), (∀ j p, l[j]? = some p → w.cell? ⟨b, off + j, none⟩ = some (.int .i64 p)) → RepR A w b 1 off (l.map intD)
  | [], _, _, _ => by simp only [List.map_nil, RepR]
  | x :: xs, off, A, h => by
    simp only [List.map_cons, RepR]
    refine ⟨⟨[.int .i64 x], rfl, fun i hi => ?_, by simp only [intD, RepD]⟩, is_of xs (off + 1) A fun j p hj => ?_⟩
    · have : i = 0 := by omega
      subst this
      have := h 0 x rfl
      simpa using this
    · have := h (j + 1) p (by simpa using hj)
      rw [show off + 1 + j = off + (j + 1) by omega]; exact this
theorem ints_of {ok : Nat → Prop} {w : World} {a : Option Addr} {c : Nat} {l : List Int} (hc : l.length ≤ c) (g1 : Kd.F (Kd.int .i64) w ok a l.length l) : Ints (fun b => ¬ ok b) w (.slice a l.length c) l := by
  show RepD _ w (.row 1 (l.map intD)) _
  simp only [RepD]
  refine ⟨a, l.length, c, rfl, by rw [List.length_map], hc, Kd.F_max g1, fun h0 => ?_⟩
  obtain ⟨ad, c0, rfl, e1, _, e2, e3⟩ := Kd.F_get g1 0 0 (by omega) (by show (0 : Int) < (l.length : Int); omega)
  have hc0 : c0.length = 1 := e1
  have hcell := e2 0 (c0[0]'(by omega)) (List.getElem?_eq_getElem (by omega))
  obtain ⟨hp, hlt⟩ := plain_of (show w.cell? ad = some (c0[0]'(by omega)) from hcell)
  refine ⟨ad.block, ad.off, by rw [← hp], hlt, fun hn => hn (e3 (by show 0 < 1; omega)), is_of l ad.off _ fun j p hj => ?_⟩
  have hjl := (List.getElem?_eq_some_iff.1 hj).1
  obtain ⟨ad', cs, he, g2, g3, g4, _⟩ := Kd.F_get g1 0 j (by omega) (by show (j : Int) < (l.length : Int); omega)
  simp only [Option.some.injEq] at he
  subst he
  have hx : l.getD (j : Int).toNat 0 = p := by simp [List.getD_eq_getElem?_getD, hj]
  have g3' : cs = [.int .i64 (l.getD (j : Int).toNat 0)] := Kd.FK_now g3
  rw [hx] at g3'
  have := g4 0 (.int .i64 p) (by rw [g3']; rfl)
  rw [hp, add_flat] at this
  have e4 : ad.off + j = ad.off + ((j : Int).toNat * 1 + 0) := by simp
  rw [e4]
  exact this
theorem ints_of_c {w : World} {a : Option Addr} {c : Nat} {l : List Int} (hc : l.length ≤ c) (h : (Kd.int .i64).C w a l.length l) : Ints (fun _ => False) w (.slice a l.length c) l :=
  RepD.frame (A := fun b => ¬ (b < w.heap.size)) (B := fun _ => False) (fun _ _ _ => rfl) (fun _ _ h => h.elim) _ _ (ints_of hc (Kd.C_F (Kd.heap_int .i64) h))
end Go.Proofs.Ythplndalbfcbbaa
set_option linter.unusedSimpArgs false
set_option linter.unusedVariables false
namespace Go.Proofs.Ythplndalbfcbbaa
open Go.RowKit Go.Proofs.YthplndalbfcbbaaW.PrintWords
theorem isTm_of_v {ok : Nat → Prop} {w : World} {base e : Nat} {h : Int} {a : Option Addr} {n c : Nat} {l : List TS} (hr : Kd.V kT e w base ok (.slice a n c) l) : IsTm (fun b => ¬ ok b) w h (.slice a n c) (ofS ⟨h, l⟩) := by
  refine ⟨rfl, ?_⟩
  exact terms_of_v hr
namespace PA
end PA
end Go.Proofs.Ythplndalbfcbbaa
set_option linter.unusedSimpArgs false
set_option linter.unusedVariables false
namespace Go.Proofs.Ythplndalbfcbbaa
open Go.RowKit Go.Proofs.YthplndalbfcbbaaW.PrintWords
def okBd (b : Bd) : Bool := decide (-9223372036854775808 ≤ b.v) && decide (b.v ≤ 9223372036854775807) && decide (b.t.size ≤ 1000)
theorem okBd_iff {bs : List Bd} (h : bs.all okBd = true) : (∀ b, b ∈ bs → -9223372036854775808 ≤ b.v ∧ b.v ≤ 9223372036854775807) ∧ ∀ b, b ∈ bs → b.t.size ≤ 1000 := by
  rw [List.all_eq_true] at h
  refine ⟨fun b hb => ?_, fun b hb => ?_⟩
  · have := h b hb; simp only [okBd, Bool.and_eq_true, decide_eq_true_eq] at this; exact this.1
  · have := h b hb; simp only [okBd, Bool.and_eq_true, decide_eq_true_eq] at this; exact this.2
theorem barOld {w : World} (P : Nat → Prop) : ∀ b, (b < w.heap.size ∧ ¬ P b) → b < w.heap.size := fun _ h => h.1
theorem Binds.bar2 {A B : Nat → Prop} {w : World} {s : Value} {bs : List Bd} (h : Binds A w s bs) (hB : ∀ b, B b → A b) : Binds B w s bs := RepD.bar h fun b _ hb => hB b hb
theorem IsTm.bar2 {A B : Nat → Prop} {w : World} {x : Int} {s : Value} {t : Tm} (h : IsTm A w x s t) (hB : ∀ b, B b → A b) : IsTm B w x s t := ⟨h.1, RepD.bar h.2 fun b _ hb => hB b hb⟩
namespace PA
def subst_Apply.f (l0 : List BS) (a1 : Int) (l1 : List TS) : Option (Int × (List TS) × Int) :=
  if (ofBL l0).all okBd = true ∧ (ofS ⟨a1, l1⟩).size ≤ 1000000 then some ((applyT (ofBL l0) (ofS ⟨a1, l1⟩)).1.h, toSL (applyT (ofBL l0) (ofS ⟨a1, l1⟩)).1.args, (applyT (ofBL l0) (ofS ⟨a1, l1⟩)).2) else none
theorem subst_Apply.calls (P0_ : Nat → Prop) (A0 : Option Addr) (c0 : Nat) (l0 : List BS) (a1_0 : Int) (P1_1_ : Nat → Prop) (A1_1 : Option Addr) (c1_1 : Nat) (l1_1 : List TS) (r1 : Int) (r2 : List TS) (r3 : Int) (w : World)
    (hs0 : Kd.V kB 60 w w.heap.size (fun k_ => P0_ k_) (.slice A0 l0.length c0) l0) (hs1_1 : Kd.V kT 25 w w.heap.size (fun k_ => P1_1_ k_) (.slice A1_1 l1_1.length c1_1) l1_1) (h : subst_Apply.f l0 a1_0 l1_1 = some (r1, r2, r3)) :
    Calls Try.prog 27 #[.slice A0 l0.length c0, .agg #[.int .i64 a1_0, .slice A1_1 l1_1.length c1_1]] w fun e w' => ∃ v1_ : Value, e = .returned (.tuple #[.agg #[.int .i64 r1, v1_], .int .i64 r3]) ∧ Kd.V kT 25 w' w.heap.size (fun k_ => ((P0_ k_ ∨ P1_1_ k_) ∨ w.heap.size ≤ k_)) v1_ r2 ∧ Below w.heap.size w w' := by
  unfold subst_Apply.f at h
  split at h
  · rename_i hs
    simp only [Option.some.injEq, Prod.mk.injEq] at h
    obtain ⟨rfl, rfl, rfl⟩ := h
    refine (subapply_calls _ (ofS ⟨a1_0, l1_1⟩) 1000 (fun b => b < w.heap.size ∧ ¬ (P0_ b ∨ P1_1_ b)) _ _ _ w (barOld _) (okBd_iff hs.1).1 (by omega) (okBd_iff hs.1).2 (by omega) (by have := hs.2; omega) ((binds_of_v hs0).bar2 fun b h hp => h.2 (.inl hp)) ((isTm_of_v hs1_1).bar2 fun b h hp => h.2 (.inr hp))).mono ?_
    rintro e w' ⟨s, rfl, h1, h2⟩
    exact ⟨s, rfl, v_of h1 (fun b _ hb => by
      by_cases hp : P0_ b ∨ P1_1_ b
      · exact .inl hp
      · exact .inr (Nat.not_lt.1 fun hlt => hb ⟨hlt, hp⟩)), h2⟩
  · cases h
def subst_Shift.f (a0 : Int) (l0 : List TS) (a1 : Int) : Option (Int × (List TS) × Int) :=
  if (ofS ⟨a0, l0⟩).size ≤ 1000000000 then some ((shiftE a1 (ofS ⟨a0, l0⟩)).1.h, toSL (shiftE a1 (ofS ⟨a0, l0⟩)).1.args, (shiftE a1 (ofS ⟨a0, l0⟩)).2) else none
theorem subst_Shift.calls (a0_0 : Int) (P0_1_ : Nat → Prop) (A0_1 : Option Addr) (c0_1 : Nat) (l0_1 : List TS) (a1 : Int) (r1 : Int) (r2 : List TS) (r3 : Int) (w : World) (hs0_1 : Kd.V kT 25 w w.heap.size (fun k_ => P0_1_ k_) (.slice A0_1 l0_1.length c0_1) l0_1) (h : subst_Shift.f a0_0 l0_1 a1 = some (r1, r2, r3)) :
    Calls Try.prog 29 #[.agg #[.int .i64 a0_0, .slice A0_1 l0_1.length c0_1], .int .i64 a1] w fun e w' => ∃ v1_ : Value, e = .returned (.tuple #[.agg #[.int .i64 r1, v1_], .int .i64 r3]) ∧ Kd.V kT 25 w' w.heap.size (fun k_ => (P0_1_ k_ ∨ w.heap.size ≤ k_)) v1_ r2 ∧ Below w.heap.size w w' := by
  unfold subst_Shift.f at h
  split at h
  · rename_i hs
    simp only [Option.some.injEq, Prod.mk.injEq] at h
    obtain ⟨rfl, rfl, rfl⟩ := h
    refine (subshift_calls a1 (ofS ⟨a0_0, l0_1⟩) (fun b => b < w.heap.size ∧ ¬ P0_1_ b) _ _ w (barOld _) hs ((isTm_of_v hs0_1).bar2 fun b h => h.2)).mono ?_
    rintro e w' ⟨s, rfl, h1, h2⟩
    exact ⟨s, rfl, v_of h1 (fun b _ hb => by
      by_cases hp : P0_1_ b
      · exact .inl hp
      · exact .inr (Nat.not_lt.1 fun hlt => hb ⟨hlt, hp⟩)), h2⟩
  · cases h
end PA
end Go.Proofs.Ythplndalbfcbbaa
set_option linter.unusedSimpArgs false
set_option linter.unusedVariables false
namespace Go.Proofs.Ythplndalbfcbbaa
open Go.RowKit Go.Proofs.YthplndalbfcbbaaW.PrintWords
namespace PA
def elenchusref01_In.f (a0 : Int) (l0 : List Int) : Option Bool := some (hasB a0 l0)
theorem elenchusref01_In.calls (a0 : Int) (A1 : Option Addr) (c1 : Nat) (l1 : List Int) (r : Bool) (w : World) (hr1 : Kd.C (Kd.int .i64) w A1 l1.length l1) (hc1 : l1.length ≤ c1) (h : elenchusref01_In.f a0 l1 = some r) :
    Calls Try.prog 40 #[.int .i64 a0, .slice A1 l1.length c1] w fun e w' => e = .returned (.bool r) ∧ Below w.heap.size w w' := by
  cases h
  exact in_calls _ _ _ _ w (ints_of_c hc1 hr1)
end PA
end Go.Proofs.Ythplndalbfcbbaa
set_option linter.unusedSimpArgs false
set_option linter.unusedVariables false
namespace Go.Proofs.Ythplndalbfcbbaa
open Go.RowKit Go.Proofs.YthplndalbfcbbaaW.PrintWords
theorem share_ok {w : World} {P : Nat → Prop} : ∀ b, ¬ (b < w.heap.size ∧ ¬ P b) → (P b ∨ w.heap.size ≤ b) := fun b hb => by
  by_cases hp : P b
  · exact .inl hp
  · exact .inr (Nat.not_lt.1 fun hlt => hb ⟨hlt, hp⟩)
namespace PA
end PA
end Go.Proofs.Ythplndalbfcbbaa
set_option linter.unusedSimpArgs false
set_option linter.unusedVariables false
namespace Go.Proofs.Ythplndalbfcbbaa
open Go.RowKit Go.Proofs.YthplndalbfcbbaaW.PrintWords
namespace PA
def unify_Mgu.f (a0 : Int) (l0 : List TS) (a1 : Int) (l1 : List TS) : Option ((List BS) × Bool × Int) :=
  if (ofS ⟨a0, l0⟩).size ≤ 1000000000 ∧ (ofS ⟨a1, l1⟩).size ≤ 1000000000 then some (toBL (unifyT [ofS ⟨a0, l0⟩] [ofS ⟨a1, l1⟩]).1, (unifyT [ofS ⟨a0, l0⟩] [ofS ⟨a1, l1⟩]).2.1, (unifyT [ofS ⟨a0, l0⟩] [ofS ⟨a1, l1⟩]).2.2) else none
theorem unify_Mgu.calls (a0_0 : Int) (P0_1_ : Nat → Prop) (A0_1 : Option Addr) (c0_1 : Nat) (l0_1 : List TS) (a1_0 : Int) (P1_1_ : Nat → Prop) (A1_1 : Option Addr) (c1_1 : Nat) (l1_1 : List TS) (r1 : List BS) (r2 : Bool) (r3 : Int) (w : World)
    (hs0_1 : Kd.V kT 25 w w.heap.size (fun k_ => P0_1_ k_) (.slice A0_1 l0_1.length c0_1) l0_1) (hs1_1 : Kd.V kT 25 w w.heap.size (fun k_ => P1_1_ k_) (.slice A1_1 l1_1.length c1_1) l1_1) (h : unify_Mgu.f a0_0 l0_1 a1_0 l1_1 = some (r1, r2, r3)) :
    Calls Try.prog 55 #[.agg #[.int .i64 a0_0, .slice A0_1 l0_1.length c0_1], .agg #[.int .i64 a1_0, .slice A1_1 l1_1.length c1_1]] w fun e w' => ∃ v0_ : Value, e = .returned (.tuple #[v0_, .bool r2, .int .i64 r3]) ∧ Kd.V kB 60 w' w.heap.size (fun k_ => ((P0_1_ k_ ∨ P1_1_ k_) ∨ w.heap.size ≤ k_)) v0_ r1 ∧ Below w.heap.size w w' := by
  unfold unify_Mgu.f at h
  split at h
  · rename_i hs
    simp only [Option.some.injEq, Prod.mk.injEq] at h
    obtain ⟨rfl, rfl, rfl⟩ := h
    refine (umgu_calls (fun b => b < w.heap.size ∧ ¬ (P0_1_ b ∨ P1_1_ b)) _ _ _ _ _ _ w hs.1 hs.2 (barOld _) ((isTm_of_v hs0_1).bar2 fun b h hp => h.2 (.inl hp)) ((isTm_of_v hs1_1).bar2 fun b h hp => h.2 (.inr hp))).mono ?_
    rintro e w' ⟨v, rfl, h1, h2⟩
    exact ⟨v, rfl, vb_of h1 (fun b _ hb => share_ok (w := w) (P := fun b => P0_1_ b ∨ P1_1_ b) b hb), h2⟩
  · cases h
end PA
end Go.Proofs.Ythplndalbfcbbaa
set_option linter.unusedVariables false
namespace Go.Proofs.Ythplndalbfcbbaa.PA
open Go.RowKit Go.Proofs.YthplndalbfcbbaaW.PrintWords Go.Proofs.YthplndalbfcbbaaW.PrintLast Go.Proofs.YthplndalbfcbbaaW.PrintMore
abbrev vA := @Kd.V_alloc
abbrev vN := @Kd.V_drewN
abbrev vD := @Kd.V_drew
abbrev nA := @Kd.N_alloc
abbrev nN := @Kd.N_drewN
abbrev nD := @Kd.N_drew
abbrev bA := @blk_alloc
abbrev bN := @blk_drewN
abbrev bD := @blk_drew
abbrev wA := @below_alloc
abbrev wN := @pw_below_drewN
abbrev wD := @below_drew1
abbrev wS := @below_set
abbrev F_ := false
abbrev T_ := true
theorem sT {α : Type _} {xs : List α} {i : Nat} {a : α} : xs.toArray.setIfInBounds i a = (xs.set i a).toArray := List.setIfInBounds_toArray ..
theorem s0 {α : Type _} {x : α} {xs : List α} {a : α} : (x :: xs).set 0 a = a :: xs := rfl
theorem sS {α : Type _} {x : α} {xs : List α} {i : Nat} {a : α} : (x :: xs).set (i + 1) a = x :: xs.set i a := rfl
end Go.Proofs.Ythplndalbfcbbaa.PA
namespace Go.Proofs.Ythplndalbfcbbaa.PA
open Go.RowKit Go.Proofs.YthplndalbfcbbaaW.PrintWords Go.Proofs.YthplndalbfcbbaaW.PrintLast Go.Proofs.YthplndalbfcbbaaW.PrintMore
attribute [local go_sem] max2_int min2_int max_two min_two max_three min_three max_four min_four   -- for this text's walks alone
set_option linter.unusedVariables false
set_option linter.unusedSimpArgs false
mutual
def elenchusref01_Vars.j0 : Nat → List Int → Int → List (S25) → Option (List Int)
  | 0, _, _, _ => none
  | k + 1, x3, x173000, x173001 => elenchusref01_Vars.l0 k x3 0 x173000 x173001
def elenchusref01_Vars.l0 : Nat → List Int → Int → Int → List (S25) → Option (List Int)
  | 0, _, _, _, _ => none
  | k + 1, x3, x4, x173000, x173001 => if x4 < (x173001.length : Int) then (if 0 ≤ x4 then ((elenchusref01_Vars.f k ((rd_T25 x173001 x4).f0) ((rd_T25 x173001 x4).f1)).bind fun t177 => (elenchusref01_Vars.l1 k x3 x4 t177 0 x173000 x173001)) else (none)) else (some x3)
def elenchusref01_Vars.l1 : Nat → List Int → Int → List Int → Int → Int → List (S25) → Option (List Int)
  | 0, _, _, _, _, _, _ => none
  | k + 1, x3, x4, x5, x6, x173000, x173001 => if x6 < (x5.length : Int) then (if 0 ≤ x6 then ((elenchusref01_In.f (rd x5 x6) x3).bind fun t181 => (if t181 = true then (elenchusref01_Vars.l1 k x3 x4 x5 (wrap64 (x6 + 1)) x173000 x173001) else (if x3.length < 17592186044416 then (elenchusref01_Vars.l1 k (x3 ++ [rd x5 x6]) x4 x5 (wrap64 (x6 + 1)) x173000 x173001) else (none)))) else (none)) else (elenchusref01_Vars.l0 k x3 (wrap64 (x4 + 1)) x173000 x173001)
def elenchusref01_Vars.f : Nat → Int → List (S25) → Option (List Int)
  | 0, _, _ => none
  | k + 1, a0_0, l0_1 => if a0_0 < 0 then (if ([] : List Int).length < 17592186044416 then (elenchusref01_Vars.j0 k (([] : List Int) ++ [wrap64 ((-1) - a0_0)]) a0_0 l0_1) else (none)) else (elenchusref01_Vars.j0 k ([] : List Int) a0_0 l0_1)
end
set_option maxHeartbeats 8000000 in
set_option maxRecDepth 100000 in
theorem elenchusref01_Vars.calls (k : Nat) : ∀ (a0_0 : Int) (A0_1 : Option Addr) (c0_1 : Nat) (l0_1 : List (S25)) (r : List Int) (w : World) (hr0_1 : Kd.C k25 w A0_1 l0_1.length l0_1) (hc0_1 : l0_1.length ≤ c0_1) (h : elenchusref01_Vars.f k a0_0 l0_1 = some r),
    Calls Try.prog 76 #[.agg #[.int .i64 a0_0, .slice A0_1 l0_1.length c0_1]] w fun e w' => ∃ v0_ : Value, e = .returned (v0_) ∧ Kd.R (Kd.int .i64) 3 w' w.heap.size (fun _ => True) v0_ r ∧ Below w.heap.size w w' := by
  induction k using Nat.strongRecOn with
  | _ k ih =>
  intro a0_0 A0_1 c0_1 l0_1 r w hr0_1 hc0_1 h
  cases k with
  | zero => exact absurd h (by simp [elenchusref01_Vars.f])
  | succ k =>
  simp only [elenchusref01_Vars.f] at h
  have hu25 := Try.underlying25
  have HR0_1 := Aside0.mk hr0_1
  have HC0_1 := Aside0.mk hc0_1
  clear hr0_1 hc0_1
  have HB := Aside0.mk (Below.refl w.heap.size w)
  have H : (if a0_0 < 0 then (if ([] : List Int).length < 17592186044416 then (elenchusref01_Vars.j0 k (([] : List Int) ++ [wrap64 ((-1) - a0_0)]) a0_0 l0_1) else (none)) else (elenchusref01_Vars.j0 k ([] : List Int) a0_0 l0_1)) = some r := h
  clear h
  have HC2 := Aside0.mk H
  clear H
  go_enter Try.func76, Try.ntmps76
  go_upto_if 9 with (first | ((with_reducible refine gate_dst (N := 1) rfl ?_); refine box_event ?hg (N := 1) ?hd (cs := #[.int .i64 a0_0, .slice A0_1 l0_1.length c0_1]) (t := 25) ?hr ?_; (case hd => rfl); (case hg => rfl); (case hr => first | (go_simp; done) | (go_simp; rfl)); intro gb172 hg w3 hbox hb; have n0_ := Aside0.mk (below_step (by repeat (first | (with_reducible first | exact HB.out | apply below_alloc | apply pw_below_drewN | apply below_drew1) | exact HB.out)) hb); have n1_ := Aside0.mk (hbox); have n2_ := Aside0.mk ((by rw [hg]; exact (below_size (by repeat (first | (with_reducible first | exact HB.out | apply below_alloc | apply pw_below_drewN | apply below_drew1) | exact HB.out))) : w.heap.size ≤ gb172)); have n3_ := Aside0.mk ((by rw [hg]; exact (below_size (by repeat (first | (with_reducible first | exact HB.out | apply below_alloc | apply pw_below_drewN | apply below_drew1) | exact HB.out))) : w.heap.size ≤ gb172)); clear HB; have HB := n0_; have BK172 := n1_; have GW172 := n2_; have GE172 := n3_; clear n0_ n1_ n2_ n3_; clear hb hbox hg; have hcz4_0 : w3.cell? ⟨gb172, 0, none⟩ = some (.int .i64 a0_0) := (blk_cell BK172.out 0).trans rfl; have hcz4_1 : w3.cell? ⟨gb172, 1, none⟩ = some (.slice A0_1 l0_1.length c0_1) := (blk_cell BK172.out 1).trans rfl; have hfz4_0 := blk_frozen BK172.out 0; have hfz4_1 := blk_frozen BK172.out 1))
  (try simp only [Act.put, List.setIfInBounds_toArray, List.set_cons_zero, List.set_cons_succ])
  go_cut [3] (fun v3 wc => ∃ (kq : Nat) (x3_1 : List Int), Aside0 (elenchusref01_Vars.j0 kq x3_1 a0_0 l0_1 = some r) ∧ Aside0 (kq ≤ k) ∧ Aside0 (Kd.R (Kd.int .i64) 3 wc w.heap.size (fun _ => True) v3 x3_1) ∧ Aside0 (wc.heap[gb172]? = some (.cells #[.int .i64 a0_0, (.slice A0_1 l0_1.length c0_1)] 25 (0, 0))) ∧ Aside0 (Below w.heap.size w wc))
  case first =>
    have H := HC2.out
    clear HC2
    by_cases c5 : a0_0 < 0
    · rw [if_pos c5] at H
      have c5b0 : decide (a0_0 < 0) = true := decide_eq_true c5
      clear c5
      (first | rw [c5b0] | (simp only [i64_w, i32_w]; rw [c5b0]) | skip)
      by_cases c6 : ([] : List Int).length < 17592186044416
      · rw [if_pos c6] at H
        have LMc6 := Aside0.mk c6
        clear c6
        obtain ⟨y173, hy173⟩ : ∃ y_ : List Int, y_ = (([] : List Int) ++ [wrap64 ((-1) - a0_0)]) := ⟨_, rfl⟩
        replace H : (elenchusref01_Vars.j0 k y173 a0_0 l0_1) = some r := by first | (rw [hy173]; with_reducible exact H) | (have H2_ := (Option.bind_some _ _).symm.trans H; rw [hy173]; with_reducible exact H2_) | (have H2_ := (Option.bind_some _ _).symm.trans H; with_reducible exact H2_) | with_reducible exact H | (rw [hy173]; exact H) | exact H
        have Ny173 := Aside0.mk hy173
        clear hy173
        have H' := Aside0.mk H
        clear H
        have hcz7_0 : w3.cell? ⟨gb172, 0, none⟩ = some (.int .i64 a0_0) := (blk_cell BK172.out 0).trans rfl
        have hcz7_1 : w3.cell? ⟨gb172, 1, none⟩ = some (.slice A0_1 l0_1.length c0_1) := (blk_cell BK172.out 1).trans rfl
        have hfz7_0 := blk_frozen BK172.out 0
        have hfz7_1 := blk_frozen BK172.out 1
        go_wp2_with (first | ((with_reducible refine gate_builtin (b := .append) (xs := #[.tmp 10, .tmp 14]) rfl ?_); at_builtin; refine Kd.R_append (Kd.int .i64) (w0 := w) w.heap.size rfl (.tmp 10) (.tmp 14) 37 3 (.int .i64 0) 8 rfl Try.underlying37 info3 rfl (by decide) (by omega) (.slice none 0 0) ([] : List Int) (wrap64 ((-1) - a0_0)) [.int .i64 (wrap64 ((-1) - a0_0))] (fun _ => True) (fun _ => False) rfl rfl ?aP (fun _ hk => hk.elim) ?aF ?aO ?aB ?aS ?aL ?_; (case aP => exact rfl); (case aB => exact (by repeat (first | (with_reducible first | exact HB.out | apply below_alloc | apply pw_below_drewN | apply below_drew1 | refine below_set ?_ GE172.out) | exact HB.out))); (case aF => exact (fun _ _ => trivial)); (case aO => exact ((Kd.R_nil _ _ _ _ (fun _ => True)))); (case aS => exact (below_size (by repeat (first | (with_reducible first | exact HB.out | apply below_alloc | apply pw_below_drewN | apply below_drew1 | refine below_set ?_ GE172.out) | exact HB.out)))); (case aL => have := LMc6.out; omega); intro v174 w8 ho hb hg hat; rw [← Ny173.out] at ho; have n0_ := Aside0.mk (blk_grown (g := gb172) (o := .cells #[.int .i64 a0_0, .slice A0_1 l0_1.length c0_1] 25 (0, 0)) (by (with_reducible repeat (first | refine blk_drewN ?_ _ | refine blk_drew ?_ | refine blk_alloc ?_ _)); exact BK172.out) hg (by simp [Value.ownBlock])); have n1_ := Aside0.mk (hb); have n2_ := Aside0.mk (ho); clear BK172; clear HB; have BK172 := n0_; have HB := n1_; have HO175 := n2_; clear n0_ n1_ n2_; clear ho hb hg hat))
        go_meet
        case rel => exact ⟨_, (y173), H', ⟨by first | omega | exact Nat.le_refl _⟩, ⟨by (with_reducible repeat (first | apply Kd.R_alloc | apply Kd.R_drewN | apply Kd.R_drew)); exact HO175.out⟩, ⟨by (with_reducible repeat (first | refine blk_drewN ?_ _ | refine blk_drew ?_ | refine blk_alloc ?_ _)); exact BK172.out⟩, ⟨by repeat (first | (with_reducible first | exact HB.out | apply below_alloc | apply pw_below_drewN | apply below_drew1 | refine below_set ?_ GE172.out) | exact HB.out)⟩⟩
      · rw [if_neg c6] at H
        exact absurd H (by simp)
    · rw [if_neg c5] at H
      have c5b0 : decide (a0_0 < 0) = false := decide_eq_false c5
      clear c5
      (first | rw [c5b0] | (simp only [i64_w, i32_w]; rw [c5b0]) | skip)
      have H' := Aside0.mk H
      clear H
      go_wp2
      go_meet
      case rel => exact ⟨_, (([] : List Int)), H', ⟨by first | omega | exact Nat.le_refl _⟩, ⟨by first | exact Kd.R_nil _ _ _ _ _ | exact Kd.N_nil _ _ _ _ _ | exact Kd.V_nil _ _ _ _ _ | exact Kd.Q_nil _ _ _ _ _ | exact Kd.S_nil _ _ _ _ _⟩, ⟨by (with_reducible repeat (first | refine blk_drewN ?_ _ | refine blk_drew ?_ | refine blk_alloc ?_ _)); exact BK172.out⟩, ⟨by repeat (first | (with_reducible first | exact HB.out | apply below_alloc | apply pw_below_drewN | apply below_drew1 | refine below_set ?_ GE172.out) | exact HB.out)⟩⟩
  case rest =>
    clear HC2
    try clear p2
    try clear c5
    try clear c5b0
    try clear c6
    try clear p6
    try clear c7
    try clear hcz4_0
    try clear hcz4_1
    try clear hcz7_0
    try clear hcz7_1
    try clear hfz4_0
    try clear hfz4_1
    try clear hfz7_0
    try clear hfz7_1
    obtain ⟨kq, x3_1, HA, HJ1, HO_3, BK172, HB⟩ := hcut
    cases kq with
    | zero => exact absurd HA.out (by simp [elenchusref01_Vars.j0])
    | succ kj1 =>
      have H := HA.out
      clear HA
      simp only [elenchusref01_Vars.j0] at H
      have H' := Aside0.mk H
      clear H
      go_wp2
      go_loopg [3, 4] kj1 (fun kq v3 v4 w' => ∃ (x3_2 : List Int) (x4_2 : Int), v4 = .int .i64 x4_2 ∧ Aside0 (elenchusref01_Vars.l0 kq x3_2 x4_2 a0_0 l0_1 = some r) ∧ Aside0 (kq ≤ kj1) ∧ Aside0 (Kd.R (Kd.int .i64) 3 w' w.heap.size (fun _ => True) v3 x3_2) ∧ Aside0 (w'.heap[gb172]? = some (.cells #[.int .i64 a0_0, (.slice A0_1 l0_1.length c0_1)] 25 (0, 0))) ∧ Aside0 (Below w.heap.size w w'))
      case atStart => exact ⟨(x3_1), (0), (by first | rfl | (simp; done) | (simp [*]; done)), H', ⟨Nat.le_refl _⟩, ⟨by (with_reducible repeat (first | apply Kd.R_alloc | apply Kd.R_drewN | apply Kd.R_drew)); exact HO_3.out⟩, ⟨by (with_reducible repeat (first | refine blk_drewN ?_ _ | refine blk_drew ?_ | refine blk_alloc ?_ _)); exact BK172.out⟩, ⟨by repeat (first | (with_reducible first | exact HB.out | apply below_alloc | apply pw_below_drewN | apply below_drew1 | refine below_set ?_ GE172.out) | exact HB.out)⟩⟩
      case round =>
        clear H'
        try clear p2
        try clear c5
        try clear c5b0
        try clear c6
        try clear p6
        try clear c7
        try clear hcz4_0
        try clear hcz4_1
        try clear hcz7_0
        try clear hcz7_1
        try clear hfz4_0
        try clear hfz4_1
        try clear hfz7_0
        try clear hfz7_1
        try clear p2
        try clear p6
        obtain ⟨x3_2, x4_2, rfl, HA, HK2, HO_3, BK172, HB⟩ := hrel
        cases gk with
        | zero => exact absurd HA.out (by simp [elenchusref01_Vars.l0])
        | succ k2 =>
          have H := HA.out
          clear HA
          simp only [elenchusref01_Vars.l0] at H
          by_cases c9 : x4_2 < (l0_1.length : Int)
          · rw [if_pos c9] at H
            have c9b0 : decide (x4_2 < (l0_1.length : Int)) = true := decide_eq_true c9
            clear c9
            by_cases c10 : 0 ≤ x4_2
            · rw [if_pos c10] at H
              have c10b0 : decide (0 ≤ x4_2) = true := decide_eq_true c10
              clear c10
              replace H := Option.bind_eq_some_iff.mp H
              obtain ⟨t177, A110, H⟩ := H
              replace H : (elenchusref01_Vars.l1 k2 x3_2 x4_2 t177 0 a0_0 l0_1) = some r := H
              have A11 := Aside0.mk A110
              clear A110
              have H' := Aside0.mk H
              clear H
              have hcz12_0 : wr.cell? ⟨gb172, 0, none⟩ = some (.int .i64 a0_0) := (blk_cell BK172.out 0).trans rfl
              have hcz12_1 : wr.cell? ⟨gb172, 1, none⟩ = some (.slice A0_1 l0_1.length c0_1) := (blk_cell BK172.out 1).trans rfl
              have hfz12_0 := blk_frozen BK172.out 0
              have hfz12_1 := blk_frozen BK172.out 1
              have p176 : 0 ≤ (x4_2 : Int) := of_decide_eq_true (by first | (with_reducible assumption) | assumption)
              have q176 : x4_2 < (l0_1.length : Int) := of_decide_eq_true (by first | (with_reducible assumption) | assumption)
              obtain ⟨ad176, A176_1, c176_1, e176, hx176_0, hx176_1, hl176_1, hi176_1⟩ := at_T25 HR0_1.out x4_2 p176 q176
              cases e176
              replace hx176_0 := (HB.out.cell (World.block_lt_of_cell? w _ hx176_0)).trans hx176_0
              replace hx176_1 := (HB.out.cell (World.block_lt_of_cell? w _ hx176_1)).trans hx176_1
              have HR176_1 := Aside0.mk hi176_1
              have HC176_1 := Aside0.mk hl176_1
              clear hi176_1 hl176_1
              replace p176 := eq_true p176
              replace q176 := eq_true q176
              go_wp2_with (first | ((with_reducible refine gate_callee (f := 76) rfl ?_); refine goesL_ (some 28) rfl rfl Try.func76 (by kernel_rfl) rfl #[.agg #[.int .i64 ((rd_T25 l0_1 x4_2).f0), .slice A176_1 ((rd_T25 l0_1 x4_2).f1).length c176_1]] rfl (by (try simp only [List.map_toArray, List.map_cons, List.map_nil]); first | done | rfl | (simp only [List.length_drop, List.length_take]; rfl)) ?_; (with_reducible refine (ih k2 (by have := HJ1.out; have := HK2.out; omega) ((rd_T25 l0_1 x4_2).f0) _ _ ((rd_T25 l0_1 x4_2).f1) t177 _ ?side1 ?side2 A11.out).mono ?_); (case side1 => repeat (first | exact (Kd.C_below HR176_1.out HB.out) | (with_reducible refine Kd.C_alloc ?_ _) | (with_reducible refine Kd.C_drewN ?_ _) | (with_reducible refine Kd.C_drew ?_))); (case side2 => exact HC176_1.out); rintro e w13 ⟨v178, rfl, ho0, hb⟩; refine ⟨_, rfl, ?_⟩; have n0_ := Aside0.mk (Kd.R_elder' (by (with_reducible repeat (first | apply Kd.R_alloc | apply Kd.R_drewN | apply Kd.R_drew)); exact HO_3.out) (Kd.R_base ho0) hb); have n1_ := Aside0.mk (Kd.R_lower (Kd.R_new' ho0 (Kd.R_lt (by (with_reducible repeat (first | apply Kd.R_alloc | apply Kd.R_drewN | apply Kd.R_drew)); exact HO_3.out))) (below_size (by repeat (first | (with_reducible first | exact HB.out | apply below_alloc | apply pw_below_drewN | apply below_drew1 | refine below_set ?_ GE172.out) | exact HB.out)))); have n2_ := Aside0.mk (blk_below (g := gb172) (o := .cells #[.int .i64 a0_0, .slice (some ad176) l0_1.length c0_1] 25 (0, 0)) (by (with_reducible repeat (first | refine blk_drewN ?_ _ | refine blk_drew ?_ | refine blk_alloc ?_ _)); exact BK172.out) hb); have n3_ := Aside0.mk (below_step (by repeat (first | (with_reducible first | exact HB.out | apply below_alloc | apply pw_below_drewN | apply below_drew1 | refine below_set ?_ GE172.out) | exact HB.out)) hb); clear HO_3; clear BK172; clear HB; have HO_3 := n0_; have HO179 := n1_; have BK172 := n2_; have HB := n3_; clear n0_ n1_ n2_ n3_; (try clear hb); (try clear hb2); (try clear hk); (try clear hi); (try clear ho0)))
              go_loopg [3, 6] k2 (fun kq v3 v6 w' => ∃ (x3_3 : List Int) (x6_3 : Int), v6 = .int .i64 x6_3 ∧ Aside0 (elenchusref01_Vars.l1 kq x3_3 x4_2 t177 x6_3 a0_0 l0_1 = some r) ∧ Aside0 (kq ≤ k2) ∧ Aside0 (Kd.R (Kd.int .i64) 3 w' w.heap.size (fun k_ => some k_ ≠ (v178 : Value).ownBlock) v3 x3_3) ∧ Aside0 (Kd.R (Kd.int .i64) 3 w' w.heap.size (fun k_ => some k_ ≠ (v3 : Value).ownBlock) v178 t177) ∧ Aside0 (w'.heap[gb172]? = some (.cells #[.int .i64 a0_0, (.slice (some ad176) l0_1.length c0_1)] 25 (0, 0))) ∧ Aside0 (Below w.heap.size w w'))
              case atStart => exact ⟨(x3_2), (0), (by first | rfl | (simp; done) | (simp [*]; done)), H', ⟨Nat.le_refl _⟩, ⟨by (with_reducible repeat (first | apply Kd.R_alloc | apply Kd.R_drewN | apply Kd.R_drew)); exact Kd.R_mono HO_3.out (fun _ hk => hk.2)⟩, ⟨by (with_reducible repeat (first | apply Kd.R_alloc | apply Kd.R_drewN | apply Kd.R_drew)); exact Kd.R_mono HO179.out (fun _ hk => hk.2)⟩, ⟨by (with_reducible repeat (first | refine blk_drewN ?_ _ | refine blk_drew ?_ | refine blk_alloc ?_ _)); exact BK172.out⟩, ⟨by repeat (first | (with_reducible first | exact HB.out | apply below_alloc | apply pw_below_drewN | apply below_drew1 | refine below_set ?_ GE172.out) | exact HB.out)⟩⟩
              case round =>
                clear H'
                try clear c1
                try clear p1
                try clear q1
                try clear hx1
                try clear p2
                try clear c5
                try clear c5b0
                try clear c6
                try clear p6
                try clear c7
                try clear c9
                try clear c9b0
                try clear c10
                try clear c10b0
                try clear hcz12_0
                try clear hcz12_1
                try clear hcz4_0
                try clear hcz4_1
                try clear hcz7_0
                try clear hcz7_1
                try clear hfz12_0
                try clear hfz12_1
                try clear hfz4_0
                try clear hfz4_1
                try clear hfz7_0
                try clear hfz7_1
                try clear hx176_0
                try clear hx176_1
                try clear p176
                try clear p2
                try clear p6
                try clear q176
                obtain ⟨x3_3, x6_3, rfl, HA, HK3, HO_3, HO_5, BK172, HB⟩ := hrel
                cases gk with
                | zero => exact absurd HA.out (by simp [elenchusref01_Vars.l1])
                | succ k3 =>
                  have H := HA.out
                  clear HA
                  simp only [elenchusref01_Vars.l1] at H
                  by_cases c14 : x6_3 < (t177.length : Int)
                  · rw [if_pos c14] at H
                    have c14b0 : decide (x6_3 < (t177.length : Int)) = true := decide_eq_true c14
                    clear c14
                    by_cases c15 : 0 ≤ x6_3
                    · rw [if_pos c15] at H
                      have c15b0 : decide (0 ≤ x6_3) = true := decide_eq_true c15
                      clear c15
                      replace H := Option.bind_eq_some_iff.mp H
                      obtain ⟨t181, A160, H⟩ := H
                      replace H : (if t181 = true then (elenchusref01_Vars.l1 k3 x3_3 x4_2 t177 (wrap64 (x6_3 + 1)) a0_0 l0_1) else (if x3_3.length < 17592186044416 then (elenchusref01_Vars.l1 k3 (x3_3 ++ [rd t177 x6_3]) x4_2 t177 (wrap64 (x6_3 + 1)) a0_0 l0_1) else (none))) = some r := H
                      have A16 := Aside0.mk A160
                      clear A160
                      by_cases c17 : t181 = true
                      · subst c17
                        have H1 : (elenchusref01_Vars.l1 k3 x3_3 x4_2 t177 (wrap64 (x6_3 + 1)) a0_0 l0_1) = some r := by rw [if_pos rfl] at H; exact H
                        clear H
                        have H := H1
                        clear H1
                        have H' := Aside0.mk H
                        clear H
                        obtain ⟨Ao18, co18, eo18⟩ := Kd.R_slice HO_5.out
                        subst eo18
                        have p180 : 0 ≤ (x6_3 : Int) := of_decide_eq_true (by first | (with_reducible assumption) | assumption)
                        have q180 : x6_3 < (t177.length : Int) := of_decide_eq_true (by first | (with_reducible assumption) | assumption)
                        obtain ⟨ad180, e180, hx180_0⟩ := Kd.at_int (Kd.R_reads' HO_5.out).2.2 x6_3 p180 q180
                        cases e180
                        replace p180 := eq_true p180
                        replace q180 := eq_true q180
                        obtain ⟨Ao19, co19, eo19⟩ := Kd.R_slice HO_3.out
                        subst eo19
                        go_wp2_with (first | ((with_reducible refine gate_callee (f := 40) rfl ?_); refine goesL_ (some 40) rfl rfl Try.func40 (by kernel_rfl) rfl #[.int .i64 (rd t177 x6_3), .slice Ao19 x3_3.length co19] rfl (by (try simp only [List.map_toArray, List.map_cons, List.map_nil]); first | done | rfl | (simp only [List.length_drop, List.length_take]; rfl)) ?_; (with_reducible refine (elenchusref01_In.calls (rd t177 x6_3) _ _ x3_3 true _ ?side1 ?side2 A16.out).mono ?_); (case side1 => repeat (first | exact (Kd.R_reads' HO_3.out).2.2 | (with_reducible refine Kd.C_alloc ?_ _) | (with_reducible refine Kd.C_drewN ?_ _) | (with_reducible refine Kd.C_drew ?_))); (case side2 => exact (Kd.R_reads' HO_3.out).2.1); rintro e w20 ⟨rfl, hb⟩; refine ⟨_, rfl, ?_⟩; have n0_ := Aside0.mk (Kd.R_below (by (with_reducible repeat (first | apply Kd.R_alloc | apply Kd.R_drewN | apply Kd.R_drew)); exact HO_3.out) hb); have n1_ := Aside0.mk (Kd.R_below (by (with_reducible repeat (first | apply Kd.R_alloc | apply Kd.R_drewN | apply Kd.R_drew)); exact HO_5.out) hb); have n2_ := Aside0.mk (blk_below (g := gb172) (o := .cells #[.int .i64 a0_0, .slice (some ad176) l0_1.length c0_1] 25 (0, 0)) (by (with_reducible repeat (first | refine blk_drewN ?_ _ | refine blk_drew ?_ | refine blk_alloc ?_ _)); exact BK172.out) hb); have n3_ := Aside0.mk (below_step (by repeat (first | (with_reducible first | exact HB.out | apply below_alloc | apply pw_below_drewN | apply below_drew1 | refine below_set ?_ GE172.out) | exact HB.out)) hb); clear HO_3; clear HO_5; clear BK172; clear HB; have HO_3 := n0_; have HO_5 := n1_; have BK172 := n2_; have HB := n3_; clear n0_ n1_ n2_ n3_; (try clear hb); (try clear hb2); (try clear hk); (try clear hi)))
                        go_roundg k3
                        case measure => have := HJ1.out; have := HK2.out; have := HK3.out; omega
                        case rel => exact ⟨(x3_3), (wrap64 (x6_3 + 1)), (by first | rfl | (simp; done) | (simp [*]; done)), H', ⟨by have := HJ1.out; have := HK2.out; have := HK3.out; omega⟩, ⟨by (with_reducible repeat (first | apply Kd.R_alloc | apply Kd.R_drewN | apply Kd.R_drew)); exact HO_3.out⟩, ⟨by (with_reducible repeat (first | apply Kd.R_alloc | apply Kd.R_drewN | apply Kd.R_drew)); exact HO_5.out⟩, ⟨by (with_reducible repeat (first | refine blk_drewN ?_ _ | refine blk_drew ?_ | refine blk_alloc ?_ _)); exact BK172.out⟩, ⟨by repeat (first | (with_reducible first | exact HB.out | apply below_alloc | apply pw_below_drewN | apply below_drew1 | refine below_set ?_ GE172.out) | exact HB.out)⟩⟩
                      · replace c17 := Bool.eq_false_iff.mpr c17
                        subst c17
                        have H1 : (if x3_3.length < 17592186044416 then (elenchusref01_Vars.l1 k3 (x3_3 ++ [rd t177 x6_3]) x4_2 t177 (wrap64 (x6_3 + 1)) a0_0 l0_1) else (none)) = some r := by rw [if_neg (show ¬ (false = true) by decide)] at H; exact H
                        clear H
                        have H := H1
                        clear H1
                        by_cases c21 : x3_3.length < 17592186044416
                        · rw [if_pos c21] at H
                          have LMc21 := Aside0.mk c21
                          clear c21
                          obtain ⟨y183, hy183⟩ : ∃ y_ : List Int, y_ = (x3_3 ++ [rd t177 x6_3]) := ⟨_, rfl⟩
                          replace H : (elenchusref01_Vars.l1 k3 y183 x4_2 t177 (wrap64 (x6_3 + 1)) a0_0 l0_1) = some r := by first | (rw [hy183]; with_reducible exact H) | (have H2_ := (Option.bind_some _ _).symm.trans H; rw [hy183]; with_reducible exact H2_) | (have H2_ := (Option.bind_some _ _).symm.trans H; with_reducible exact H2_) | with_reducible exact H | (rw [hy183]; exact H) | exact H
                          have Ny183 := Aside0.mk hy183
                          clear hy183
                          have H' := Aside0.mk H
                          clear H
                          obtain ⟨Ao22, co22, eo22⟩ := Kd.R_slice HO_5.out
                          subst eo22
                          have p180 : 0 ≤ (x6_3 : Int) := of_decide_eq_true (by first | (with_reducible assumption) | assumption)
                          have q180 : x6_3 < (t177.length : Int) := of_decide_eq_true (by first | (with_reducible assumption) | assumption)
                          obtain ⟨ad180, e180, hx180_0⟩ := Kd.at_int (Kd.R_reads' HO_5.out).2.2 x6_3 p180 q180
                          cases e180
                          replace p180 := eq_true p180
                          replace q180 := eq_true q180
                          obtain ⟨Ao23, co23, eo23⟩ := Kd.R_slice HO_3.out
                          subst eo23
                          go_wp2_with (first | ((with_reducible refine gate_callee (f := 40) rfl ?_); refine goesL_ (some 40) rfl rfl Try.func40 (by kernel_rfl) rfl #[.int .i64 (rd t177 x6_3), .slice Ao23 x3_3.length co23] rfl (by (try simp only [List.map_toArray, List.map_cons, List.map_nil]); first | done | rfl | (simp only [List.length_drop, List.length_take]; rfl)) ?_; (with_reducible refine (elenchusref01_In.calls (rd t177 x6_3) _ _ x3_3 false _ ?side1 ?side2 A16.out).mono ?_); (case side1 => repeat (first | exact (Kd.R_reads' HO_3.out).2.2 | (with_reducible refine Kd.C_alloc ?_ _) | (with_reducible refine Kd.C_drewN ?_ _) | (with_reducible refine Kd.C_drew ?_))); (case side2 => exact (Kd.R_reads' HO_3.out).2.1); rintro e w24 ⟨rfl, hb⟩; refine ⟨_, rfl, ?_⟩; have n0_ := Aside0.mk (Kd.R_below (by (with_reducible repeat (first | apply Kd.R_alloc | apply Kd.R_drewN | apply Kd.R_drew)); exact HO_3.out) hb); have n1_ := Aside0.mk (Kd.R_below (by (with_reducible repeat (first | apply Kd.R_alloc | apply Kd.R_drewN | apply Kd.R_drew)); exact HO_5.out) hb); have n2_ := Aside0.mk (blk_below (g := gb172) (o := .cells #[.int .i64 a0_0, .slice (some ad176) l0_1.length c0_1] 25 (0, 0)) (by (with_reducible repeat (first | refine blk_drewN ?_ _ | refine blk_drew ?_ | refine blk_alloc ?_ _)); exact BK172.out) hb); have n3_ := Aside0.mk (below_step (by repeat (first | (with_reducible first | exact HB.out | apply below_alloc | apply pw_below_drewN | apply below_drew1 | refine below_set ?_ GE172.out) | exact HB.out)) hb); clear HO_3; clear HO_5; clear BK172; clear HB; have HO_3 := n0_; have HO_5 := n1_; have BK172 := n2_; have HB := n3_; clear n0_ n1_ n2_ n3_; (try clear hb); (try clear hb2); (try clear hk); (try clear hi); have p182 : 0 ≤ (x6_3 : Int) := of_decide_eq_true (by first | (with_reducible assumption) | assumption); have q182 : x6_3 < (t177.length : Int) := of_decide_eq_true (by first | (with_reducible assumption) | assumption); obtain ⟨ad182, e182, hx182_0⟩ := Kd.at_int (Kd.R_reads' HO_5.out).2.2 x6_3 p182 q182; obtain rfl : ad180 = ad182 := (by injection e182); replace p182 := eq_true p182; replace q182 := eq_true q182) | ((with_reducible refine gate_builtin (b := .append) (xs := #[.tmp 42, .tmp 47]) rfl ?_); at_builtin; refine Kd.R_append (Kd.int .i64) (w0 := w) w.heap.size rfl (.tmp 42) (.tmp 47) 37 3 (.int .i64 0) 8 rfl Try.underlying37 info3 rfl (by decide) (by omega) (.slice Ao23 x3_3.length co23) x3_3 (rd t177 x6_3) [.int .i64 (rd t177 x6_3)] (fun k_ => some k_ ≠ (.slice (some ad180) t177.length co22 : Value).ownBlock) (fun _ => False) rfl rfl ?aP (fun _ hk => hk.elim) ?aF ?aO ?aB ?aS ?aL ?_; (case aP => exact rfl); (case aB => exact (by repeat (first | (with_reducible first | exact HB.out | apply below_alloc | apply pw_below_drewN | apply below_drew1 | refine below_set ?_ GE172.out) | exact HB.out))); (case aF => exact (fun k_ hk => Kd.fresh' (Kd.R_lt (by (with_reducible repeat (first | apply Kd.R_alloc | apply Kd.R_drewN | apply Kd.R_drew)); exact HO_5.out)) k_ hk)); (case aO => exact (by (with_reducible repeat (first | apply Kd.R_alloc | apply Kd.R_drewN | apply Kd.R_drew)); exact HO_3.out)); (case aS => exact (below_size (by repeat (first | (with_reducible first | exact HB.out | apply below_alloc | apply pw_below_drewN | apply below_drew1 | refine below_set ?_ GE172.out) | exact HB.out)))); (case aL => have := LMc21.out; omega); intro v184 w25 ho hb hg hat; rw [← Ny183.out] at ho; have n0_ := Aside0.mk (Kd.R_after (ok := (fun _ => True)) (by (with_reducible repeat (first | apply Kd.R_alloc | apply Kd.R_drewN | apply Kd.R_drew)); exact Kd.R_mono HO_5.out (fun _ hk => ⟨trivial, hk⟩)) hg hat); have n1_ := Aside0.mk (blk_grown (g := gb172) (o := .cells #[.int .i64 a0_0, .slice (some ad176) l0_1.length c0_1] 25 (0, 0)) (by (with_reducible repeat (first | refine blk_drewN ?_ _ | refine blk_drew ?_ | refine blk_alloc ?_ _)); exact BK172.out) hg (Kd.R_ne HO_3.out BK172.out (by decide))); have n2_ := Aside0.mk (hb); have n3_ := Aside0.mk (ho); clear HO_5; clear BK172; clear HB; clear HO_3; have HO_5 := n0_; have BK172 := n1_; have HB := n2_; have HO185 := n3_; clear n0_ n1_ n2_ n3_; clear ho hb hg hat))
                          go_roundg k3
                          case measure => have := HJ1.out; have := HK2.out; have := HK3.out; omega
                          case rel => exact ⟨(y183), (wrap64 (x6_3 + 1)), (by first | rfl | (simp; done) | (simp [*]; done)), H', ⟨by have := HJ1.out; have := HK2.out; have := HK3.out; omega⟩, ⟨by (with_reducible repeat (first | apply Kd.R_alloc | apply Kd.R_drewN | apply Kd.R_drew)); exact HO185.out⟩, ⟨by (with_reducible repeat (first | apply Kd.R_alloc | apply Kd.R_drewN | apply Kd.R_drew)); exact Kd.R_mono HO_5.out (fun _ hk => hk.2)⟩, ⟨by (with_reducible repeat (first | refine blk_drewN ?_ _ | refine blk_drew ?_ | refine blk_alloc ?_ _)); exact BK172.out⟩, ⟨by repeat (first | (with_reducible first | exact HB.out | apply below_alloc | apply pw_below_drewN | apply below_drew1 | refine below_set ?_ GE172.out) | exact HB.out)⟩⟩
                        · rw [if_neg c21] at H
                          exact absurd H (by simp)
                    · rw [if_neg c15] at H
                      exact absurd H (by simp)
                  · rw [if_neg c14] at H
                    have c14b0 : decide (x6_3 < (t177.length : Int)) = false := decide_eq_false c14
                    clear c14
                    have H' := Aside0.mk H
                    clear H
                    obtain ⟨Ao26, co26, eo26⟩ := Kd.R_slice HO_5.out
                    subst eo26
                    go_wp2
                    go_roundg k3
                    case measure => have := HJ1.out; have := HK2.out; have := HK3.out; omega
                    case rel => exact ⟨(x3_3), (wrap64 (x4_2 + 1)), (by first | rfl | (simp; done) | (simp [*]; done)), H', ⟨by have := HJ1.out; have := HK2.out; have := HK3.out; omega⟩, ⟨by (with_reducible repeat (first | apply Kd.R_alloc | apply Kd.R_drewN | apply Kd.R_drew)); exact Kd.R_mono HO_3.out (fun _ hk => trivial)⟩, ⟨by (with_reducible repeat (first | refine blk_drewN ?_ _ | refine blk_drew ?_ | refine blk_alloc ?_ _)); exact BK172.out⟩, ⟨by repeat (first | (with_reducible first | exact HB.out | apply below_alloc | apply pw_below_drewN | apply below_drew1 | refine below_set ?_ GE172.out) | exact HB.out)⟩⟩
            · rw [if_neg c10] at H
              exact absurd H (by simp)
          · rw [if_neg c9] at H
            have c9b0 : decide (x4_2 < (l0_1.length : Int)) = false := decide_eq_false c9
            clear c9
            obtain rfl := Option.some.inj H
            have hcz27_0 : wr.cell? ⟨gb172, 0, none⟩ = some (.int .i64 a0_0) := (blk_cell BK172.out 0).trans rfl
            have hcz27_1 : wr.cell? ⟨gb172, 1, none⟩ = some (.slice A0_1 l0_1.length c0_1) := (blk_cell BK172.out 1).trans rfl
            have hfz27_0 := blk_frozen BK172.out 0
            have hfz27_1 := blk_frozen BK172.out 1
            go_wp2
            go_ret
            exact ⟨_, by first | rfl | (simp [errW_none, errW_some] <;> rfl) | (simp [*, errW_none, errW_some] <;> rfl), by (with_reducible repeat (first | apply Kd.R_alloc | apply Kd.R_drewN | apply Kd.R_drew)); exact HO_3.out, by repeat (first | (with_reducible first | exact HB.out | apply below_alloc | apply pw_below_drewN | apply below_drew1 | refine below_set ?_ GE172.out) | exact HB.out)⟩
end Go.Proofs.Ythplndalbfcbbaa.PA
namespace Go.Proofs.Ythplndalbfcbbaa.PA
open Go.RowKit Go.Proofs.YthplndalbfcbbaaW.PrintWords Go.Proofs.YthplndalbfcbbaaW.PrintLast Go.Proofs.YthplndalbfcbbaaW.PrintMore
attribute [local go_sem] max2_int min2_int max_two min_two max_three min_three max_four min_four   -- for this text's walks alone
set_option linter.unusedVariables false
set_option linter.unusedSimpArgs false
mutual
def elenchusref01_Count.l0 : Nat → Int → Int → Int → Int → List (S25) → Option (Int)
  | 0, _, _, _, _, _ => none
  | k + 1, x1, x5, x6, x321000, x321001 => if x6 < (x321001.length : Int) then (elenchusref01_Count.j1 k x1 x5 x6 (decide (x5 ≤ x1)) x321000 x321001) else (elenchusref01_Count.j1 k x1 x5 x6 false x321000 x321001)
def elenchusref01_Count.j1 : Nat → Int → Int → Int → Bool → Int → List (S25) → Option (Int)
  | 0, _, _, _, _, _, _ => none
  | k + 1, x1, x5, x6, x16, x321000, x321001 => if x16 = true then (if 0 ≤ x6 then (if x6 < (x321001.length : Int) then ((elenchusref01_Count.f k ((rd_T25 x321001 x6).f0) ((rd_T25 x321001 x6).f1) (wrap64 (x1 - x5))).bind fun t322 => (elenchusref01_Count.l0 k x1 (wrap64 (x5 + t322)) (wrap64 (x6 + 1)) x321000 x321001)) else (none)) else (none)) else (some x5)
def elenchusref01_Count.f : Nat → Int → List (S25) → Int → Option (Int)
  | 0, _, _, _ => none
  | k + 1, a0_0, l0_1, a1 => elenchusref01_Count.l0 k a1 1 0 a0_0 l0_1
end
set_option maxHeartbeats 8000000 in
set_option maxRecDepth 100000 in
theorem elenchusref01_Count.calls (k : Nat) : ∀ (a0_0 : Int) (A0_1 : Option Addr) (c0_1 : Nat) (l0_1 : List (S25)) (a1 : Int) (r : Int) (w : World) (hr0_1 : Kd.C k25 w A0_1 l0_1.length l0_1) (hc0_1 : l0_1.length ≤ c0_1) (h : elenchusref01_Count.f k a0_0 l0_1 a1 = some r),
    Calls Try.prog 80 #[.agg #[.int .i64 a0_0, .slice A0_1 l0_1.length c0_1], .int .i64 a1] w fun e w' => e = .returned (.int .i64 r) ∧ Below w.heap.size w w' := by
  induction k using Nat.strongRecOn with
  | _ k ih =>
  intro a0_0 A0_1 c0_1 l0_1 a1 r w hr0_1 hc0_1 h
  cases k with
  | zero => exact absurd h (by simp [elenchusref01_Count.f])
  | succ k =>
  simp only [elenchusref01_Count.f] at h
  have hu25 := Try.underlying25
  have HR0_1 := Aside0.mk hr0_1
  have HC0_1 := Aside0.mk hc0_1
  clear hr0_1 hc0_1
  have HB := Aside0.mk (Below.refl w.heap.size w)
  have H : (elenchusref01_Count.l0 k a1 1 0 a0_0 l0_1) = some r := h
  clear h
  have H' := Aside0.mk H
  clear H
  go_enter Try.func80, Try.ntmps80
  go_wp2_with (first | ((with_reducible refine gate_dst (N := 2) rfl ?_); refine box_event ?hg (N := 2) ?hd (cs := #[.int .i64 a0_0, .slice A0_1 l0_1.length c0_1]) (t := 25) ?hr ?_; (case hd => rfl); (case hg => rfl); (case hr => first | (go_simp; done) | (go_simp; rfl)); intro gb320 hg w3 hbox hb; have n0_ := Aside0.mk (below_step (by repeat (first | (with_reducible first | exact HB.out | apply below_alloc | apply pw_below_drewN | apply below_drew1) | exact HB.out)) hb); have n1_ := Aside0.mk (hbox); have n2_ := Aside0.mk ((by rw [hg]; exact (below_size (by repeat (first | (with_reducible first | exact HB.out | apply below_alloc | apply pw_below_drewN | apply below_drew1) | exact HB.out))) : w.heap.size ≤ gb320)); have n3_ := Aside0.mk ((by rw [hg]; exact (below_size (by repeat (first | (with_reducible first | exact HB.out | apply below_alloc | apply pw_below_drewN | apply below_drew1) | exact HB.out))) : w.heap.size ≤ gb320)); clear HB; have HB := n0_; have BK320 := n1_; have GW320 := n2_; have GE320 := n3_; clear n0_ n1_ n2_ n3_; clear hb hbox hg))
  go_loopg [5, 6] k (fun kq v5 v6 w' => ∃ (x5_1 : Int) (x6_1 : Int), v5 = .int .i64 x5_1 ∧ v6 = .int .i64 x6_1 ∧ Aside0 (elenchusref01_Count.l0 kq a1 x5_1 x6_1 a0_0 l0_1 = some r) ∧ Aside0 (kq ≤ k) ∧ Aside0 (w'.heap[gb320]? = some (.cells #[.int .i64 a0_0, (.slice A0_1 l0_1.length c0_1)] 25 (0, 0))) ∧ Aside0 (Below w.heap.size w w'))
  case atStart => exact ⟨(1), (0), (by first | rfl | (simp; done) | (simp [*]; done)), (by first | rfl | (simp; done) | (simp [*]; done)), H', ⟨Nat.le_refl _⟩, ⟨by (with_reducible repeat (first | refine blk_drewN ?_ _ | refine blk_drew ?_ | refine blk_alloc ?_ _)); exact BK320.out⟩, ⟨by repeat (first | (with_reducible first | exact HB.out | apply below_alloc | apply pw_below_drewN | apply below_drew1 | refine below_set ?_ GE320.out) | exact HB.out)⟩⟩
  case round =>
    clear H'
    try clear p2
    obtain ⟨x5_1, x6_1, rfl, rfl, HA, HK1, BK320, HB⟩ := hrel
    cases gk with
    | zero => exact absurd HA.out (by simp [elenchusref01_Count.l0])
    | succ k1 =>
      have H := HA.out
      clear HA
      simp only [elenchusref01_Count.l0] at H
      have HC4 := Aside0.mk H
      clear H
      go_upto_region 3 with (fail)
      go_cut [16] (fun v16 wc => ∃ (kq : Nat) (x16_3 : Bool), v16 = .bool x16_3 ∧ Aside0 (elenchusref01_Count.j1 kq a1 x5_1 x6_1 x16_3 a0_0 l0_1 = some r) ∧ Aside0 (kq ≤ k1) ∧ Aside0 (wc.heap[gb320]? = some (.cells #[.int .i64 a0_0, (.slice A0_1 l0_1.length c0_1)] 25 (0, 0))) ∧ Aside0 (Below w.heap.size w wc))
      case first =>
        have H := HC4.out
        clear HC4
        by_cases c5 : x6_1 < (l0_1.length : Int)
        · rw [if_pos c5] at H
          have c5b0 : decide (x6_1 < (l0_1.length : Int)) = true := decide_eq_true c5
          clear c5
          (first | rw [c5b0] | (simp only [i64_w, i32_w]; rw [c5b0]) | skip)
          have H' := Aside0.mk H
          clear H
          have hcz6_0 : wr.cell? ⟨gb320, 0, none⟩ = some (.int .i64 a0_0) := (blk_cell BK320.out 0).trans rfl
          have hcz6_1 : wr.cell? ⟨gb320, 1, none⟩ = some (.slice A0_1 l0_1.length c0_1) := (blk_cell BK320.out 1).trans rfl
          have hfz6_0 := blk_frozen BK320.out 0
          have hfz6_1 := blk_frozen BK320.out 1
          go_wp2
          go_meet
          case rel => exact ⟨_, (decide (x5_1 ≤ a1)), (by first | rfl | (simp; done) | (simp [*]; done)), H', ⟨by have := HK1.out; first | omega | exact Nat.le_refl _⟩, ⟨by (with_reducible repeat (first | refine blk_drewN ?_ _ | refine blk_drew ?_ | refine blk_alloc ?_ _)); exact BK320.out⟩, ⟨by repeat (first | (with_reducible first | exact HB.out | apply below_alloc | apply pw_below_drewN | apply below_drew1 | refine below_set ?_ GE320.out) | exact HB.out)⟩⟩
        · rw [if_neg c5] at H
          have c5b0 : decide (x6_1 < (l0_1.length : Int)) = false := decide_eq_false c5
          clear c5
          (first | rw [c5b0] | (simp only [i64_w, i32_w]; rw [c5b0]) | skip)
          have H' := Aside0.mk H
          clear H
          have hcz7_0 : wr.cell? ⟨gb320, 0, none⟩ = some (.int .i64 a0_0) := (blk_cell BK320.out 0).trans rfl
          have hcz7_1 : wr.cell? ⟨gb320, 1, none⟩ = some (.slice A0_1 l0_1.length c0_1) := (blk_cell BK320.out 1).trans rfl
          have hfz7_0 := blk_frozen BK320.out 0
          have hfz7_1 := blk_frozen BK320.out 1
          go_wp2
          go_meet
          case rel => exact ⟨_, (false), (by first | rfl | (simp; done) | (simp [*]; done)), H', ⟨by have := HK1.out; first | omega | exact Nat.le_refl _⟩, ⟨by (with_reducible repeat (first | refine blk_drewN ?_ _ | refine blk_drew ?_ | refine blk_alloc ?_ _)); exact BK320.out⟩, ⟨by repeat (first | (with_reducible first | exact HB.out | apply below_alloc | apply pw_below_drewN | apply below_drew1 | refine below_set ?_ GE320.out) | exact HB.out)⟩⟩
      case rest =>
        clear HC4
        try clear p2
        try clear c5
        try clear c5b0
        try clear hcz6_0
        try clear hcz6_1
        try clear hcz7_0
        try clear hcz7_1
        try clear hfz6_0
        try clear hfz6_1
        try clear hfz7_0
        try clear hfz7_1
        try clear p2
        obtain ⟨kq, x16_3, rfl, HA, HJ3, BK320, HB⟩ := hcut
        cases kq with
        | zero => exact absurd HA.out (by simp [elenchusref01_Count.j1])
        | succ kj3 =>
          have H := HA.out
          clear HA
          simp only [elenchusref01_Count.j1] at H
          by_cases c8 : x16_3 = true
          · subst c8
            have H1 : (if 0 ≤ x6_1 then (if x6_1 < (l0_1.length : Int) then ((elenchusref01_Count.f kj3 ((rd_T25 l0_1 x6_1).f0) ((rd_T25 l0_1 x6_1).f1) (wrap64 (a1 - x5_1))).bind fun t322 => (elenchusref01_Count.l0 kj3 a1 (wrap64 (x5_1 + t322)) (wrap64 (x6_1 + 1)) a0_0 l0_1)) else (none)) else (none)) = some r := by rw [if_pos rfl] at H; exact H
            clear H
            have H := H1
            clear H1
            by_cases c9 : 0 ≤ x6_1
            · rw [if_pos c9] at H
              have c9b0 : decide (0 ≤ x6_1) = true := decide_eq_true c9
              clear c9
              by_cases c10 : x6_1 < (l0_1.length : Int)
              · rw [if_pos c10] at H
                have c10b0 : decide (x6_1 < (l0_1.length : Int)) = true := decide_eq_true c10
                clear c10
                replace H := Option.bind_eq_some_iff.mp H
                obtain ⟨t322, A110, H⟩ := H
                replace H : (elenchusref01_Count.l0 kj3 a1 (wrap64 (x5_1 + t322)) (wrap64 (x6_1 + 1)) a0_0 l0_1) = some r := H
                have A11 := Aside0.mk A110
                clear A110
                have H' := Aside0.mk H
                clear H
                have hcz12_0 : wc.cell? ⟨gb320, 0, none⟩ = some (.int .i64 a0_0) := (blk_cell BK320.out 0).trans rfl
                have hcz12_1 : wc.cell? ⟨gb320, 1, none⟩ = some (.slice A0_1 l0_1.length c0_1) := (blk_cell BK320.out 1).trans rfl
                have hfz12_0 := blk_frozen BK320.out 0
                have hfz12_1 := blk_frozen BK320.out 1
                have p321 : 0 ≤ (x6_1 : Int) := of_decide_eq_true (by first | (with_reducible assumption) | assumption)
                have q321 : x6_1 < (l0_1.length : Int) := of_decide_eq_true (by first | (with_reducible assumption) | assumption)
                obtain ⟨ad321, A321_1, c321_1, e321, hx321_0, hx321_1, hl321_1, hi321_1⟩ := at_T25 HR0_1.out x6_1 p321 q321
                cases e321
                replace hx321_0 := (HB.out.cell (World.block_lt_of_cell? w _ hx321_0)).trans hx321_0
                replace hx321_1 := (HB.out.cell (World.block_lt_of_cell? w _ hx321_1)).trans hx321_1
                have HR321_1 := Aside0.mk hi321_1
                have HC321_1 := Aside0.mk hl321_1
                clear hi321_1 hl321_1
                replace p321 := eq_true p321
                replace q321 := eq_true q321
                go_wp2_with (first | ((with_reducible refine gate_callee (f := 80) rfl ?_); refine goesL_ (some 28) rfl rfl Try.func80 (by kernel_rfl) rfl #[.agg #[.int .i64 ((rd_T25 l0_1 x6_1).f0), .slice A321_1 ((rd_T25 l0_1 x6_1).f1).length c321_1], .int .i64 (wrap64 (a1 - x5_1))] rfl (by (try simp only [List.map_toArray, List.map_cons, List.map_nil]); first | done | rfl | (simp only [List.length_drop, List.length_take]; rfl)) ?_; (with_reducible refine (ih kj3 (by have := HK1.out; have := HJ3.out; omega) ((rd_T25 l0_1 x6_1).f0) _ _ ((rd_T25 l0_1 x6_1).f1) (wrap64 (a1 - x5_1)) t322 _ ?side1 ?side2 A11.out).mono ?_); (case side1 => repeat (first | exact (Kd.C_below HR321_1.out HB.out) | (with_reducible refine Kd.C_alloc ?_ _) | (with_reducible refine Kd.C_drewN ?_ _) | (with_reducible refine Kd.C_drew ?_))); (case side2 => exact HC321_1.out); rintro e w13 ⟨rfl, hb⟩; refine ⟨_, rfl, ?_⟩; have n0_ := Aside0.mk (blk_below (g := gb320) (o := .cells #[.int .i64 a0_0, .slice (some ad321) l0_1.length c0_1] 25 (0, 0)) (by (with_reducible repeat (first | refine blk_drewN ?_ _ | refine blk_drew ?_ | refine blk_alloc ?_ _)); exact BK320.out) hb); have n1_ := Aside0.mk (below_step (by repeat (first | (with_reducible first | exact HB.out | apply below_alloc | apply pw_below_drewN | apply below_drew1 | refine below_set ?_ GE320.out) | exact HB.out)) hb); clear BK320; clear HB; have BK320 := n0_; have HB := n1_; clear n0_ n1_; (try clear hb); (try clear hb2); (try clear hk); (try clear hi)))
                go_roundg kj3
                case measure => have := HK1.out; have := HJ3.out; omega
                case rel => exact ⟨(wrap64 (x5_1 + t322)), (wrap64 (x6_1 + 1)), (by first | rfl | (simp; done) | (simp [*]; done)), (by first | rfl | (simp; done) | (simp [*]; done)), H', ⟨by have := HK1.out; have := HJ3.out; omega⟩, ⟨by (with_reducible repeat (first | refine blk_drewN ?_ _ | refine blk_drew ?_ | refine blk_alloc ?_ _)); exact BK320.out⟩, ⟨by repeat (first | (with_reducible first | exact HB.out | apply below_alloc | apply pw_below_drewN | apply below_drew1 | refine below_set ?_ GE320.out) | exact HB.out)⟩⟩
              · rw [if_neg c10] at H
                exact absurd H (by simp)
            · rw [if_neg c9] at H
              exact absurd H (by simp)
          · replace c8 := Bool.eq_false_iff.mpr c8
            subst c8
            have H1 : (some x5_1) = some r := by rw [if_neg (show ¬ (false = true) by decide)] at H; exact H
            clear H
            have H := H1
            clear H1
            obtain rfl := Option.some.inj H
            go_wp2
            go_ret
            exact ⟨by first | rfl | (simp [errW_none, errW_some] <;> rfl) | (simp [*, errW_none, errW_some] <;> rfl), by repeat (first | (with_reducible first | exact HB.out | apply below_alloc | apply pw_below_drewN | apply below_drew1 | refine below_set ?_ GE320.out) | exact HB.out)⟩
end Go.Proofs.Ythplndalbfcbbaa.PA
namespace Go.Proofs.Ythplndalbfcbbaa.PA
open Go.RowKit Go.Proofs.YthplndalbfcbbaaW.PrintWords Go.Proofs.YthplndalbfcbbaaW.PrintLast Go.Proofs.YthplndalbfcbbaaW.PrintMore
attribute [local go_sem] max2_int min2_int max_two min_two max_three min_three max_four min_four   -- for this text's walks alone
set_option linter.unusedVariables false
set_option linter.unusedSimpArgs false
mutual
def elenchusref04_Few.l0 : Nat → List (S25) → Int → Int → Option (Bool)
  | 0, _, _, _ => none
  | k + 1, x0, x3, x4 => if x4 < (x0.length : Int) then (elenchusref04_Few.j1 k x0 x3 x4 (decide (x3 ≤ 60))) else (elenchusref04_Few.j1 k x0 x3 x4 false)
def elenchusref04_Few.j1 : Nat → List (S25) → Int → Int → Bool → Option (Bool)
  | 0, _, _, _, _ => none
  | k + 1, x0, x3, x4, x12 => if x12 = true then (if 0 ≤ x4 then (if x4 < (x0.length : Int) then ((elenchusref01_Count.f k ((rd_T25 x0 x4).f0) ((rd_T25 x0 x4).f1) 60).bind fun t324 => (elenchusref04_Few.l0 k x0 (wrap64 (x3 + t324)) (wrap64 (x4 + 1)))) else (none)) else (none)) else (some (decide (x3 ≤ 60)))
end
def elenchusref04_Few.f (k : Nat) (l0 : List (S25)) : Option (Bool) := elenchusref04_Few.l0 k l0 0 0
set_option maxHeartbeats 8000000 in
set_option maxRecDepth 100000 in
theorem elenchusref04_Few.calls (k : Nat) (A0 : Option Addr) (c0 : Nat) (l0 : List (S25)) (r : Bool) (w : World) (hr0 : Kd.C k25 w A0 l0.length l0) (hc0 : l0.length ≤ c0) (h : elenchusref04_Few.f k l0 = some r) :
    Calls Try.prog 54 #[.slice A0 l0.length c0] w fun e w' => e = .returned (.bool r) ∧ Below w.heap.size w w' := by
  have hu25 := Try.underlying25
  have HR0 := Aside0.mk hr0
  have HC0 := Aside0.mk hc0
  clear hr0 hc0
  have HB := Aside0.mk (Below.refl w.heap.size w)
  have H : (elenchusref04_Few.l0 k l0 0 0) = some r := h
  clear h
  have H' := Aside0.mk H
  clear H
  go_enter Try.func54, Try.ntmps54
  go_wp2
  go_loopg [3, 4] k (fun kq v3 v4 w' => ∃ (x3_1 : Int) (x4_1 : Int), v3 = .int .i64 x3_1 ∧ v4 = .int .i64 x4_1 ∧ Aside0 (elenchusref04_Few.l0 kq l0 x3_1 x4_1 = some r) ∧ Aside0 (kq ≤ k) ∧ Aside0 (Below w.heap.size w w'))
  case atStart => exact ⟨(0), (0), (by first | rfl | (simp; done) | (simp [*]; done)), (by first | rfl | (simp; done) | (simp [*]; done)), H', ⟨Nat.le_refl _⟩, ⟨by repeat (first | (with_reducible first | exact HB.out | apply below_alloc | apply pw_below_drewN | apply below_drew1) | exact HB.out)⟩⟩
  case round =>
    clear H'
    obtain ⟨x3_1, x4_1, rfl, rfl, HA, HK1, HB⟩ := hrel
    cases gk with
    | zero => exact absurd HA.out (by simp [elenchusref04_Few.l0])
    | succ k1 =>
      have H := HA.out
      clear HA
      simp only [elenchusref04_Few.l0] at H
      have HC2 := Aside0.mk H
      clear H
      go_upto_region 3 with (fail)
      go_cut [12] (fun v12 wc => ∃ (kq : Nat) (x12_1 : Bool), v12 = .bool x12_1 ∧ Aside0 (elenchusref04_Few.j1 kq l0 x3_1 x4_1 x12_1 = some r) ∧ Aside0 (kq ≤ k1) ∧ Aside0 (Below w.heap.size w wc))
      case first =>
        have H := HC2.out
        clear HC2
        by_cases c3 : x4_1 < (l0.length : Int)
        · rw [if_pos c3] at H
          have c3b0 : decide (x4_1 < (l0.length : Int)) = true := decide_eq_true c3
          clear c3
          (first | rw [c3b0] | (simp only [i64_w, i32_w]; rw [c3b0]) | skip)
          have H' := Aside0.mk H
          clear H
          go_wp2
          go_meet
          case rel => exact ⟨_, (decide (x3_1 ≤ 60)), (by first | rfl | (simp; done) | (simp [*]; done)), H', ⟨by have := HK1.out; first | omega | exact Nat.le_refl _⟩, ⟨by repeat (first | (with_reducible first | exact HB.out | apply below_alloc | apply pw_below_drewN | apply below_drew1) | exact HB.out)⟩⟩
        · rw [if_neg c3] at H
          have c3b0 : decide (x4_1 < (l0.length : Int)) = false := decide_eq_false c3
          clear c3
          (first | rw [c3b0] | (simp only [i64_w, i32_w]; rw [c3b0]) | skip)
          have H' := Aside0.mk H
          clear H
          go_wp2
          go_meet
          case rel => exact ⟨_, (false), (by first | rfl | (simp; done) | (simp [*]; done)), H', ⟨by have := HK1.out; first | omega | exact Nat.le_refl _⟩, ⟨by repeat (first | (with_reducible first | exact HB.out | apply below_alloc | apply pw_below_drewN | apply below_drew1) | exact HB.out)⟩⟩
      case rest =>
        clear HC2
        try clear p2
        try clear c3
        try clear c3b0
        obtain ⟨kq, x12_1, rfl, HA, HJ1, HB⟩ := hcut
        cases kq with
        | zero => exact absurd HA.out (by simp [elenchusref04_Few.j1])
        | succ kj1 =>
          have H := HA.out
          clear HA
          simp only [elenchusref04_Few.j1] at H
          by_cases c4 : x12_1 = true
          · subst c4
            have H1 : (if 0 ≤ x4_1 then (if x4_1 < (l0.length : Int) then ((elenchusref01_Count.f kj1 ((rd_T25 l0 x4_1).f0) ((rd_T25 l0 x4_1).f1) 60).bind fun t324 => (elenchusref04_Few.l0 kj1 l0 (wrap64 (x3_1 + t324)) (wrap64 (x4_1 + 1)))) else (none)) else (none)) = some r := by rw [if_pos rfl] at H; exact H
            clear H
            have H := H1
            clear H1
            by_cases c5 : 0 ≤ x4_1
            · rw [if_pos c5] at H
              have c5b0 : decide (0 ≤ x4_1) = true := decide_eq_true c5
              clear c5
              by_cases c6 : x4_1 < (l0.length : Int)
              · rw [if_pos c6] at H
                have c6b0 : decide (x4_1 < (l0.length : Int)) = true := decide_eq_true c6
                clear c6
                replace H := Option.bind_eq_some_iff.mp H
                obtain ⟨t324, A70, H⟩ := H
                replace H : (elenchusref04_Few.l0 kj1 l0 (wrap64 (x3_1 + t324)) (wrap64 (x4_1 + 1))) = some r := H
                have A7 := Aside0.mk A70
                clear A70
                have H' := Aside0.mk H
                clear H
                have p323 : 0 ≤ (x4_1 : Int) := of_decide_eq_true (by first | (with_reducible assumption) | assumption)
                have q323 : x4_1 < (l0.length : Int) := of_decide_eq_true (by first | (with_reducible assumption) | assumption)
                obtain ⟨ad323, A323_1, c323_1, e323, hx323_0, hx323_1, hl323_1, hi323_1⟩ := at_T25 HR0.out x4_1 p323 q323
                cases e323
                replace hx323_0 := (HB.out.cell (World.block_lt_of_cell? w _ hx323_0)).trans hx323_0
                replace hx323_1 := (HB.out.cell (World.block_lt_of_cell? w _ hx323_1)).trans hx323_1
                have HR323_1 := Aside0.mk hi323_1
                have HC323_1 := Aside0.mk hl323_1
                clear hi323_1 hl323_1
                replace p323 := eq_true p323
                replace q323 := eq_true q323
                go_wp2_with (first | ((with_reducible refine gate_callee (f := 80) rfl ?_); refine goesL_ (some 20) rfl rfl Try.func80 (by kernel_rfl) rfl #[.agg #[.int .i64 ((rd_T25 l0 x4_1).f0), .slice A323_1 ((rd_T25 l0 x4_1).f1).length c323_1], .int .i64 60] rfl (by (try simp only [List.map_toArray, List.map_cons, List.map_nil]); first | done | rfl | (simp only [List.length_drop, List.length_take]; rfl)) ?_; (with_reducible refine (elenchusref01_Count.calls kj1 ((rd_T25 l0 x4_1).f0) _ _ ((rd_T25 l0 x4_1).f1) 60 t324 _ ?side1 ?side2 A7.out).mono ?_); (case side1 => repeat (first | exact (Kd.C_below HR323_1.out HB.out) | (with_reducible refine Kd.C_alloc ?_ _) | (with_reducible refine Kd.C_drewN ?_ _) | (with_reducible refine Kd.C_drew ?_))); (case side2 => exact HC323_1.out); rintro e w8 ⟨rfl, hb⟩; refine ⟨_, rfl, ?_⟩; have n0_ := Aside0.mk (below_step (by repeat (first | (with_reducible first | exact HB.out | apply below_alloc | apply pw_below_drewN | apply below_drew1) | exact HB.out)) hb); clear HB; have HB := n0_; clear n0_; (try clear hb); (try clear hb2); (try clear hk); (try clear hi)))
                go_roundg kj1
                case measure => have := HK1.out; have := HJ1.out; omega
                case rel => exact ⟨(wrap64 (x3_1 + t324)), (wrap64 (x4_1 + 1)), (by first | rfl | (simp; done) | (simp [*]; done)), (by first | rfl | (simp; done) | (simp [*]; done)), H', ⟨by have := HK1.out; have := HJ1.out; omega⟩, ⟨by repeat (first | (with_reducible first | exact HB.out | apply below_alloc | apply pw_below_drewN | apply below_drew1) | exact HB.out)⟩⟩
              · rw [if_neg c6] at H
                exact absurd H (by simp)
            · rw [if_neg c5] at H
              exact absurd H (by simp)
          · replace c4 := Bool.eq_false_iff.mpr c4
            subst c4
            have H1 : (some (decide (x3_1 ≤ 60))) = some r := by rw [if_neg (show ¬ (false = true) by decide)] at H; exact H
            clear H
            have H := H1
            clear H1
            obtain rfl := Option.some.inj H
            go_wp2
            go_ret
            exact ⟨by first | rfl | (simp [errW_none, errW_some] <;> rfl) | (simp [*, errW_none, errW_some] <;> rfl), by repeat (first | (with_reducible first | exact HB.out | apply below_alloc | apply pw_below_drewN | apply below_drew1) | exact HB.out)⟩
end Go.Proofs.Ythplndalbfcbbaa.PA
namespace Go.Proofs.Ythplndalbfcbbaa.PA
open Go.RowKit Go.Proofs.YthplndalbfcbbaaW.PrintWords Go.Proofs.YthplndalbfcbbaaW.PrintLast Go.Proofs.YthplndalbfcbbaaW.PrintMore
attribute [local go_sem] max2_int min2_int max_two min_two max_three min_three max_four min_four   -- for this text's walks alone
set_option linter.unusedVariables false
set_option linter.unusedSimpArgs false
mutual
def elenchusref01_Size.l0 : Nat → Int → Int → Int → List (S25) → Option (Int)
  | 0, _, _, _, _ => none
  | k + 1, x3, x4, x326000, x326001 => if x4 < (x326001.length : Int) then (if 0 ≤ x4 then ((elenchusref01_Size.f k ((rd_T25 x326001 x4).f0) ((rd_T25 x326001 x4).f1)).bind fun t327 => (elenchusref01_Size.l0 k (wrap64 (x3 + t327)) (wrap64 (x4 + 1)) x326000 x326001)) else (none)) else (some x3)
def elenchusref01_Size.f : Nat → Int → List (S25) → Option (Int)
  | 0, _, _ => none
  | k + 1, a0_0, l0_1 => elenchusref01_Size.l0 k 1 0 a0_0 l0_1
end
set_option maxHeartbeats 8000000 in
set_option maxRecDepth 100000 in
theorem elenchusref01_Size.calls (k : Nat) : ∀ (a0_0 : Int) (A0_1 : Option Addr) (c0_1 : Nat) (l0_1 : List (S25)) (r : Int) (w : World) (hr0_1 : Kd.C k25 w A0_1 l0_1.length l0_1) (hc0_1 : l0_1.length ≤ c0_1) (h : elenchusref01_Size.f k a0_0 l0_1 = some r),
    Calls Try.prog 77 #[.agg #[.int .i64 a0_0, .slice A0_1 l0_1.length c0_1]] w fun e w' => e = .returned (.int .i64 r) ∧ Below w.heap.size w w' := by
  induction k using Nat.strongRecOn with
  | _ k ih =>
  intro a0_0 A0_1 c0_1 l0_1 r w hr0_1 hc0_1 h
  cases k with
  | zero => exact absurd h (by simp [elenchusref01_Size.f])
  | succ k =>
  simp only [elenchusref01_Size.f] at h
  have hu25 := Try.underlying25
  have HR0_1 := Aside0.mk hr0_1
  have HC0_1 := Aside0.mk hc0_1
  clear hr0_1 hc0_1
  have HB := Aside0.mk (Below.refl w.heap.size w)
  have H : (elenchusref01_Size.l0 k 1 0 a0_0 l0_1) = some r := h
  clear h
  have H' := Aside0.mk H
  clear H
  go_enter Try.func77, Try.ntmps77
  go_wp2_with (first | ((with_reducible refine gate_dst (N := 1) rfl ?_); refine box_event ?hg (N := 1) ?hd (cs := #[.int .i64 a0_0, .slice A0_1 l0_1.length c0_1]) (t := 25) ?hr ?_; (case hd => rfl); (case hg => rfl); (case hr => first | (go_simp; done) | (go_simp; rfl)); intro gb325 hg w2 hbox hb; have n0_ := Aside0.mk (below_step (by repeat (first | (with_reducible first | exact HB.out | apply below_alloc | apply pw_below_drewN | apply below_drew1) | exact HB.out)) hb); have n1_ := Aside0.mk (hbox); have n2_ := Aside0.mk ((by rw [hg]; exact (below_size (by repeat (first | (with_reducible first | exact HB.out | apply below_alloc | apply pw_below_drewN | apply below_drew1) | exact HB.out))) : w.heap.size ≤ gb325)); have n3_ := Aside0.mk ((by rw [hg]; exact (below_size (by repeat (first | (with_reducible first | exact HB.out | apply below_alloc | apply pw_below_drewN | apply below_drew1) | exact HB.out))) : w.heap.size ≤ gb325)); clear HB; have HB := n0_; have BK325 := n1_; have GW325 := n2_; have GE325 := n3_; clear n0_ n1_ n2_ n3_; clear hb hbox hg))
  go_loopg [3, 4] k (fun kq v3 v4 w' => ∃ (x3_1 : Int) (x4_1 : Int), v3 = .int .i64 x3_1 ∧ v4 = .int .i64 x4_1 ∧ Aside0 (elenchusref01_Size.l0 kq x3_1 x4_1 a0_0 l0_1 = some r) ∧ Aside0 (kq ≤ k) ∧ Aside0 (w'.heap[gb325]? = some (.cells #[.int .i64 a0_0, (.slice A0_1 l0_1.length c0_1)] 25 (0, 0))) ∧ Aside0 (Below w.heap.size w w'))
  case atStart => exact ⟨(1), (0), (by first | rfl | (simp; done) | (simp [*]; done)), (by first | rfl | (simp; done) | (simp [*]; done)), H', ⟨Nat.le_refl _⟩, ⟨by (with_reducible repeat (first | refine blk_drewN ?_ _ | refine blk_drew ?_ | refine blk_alloc ?_ _)); exact BK325.out⟩, ⟨by repeat (first | (with_reducible first | exact HB.out | apply below_alloc | apply pw_below_drewN | apply below_drew1 | refine below_set ?_ GE325.out) | exact HB.out)⟩⟩
  case round =>
    clear H'
    try clear p2
    obtain ⟨x3_1, x4_1, rfl, rfl, HA, HK1, BK325, HB⟩ := hrel
    cases gk with
    | zero => exact absurd HA.out (by simp [elenchusref01_Size.l0])
    | succ k1 =>
      have H := HA.out
      clear HA
      simp only [elenchusref01_Size.l0] at H
      by_cases c3 : x4_1 < (l0_1.length : Int)
      · rw [if_pos c3] at H
        have c3b0 : decide (x4_1 < (l0_1.length : Int)) = true := decide_eq_true c3
        clear c3
        by_cases c4 : 0 ≤ x4_1
        · rw [if_pos c4] at H
          have c4b0 : decide (0 ≤ x4_1) = true := decide_eq_true c4
          clear c4
          replace H := Option.bind_eq_some_iff.mp H
          obtain ⟨t327, A50, H⟩ := H
          replace H : (elenchusref01_Size.l0 k1 (wrap64 (x3_1 + t327)) (wrap64 (x4_1 + 1)) a0_0 l0_1) = some r := H
          have A5 := Aside0.mk A50
          clear A50
          have H' := Aside0.mk H
          clear H
          have hcz6_0 : wr.cell? ⟨gb325, 0, none⟩ = some (.int .i64 a0_0) := (blk_cell BK325.out 0).trans rfl
          have hcz6_1 : wr.cell? ⟨gb325, 1, none⟩ = some (.slice A0_1 l0_1.length c0_1) := (blk_cell BK325.out 1).trans rfl
          have hfz6_0 := blk_frozen BK325.out 0
          have hfz6_1 := blk_frozen BK325.out 1
          have p326 : 0 ≤ (x4_1 : Int) := of_decide_eq_true (by first | (with_reducible assumption) | assumption)
          have q326 : x4_1 < (l0_1.length : Int) := of_decide_eq_true (by first | (with_reducible assumption) | assumption)
          obtain ⟨ad326, A326_1, c326_1, e326, hx326_0, hx326_1, hl326_1, hi326_1⟩ := at_T25 HR0_1.out x4_1 p326 q326
          cases e326
          replace hx326_0 := (HB.out.cell (World.block_lt_of_cell? w _ hx326_0)).trans hx326_0
          replace hx326_1 := (HB.out.cell (World.block_lt_of_cell? w _ hx326_1)).trans hx326_1
          have HR326_1 := Aside0.mk hi326_1
          have HC326_1 := Aside0.mk hl326_1
          clear hi326_1 hl326_1
          replace p326 := eq_true p326
          replace q326 := eq_true q326
          go_wp2_with (first | ((with_reducible refine gate_callee (f := 77) rfl ?_); refine goesL_ (some 18) rfl rfl Try.func77 (by kernel_rfl) rfl #[.agg #[.int .i64 ((rd_T25 l0_1 x4_1).f0), .slice A326_1 ((rd_T25 l0_1 x4_1).f1).length c326_1]] rfl (by (try simp only [List.map_toArray, List.map_cons, List.map_nil]); first | done | rfl | (simp only [List.length_drop, List.length_take]; rfl)) ?_; (with_reducible refine (ih k1 (by have := HK1.out; omega) ((rd_T25 l0_1 x4_1).f0) _ _ ((rd_T25 l0_1 x4_1).f1) t327 _ ?side1 ?side2 A5.out).mono ?_); (case side1 => repeat (first | exact (Kd.C_below HR326_1.out HB.out) | (with_reducible refine Kd.C_alloc ?_ _) | (with_reducible refine Kd.C_drewN ?_ _) | (with_reducible refine Kd.C_drew ?_))); (case side2 => exact HC326_1.out); rintro e w7 ⟨rfl, hb⟩; refine ⟨_, rfl, ?_⟩; have n0_ := Aside0.mk (blk_below (g := gb325) (o := .cells #[.int .i64 a0_0, .slice (some ad326) l0_1.length c0_1] 25 (0, 0)) (by (with_reducible repeat (first | refine blk_drewN ?_ _ | refine blk_drew ?_ | refine blk_alloc ?_ _)); exact BK325.out) hb); have n1_ := Aside0.mk (below_step (by repeat (first | (with_reducible first | exact HB.out | apply below_alloc | apply pw_below_drewN | apply below_drew1 | refine below_set ?_ GE325.out) | exact HB.out)) hb); clear BK325; clear HB; have BK325 := n0_; have HB := n1_; clear n0_ n1_; (try clear hb); (try clear hb2); (try clear hk); (try clear hi)))
          go_roundg k1
          case measure => have := HK1.out; omega
          case rel => exact ⟨(wrap64 (x3_1 + t327)), (wrap64 (x4_1 + 1)), (by first | rfl | (simp; done) | (simp [*]; done)), (by first | rfl | (simp; done) | (simp [*]; done)), H', ⟨by have := HK1.out; omega⟩, ⟨by (with_reducible repeat (first | refine blk_drewN ?_ _ | refine blk_drew ?_ | refine blk_alloc ?_ _)); exact BK325.out⟩, ⟨by repeat (first | (with_reducible first | exact HB.out | apply below_alloc | apply pw_below_drewN | apply below_drew1 | refine below_set ?_ GE325.out) | exact HB.out)⟩⟩
        · rw [if_neg c4] at H
          exact absurd H (by simp)
      · rw [if_neg c3] at H
        have c3b0 : decide (x4_1 < (l0_1.length : Int)) = false := decide_eq_false c3
        clear c3
        obtain rfl := Option.some.inj H
        have hcz8_0 : wr.cell? ⟨gb325, 0, none⟩ = some (.int .i64 a0_0) := (blk_cell BK325.out 0).trans rfl
        have hcz8_1 : wr.cell? ⟨gb325, 1, none⟩ = some (.slice A0_1 l0_1.length c0_1) := (blk_cell BK325.out 1).trans rfl
        have hfz8_0 := blk_frozen BK325.out 0
        have hfz8_1 := blk_frozen BK325.out 1
        go_wp2
        go_ret
        exact ⟨by first | rfl | (simp [errW_none, errW_some] <;> rfl) | (simp [*, errW_none, errW_some] <;> rfl), by repeat (first | (with_reducible first | exact HB.out | apply below_alloc | apply pw_below_drewN | apply below_drew1 | refine below_set ?_ GE325.out) | exact HB.out)⟩
end Go.Proofs.Ythplndalbfcbbaa.PA
