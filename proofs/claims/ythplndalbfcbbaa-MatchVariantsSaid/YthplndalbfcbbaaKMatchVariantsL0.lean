/- What the proof of the law rests on: contracts of the functions, plain laws, and words. -/
import Derived.Test.YthplndalbfcbbaaProg
import Derived.Below
import Derived.Deep.Draws
import Derived.Deep.AppendLies
import Derived.Maps.AppendAt
import Derived.OwnWalk
import Derived.Laws.BytesArg
import Derived.Laws.MakeOwn
import Derived.Laws.OwnMore
import Derived.Deep.OwnRows
import Derived.Tactics
import Derived.Lib.ConvBytes
import Derived.Laws.Slices
import Derived.WalkKit
import Derived.KernelRfl
import Derived.RowKit3
import Derived.Deep.LoopGhost
import Derived.Deep.QuietTactic
import Derived.BigQuiet
import Derived.WideLaws
import Derived.Deep.DeepCutAuto
import Derived.Deep.CutBlock
import Derived.Deep.RegionHeld3
import Derived.Laws.Rows
import Derived.Lib.AppendStr
import Derived.ArgAppend
import Derived.Laws.IdiomCopy
import Derived.OrdersHeld
import Derived.Laws.BitsLemmas
import Derived.RowKit
import Derived.Laws.StructEq
import Derived.Test.YthplndalbfcbbaaKMatchVariantsU0
import Derived.Test.YthplndalbfcbbaaKMatchVariantsG4
import Derived.Test.YthplndalbfcbbaaKMatchVariantsG1
import Derived.Test.YthplndalbfcbbaaKMatchVariantsG6
import Derived.Test.YthplndalbfcbbaaKMatchVariantsG3
import Derived.Test.YthplndalbfcbbaaKMatchVariantsG7
import Derived.Test.YthplndalbfcbbaaKMatchVariantsG12
import Derived.Test.YthplndalbfcbbaaKMatchVariantsG9
import Derived.Test.YthplndalbfcbbaaKMatchVariantsG11
namespace Go.Proofs.Ythplndalbfcbbaa.PA
open Go.RowKit Go.Proofs.YthplndalbfcbbaaW.PrintWords Go.Proofs.YthplndalbfcbbaaW.PrintLast Go.Proofs.YthplndalbfcbbaaW.PrintMore
attribute [local go_sem] max2_int min2_int max_two min_two max_three min_three max_four min_four   -- for this text's walks alone
set_option linter.unusedVariables false
set_option linter.unusedSimpArgs false
def errW : Option Int → Value
  | none => .nilIface
  | some c => .iface 0 (.int .i64 c)
theorem errW_none : errW none = .nilIface := rfl
theorem errW_some (c : Int) : errW (some c) = .iface 0 (.int .i64 c) := rfl
structure S25 where
  f0 : Int
  f1 : (List S25)
def z25 : S25 := ⟨(0 : Int), ([] : List S25)⟩
def F25 (d : Kd S25) : Kd S25 := Kd.iso (Kd.pair (Kd.int .i64) (Kd.slice 25 d)) (fun x : S25 => (x.f0, x.f1))
theorem mono25 : Kd.Mono F25 := Kd.mono_iso _ (Kd.mono_pair (Kd.mono_const _) (Kd.mono_slice 25 Kd.mono_id))
theorem sub25 : Kd.Sub F25 [25] := Kd.sub_iso _ (Kd.sub_pair (Kd.sub_const _ (by decide)) (Kd.sub_slice 25 (by decide) Kd.sub_id))
theorem sz25 : ∀ n, (Kd.upto F25 2 [25] n).sz = 2 := Kd.upto_sz (fun _ => rfl)
def k25 : Kd S25 := Kd.fix F25 2 [25] sz25 (Kd.upto_E sub25)
theorem k25_heap : Kd.Heap k25 := Kd.heap_fix (fun _ h_ => Kd.heap_iso _ (Kd.heap_pair (Kd.heap_int .i64) (Kd.heap_slice 25 h_)))
theorem k25_open {w : World} {x : S25} {cs : List Value} (h : k25.K w x cs) : ∃ A1 c1, cs = [.int .i64 x.f0, .slice A1 x.f1.length c1] ∧ x.f1.length ≤ c1 ∧ k25.C w A1 x.f1.length x.f1 := by
  obtain ⟨n, h⟩ := h
  cases n with
  | zero => exact h.elim
  | succ n =>
    obtain ⟨_, _, rfl, rfl, ⟨A1, c1, rfl, l1, g1⟩⟩ := h
    exact ⟨A1, c1, rfl, l1, Kd.fix_C g1⟩
theorem k25_mk (w : World) (x : S25) {A1 : Option Addr} {c1 : Nat} (l1 : x.f1.length ≤ c1) (g1 : k25.C w A1 x.f1.length x.f1) : k25.K w x [.int .i64 x.f0, .slice A1 x.f1.length c1] := by
  obtain ⟨n1, q1⟩ := Kd.fix_C_back mono25 g1
  have r1 := Kd.upto_C_le mono25 sz25 (show n1 ≤ n1 by omega) q1
  exact ⟨n1 + 1, ⟨[.int .i64 x.f0], [.slice A1 x.f1.length c1], rfl, rfl, ⟨A1, c1, rfl, l1, r1⟩⟩⟩
theorem k25_openF {W : World} {ok : Nat → Prop} {x : S25} {cs : List Value} (h : Kd.FK k25 W ok x cs) : ∃ A1 c1, cs = [.int .i64 x.f0, .slice A1 x.f1.length c1] ∧ x.f1.length ≤ c1 ∧ Kd.F k25 W ok A1 x.f1.length x.f1 := by
  obtain ⟨A1, c1, rfl, l1, _⟩ := k25_open (Kd.FK_now h)
  exact ⟨A1, c1, rfl, l1, (fun W' hW => by obtain ⟨A1_, c1_, he, l1_, g1_⟩ := k25_open (h W' hW); injection (Option.some.inj (show some (Value.slice A1 x.f1.length c1) = some (Value.slice A1_ x.f1.length c1_) from congrArg (fun l => l[1]?) he)) with ha_ _ _; rw [ha_]; exact g1_)⟩
theorem k25_mkF (W : World) (ok : Nat → Prop) (x : S25) {A1 : Option Addr} {c1 : Nat} (l1 : x.f1.length ≤ c1) (g1 : Kd.F k25 W ok A1 x.f1.length x.f1) : Kd.FK k25 W ok x [.int .i64 x.f0, .slice A1 x.f1.length c1] := fun W2 hW => k25_mk W2 x l1 (g1 W2 hW)
def rd_T25 (xs : List S25) (i : Int) : S25 := xs.getD i.toNat z25
theorem at_T25 {w : World} {A : Option Addr} {n : Nat} {xs : List S25} (h : Kd.C k25 w A n xs) (i : Int) (h0 : 0 ≤ i) (h1 : i < n) : ∃ ad A1 c1, A = some ad ∧ w.cell? (ad.add (i.toNat * 2)) = some (.int .i64 (rd_T25 xs i).f0) ∧ w.cell? ⟨(ad.add (i.toNat * 2)).block, (ad.add (i.toNat * 2)).off + 1, none⟩ = some (.slice A1 (rd_T25 xs i).f1.length c1) ∧ (rd_T25 xs i).f1.length ≤ c1 ∧ k25.C w A1 (rd_T25 xs i).f1.length (rd_T25 xs i).f1 := by
  obtain ⟨ad, c, e, _, hK, hc0⟩ := Kd.C_get h z25 i h0 h1
  have hc : ∀ j u, c[j]? = some u → w.cell? (ad.add (i.toNat * 2 + j)) = some u := hc0
  obtain ⟨A1, c1, rfl, l1, g1⟩ := k25_open hK
  exact ⟨ad, A1, c1, e, hc 0 _ rfl, by rw [← add_field _ _ 1 (by omega)]; exact hc 1 _ rfl, l1, g1⟩
structure S60 where
  f0 : Int
  f1 : S25
end Go.Proofs.Ythplndalbfcbbaa.PA
set_option linter.unusedSimpArgs false
set_option linter.unusedVariables false
namespace Go.Proofs.Ythplndalbfcbbaa
open Go.RowKit Go.Proofs.YthplndalbfcbbaaW.PrintWords
abbrev TS := PA.S25
abbrev BS := PA.S60
abbrev kT := PA.k25
mutual
def toS : Tm → TS
  | .node h l => ⟨h, toSL l⟩
def toSL : List Tm → List TS
  | [] => []
  | t :: ts => toS t :: toSL ts
end
mutual
def ofS : TS → Tm
  | ⟨h, l⟩ => .node h (ofSL l)
def ofSL : List TS → List Tm
  | [] => []
  | x :: xs => ofS x :: ofSL xs
end
mutual
theorem ofS_toS : ∀ t : Tm, ofS (toS t) = t
  | .node h l => by simp only [toS, ofS, ofSL_toSL l]
theorem ofSL_toSL : ∀ l : List Tm, ofSL (toSL l) = l
  | [] => rfl
  | t :: ts => by simp only [toSL, ofSL, ofS_toS t, ofSL_toSL ts]
end
theorem toSL_map (l : List Tm) : toSL l = l.map toS := by induction l <;> simp_all [toSL]
theorem ofSL_map (l : List TS) : ofSL l = l.map ofS := by induction l <;> simp_all [ofSL]
theorem toSL_length (l : List Tm) : (toSL l).length = l.length := by rw [toSL_map]; simp
theorem ofSL_length (l : List TS) : (ofSL l).length = l.length := by rw [ofSL_map]; simp
theorem toS_f0 (t : Tm) : (toS t).f0 = t.h := by cases t; rfl
theorem toS_f1 (t : Tm) : (toS t).f1 = toSL t.args := by cases t; rfl
theorem add_flat (b off k : Nat) : (⟨b, off, none⟩ : Addr).add k = ⟨b, off + k, none⟩ := by unfold Addr.add; split <;> simp_all
mutual
theorem k_of {A : Nat → Prop} {w : World} : ∀ (t : Tm) (cs : List Value), RepD A w t.d cs → kT.K w (toS t) cs
  | .node h l, cs, hr => by
    obtain ⟨s, rfl, hs⟩ := repTm.1 hr
    have hs' : RepD A w (.row 2 (Tm.ds l)) [s] := hs
    simp only [RepD] at hs'
    obtain ⟨a, n, c, h1, h2, h3, h4, h5⟩ := hs'
    simp only [List.cons.injEq, and_true] at h1
    subst h1
    have hn : n = (toSL l).length := by rw [h2, Tm.ds_eq, toSL_length]; simp
    subst hn
    refine PA.k25_mk w (toS (.node h l)) (A1 := a) (c1 := c) h3 ⟨rfl, h4, fun h0 => ?_⟩
    obtain ⟨b, off, rfl, hb, hA, hR⟩ := h5 h0
    exact ⟨_, rfl, fun j p hp => by
      obtain ⟨c1, e1, e2, e3⟩ := kr_of l off hR j p hp
      exact ⟨c1, e1, e2, fun i u hu => by rw [add_flat, ← Nat.add_assoc]; exact e3 i u hu⟩⟩
theorem kr_of {A : Nat → Prop} {w : World} {b : Nat} : ∀ (l : List Tm) (off : Nat), RepR A w b 2 off (Tm.ds l) → ∀ j p, (toSL l)[j]? = some p → ∃ c : List Value, c.length = 2 ∧ kT.K w p c ∧ ∀ i u, c[i]? = some u → w.cell? ⟨b, off + j * 2 + i, none⟩ = some u
  | [], _, _, j, p, hp => by simp [toSL] at hp
  | t :: ts, off, h, j, p, hp => by
    simp only [Tm.ds, RepR] at h
    obtain ⟨⟨cs, e1, e2, e3⟩, h2⟩ := h
    cases j with
    | zero =>
      simp only [toSL, List.getElem?_cons_zero, Option.some.injEq] at hp
      subst hp
      refine ⟨cs, e1, k_of t cs e3, fun i u hu => ?_⟩
      have hi : i < 2 := by have := (List.getElem?_eq_some_iff.1 hu).1; omega
      rw [show off + 0 * 2 + i = off + i by omega, e2 i hi, hu]
    | succ j =>
      simp only [toSL, List.getElem?_cons_succ] at hp
      obtain ⟨c1, g1, g2, g3⟩ := kr_of ts (off + 2) h2 j p hp
      exact ⟨c1, g1, g2, fun i u hu => by rw [show off + (j + 1) * 2 + i = off + 2 + j * 2 + i by omega]; exact g3 i u hu⟩
end
theorem c_of {A : Nat → Prop} {w : World} {a : Option Addr} {n c : Nat} {l : List Tm} (hs : Terms A w (.slice a n c) l) : n = (toSL l).length ∧ (toSL l).length ≤ c ∧ kT.C w a (toSL l).length (toSL l) := by
  have hs' : RepD A w (.row 2 (Tm.ds l)) [.slice a n c] := hs
  simp only [RepD] at hs'
  obtain ⟨a', n', c', h1, h2, h3, h4, h5⟩ := hs'
  simp only [List.cons.injEq, and_true, Value.slice.injEq] at h1
  obtain ⟨rfl, rfl, rfl⟩ := h1
  have hn : n = (toSL l).length := by rw [h2, Tm.ds_eq, toSL_length]; simp
  subst hn
  refine ⟨rfl, h3, rfl, h4, fun h0 => ?_⟩
  obtain ⟨b, off, rfl, hb, hA, hR⟩ := h5 h0
  exact ⟨_, rfl, fun j p hp => by
    obtain ⟨c1, e1, e2, e3⟩ := kr_of l off hR j p hp
    exact ⟨c1, e1, e2, fun i u hu => by rw [add_flat, ← Nat.add_assoc]; exact e3 i u hu⟩⟩
theorem f_of {A ok : Nat → Prop} {w : World} {a : Option Addr} {n c : Nat} {l : List Tm} (hs : Terms A w (.slice a n c) l) (hA : ∀ b, b < w.heap.size → ¬ A b → ok b) : Kd.F kT w ok a (toSL l).length (toSL l) := fun W' hW =>
  (c_of (RepD.frame (B := A) (fun b hb hlt => hW b (hA b hlt hb) hlt) (fun _ _ h => h) _ _ hs : Terms A W' (.slice a n c) l)).2.2
theorem v_of {A ok : Nat → Prop} {w : World} {base e : Nat} {v : Value} {l : List Tm} (hs : Terms A w v l) (hA : ∀ b, b < w.heap.size → ¬ A b → ok b) : Kd.V kT e w base ok v (toSL l) := by
  obtain ⟨a, c, rfl, hc, hm⟩ := hs.shape
  refine ⟨a, c, ?_, by rw [toSL_length]; exact hc, f_of hs hA⟩
  rw [toSL_length]
theorem plain_of {w : World} {ad : Addr} {u : Value} (h : w.cell? ad = some u) : ad = ⟨ad.block, ad.off, none⟩ ∧ ad.block < w.heap.size := by
  refine ⟨?_, World.block_lt_of_cell? w ad h⟩
  cases ad with
  | mk b o s =>
    cases s with
    | none => rfl
    | some x =>
      unfold World.cell? at h
      split at h
      · simp at h
      · cases h
mutual
theorem tm_of {ok : Nat → Prop} {w : World} : ∀ (x : TS) (cs : List Value), Kd.FK kT w ok x cs → RepD (fun b => ¬ ok b) w (ofS x).d cs
  | ⟨h, l⟩, cs, hf => by
    obtain ⟨A1, c1, rfl, l1, g1⟩ := PA.k25_openF hf
    refine repTm.2 ⟨_, rfl, ?_⟩
    show RepD _ w (.row 2 (Tm.ds (ofSL l))) _
    simp only [RepD]
    refine ⟨A1, l.length, c1, rfl, by rw [Tm.ds_eq, List.length_map, ofSL_length], l1, Kd.F_max g1, fun h0 => ?_⟩
    obtain ⟨ad, c0, rfl, e1, _, e2, e3⟩ := Kd.F_get g1 PA.z25 0 (by omega) (by show (0 : Int) < (l.length : Int); omega)
    have hc0 : c0.length = 2 := e1
    have hcell := e2 0 (c0[0]'(by omega)) (List.getElem?_eq_getElem (by omega))
    obtain ⟨hp, hlt⟩ := plain_of (show w.cell? ad = some (c0[0]'(by omega)) from hcell)
    refine ⟨ad.block, ad.off, by rw [← hp], hlt, fun hn => hn (e3 (by show 0 < 2; omega)), tr_of l ad.off fun j p hj => ?_⟩
    have hjl := (List.getElem?_eq_some_iff.1 hj).1
    obtain ⟨ad', cs, he, g2, g3, g4, _⟩ := Kd.F_get g1 PA.z25 j (by omega) (by show (j : Int) < (l.length : Int); omega)
    simp only [Option.some.injEq] at he
    subst he
    have hx : l.getD (j : Int).toNat PA.z25 = p := by simp [List.getD_eq_getElem?_getD, hj]
    have g3' : Kd.FK kT w ok (l.getD (j : Int).toNat PA.z25) cs := g3
    rw [hx] at g3'
    refine ⟨cs, g2, g3', fun i u hu => ?_⟩
    have := g4 i u hu
    rw [hp, add_flat] at this
    rw [show ad.off + j * 2 + i = ad.off + ((j : Int).toNat * 2 + i) by simp; omega]
    exact this
theorem tr_of {ok : Nat → Prop} {w : World} {b : Nat} : ∀ (l : List TS) (off : Nat), (∀ j p, l[j]? = some p → ∃ cs : List Value, cs.length = 2 ∧ Kd.FK kT w ok p cs ∧ ∀ i u, cs[i]? = some u → w.cell? ⟨b, off + j * 2 + i, none⟩ = some u) → RepR (fun b => ¬ ok b) w b 2 off (Tm.ds (ofSL l))
  | [], _, _ => by simp only [ofSL, Tm.ds, RepR]
  | x :: xs, off, h => by
    simp only [ofSL, Tm.ds, RepR]
    obtain ⟨cs, e1, e2, e3⟩ := h 0 x rfl
    refine ⟨⟨cs, e1, fun i hi => ?_, tm_of x cs e2⟩, tr_of xs (off + 2) fun j p hj => ?_⟩
    · have := e3 i (cs[i]'(by omega)) (List.getElem?_eq_getElem (by omega))
      rw [show off + 0 * 2 + i = off + i by omega] at this
      rw [this, List.getElem?_eq_getElem (by omega)]
    · obtain ⟨c1, g1, g2, g3⟩ := h (j + 1) p (by simpa using hj)
      exact ⟨c1, g1, g2, fun i u hu => by rw [show off + 2 + j * 2 + i = off + (j + 1) * 2 + i by omega]; exact g3 i u hu⟩
end
theorem terms_of {ok : Nat → Prop} {w : World} {a : Option Addr} {c : Nat} {l : List TS} (hc : l.length ≤ c) (hf : Kd.F kT w ok a l.length l) : Terms (fun b => ¬ ok b) w (.slice a l.length c) (ofSL l) := by
  have h : Kd.FK kT w ok (⟨0, l⟩ : TS) [.int .i64 0, .slice a l.length c] := PA.k25_mkF w ok ⟨0, l⟩ hc hf
  have h2 := tm_of _ _ h
  obtain ⟨s, e, h3⟩ := repTm.1 h2
  simp only [List.cons.injEq, and_true] at e
  rw [e.2]; exact h3
theorem terms_of_c {w : World} {a : Option Addr} {c : Nat} {l : List TS} (hc : l.length ≤ c) (h : kT.C w a l.length l) : Terms (fun _ => False) w (.slice a l.length c) (ofSL l) :=
  RepD.frame (A := fun b => ¬ (b < w.heap.size)) (B := fun _ => False) (fun _ _ _ => rfl) (fun _ _ h => h.elim) _ _ (terms_of hc (Kd.C_F PA.k25_heap h))
def toB (b : Bd) : BS := ⟨b.v, toS b.t⟩
def ofB (x : BS) : Bd := ⟨x.f0, ofS x.f1⟩
def toBL (l : List Bd) : List BS := l.map toB
def ofBL (l : List BS) : List Bd := l.map ofB
theorem ofB_toB (b : Bd) : ofB (toB b) = b := by cases b; simp [toB, ofB, ofS_toS]
theorem ofBL_toBL (l : List Bd) : ofBL (toBL l) = l := by simp [ofBL, toBL, ofB_toB, Function.comp_def]
end Go.Proofs.Ythplndalbfcbbaa
set_option linter.unusedSimpArgs false
set_option linter.unusedVariables false
namespace Go.Proofs.Ythplndalbfcbbaa
open Go.RowKit Go.Proofs.YthplndalbfcbbaaW.PrintWords
theorem isTm_of_c {w : World} {h : Int} {a : Option Addr} {c : Nat} {l : List TS} (hc : l.length ≤ c) (hr : kT.C w a l.length l) : IsTm (fun _ => False) w h (.slice a l.length c) (ofS ⟨h, l⟩) := by
  refine ⟨rfl, ?_⟩
  exact terms_of_c hc hr
namespace PA
def term_Same.f (a0 : Int) (l0 : List TS) (a1 : Int) (l1 : List TS) : Option Bool := if (ofS ⟨a0, l0⟩).size ≤ 1000000000 then some (sameB (ofS ⟨a0, l0⟩) (ofS ⟨a1, l1⟩)) else none
theorem term_Same.calls (a0 : Int) (A0 : Option Addr) (c0 : Nat) (l0 : List TS) (a1 : Int) (A1 : Option Addr) (c1 : Nat) (l1 : List TS) (r : Bool) (w : World) (hr0 : Kd.C kT w A0 l0.length l0) (hc0 : l0.length ≤ c0) (hr1 : Kd.C kT w A1 l1.length l1) (hc1 : l1.length ≤ c1) (h : term_Same.f a0 l0 a1 l1 = some r) :
    Calls Try.prog 38 #[.agg #[.int .i64 a0, .slice A0 l0.length c0], .agg #[.int .i64 a1, .slice A1 l1.length c1]] w fun e w' => e = .returned (.bool r) ∧ Below w.heap.size w w' := by
  unfold term_Same.f at h
  split at h
  · rename_i hs
    cases h
    exact tsame_calls _ _ _ _ _ _ _ _ w hs (isTm_of_c hc0 hr0) (isTm_of_c hc1 hr1)
  · cases h
end PA
end Go.Proofs.Ythplndalbfcbbaa
set_option linter.unusedSimpArgs false
set_option linter.unusedVariables false
namespace Go.Proofs.Ythplndalbfcbbaa
open Go.RowKit Go.Proofs.YthplndalbfcbbaaW.PrintWords
namespace PA
def elenchusref03_Put.f (l0 : List BS) (a1 : Int) (l1 : List TS) : Option (Int × (List TS)) :=
  if (ofS ⟨a1, l1⟩).good = true then some ((putT (ofBL l0) (ofS ⟨a1, l1⟩)).h, toSL (putT (ofBL l0) (ofS ⟨a1, l1⟩)).args) else none
end PA
end Go.Proofs.Ythplndalbfcbbaa
set_option linter.unusedSimpArgs false
set_option linter.unusedVariables false
namespace Go.Proofs.Ythplndalbfcbbaa
open Go.RowKit Go.Proofs.YthplndalbfcbbaaW.PrintWords
theorem ofSL_sizes {l : List TS} {t : Tm} (ht : t ∈ ofSL l) : t.size ≤ Tm.sizes (ofSL l) := by
  obtain ⟨i, hi, rfl⟩ := List.getElem_of_mem ht
  exact Tm.size_get _ i hi
namespace PA
def match_wrong.f (l0 : List TS) : Option Bool :=
  if Tm.sizes (ofSL l0) ≤ 1000000000 then some (!(ofSL l0).all rightB) else none
theorem match_wrong.calls (A0 : Option Addr) (c0 : Nat) (l0 : List TS) (r : Bool) (w : World)
    (hr0 : Kd.C kT w A0 l0.length l0) (hc0 : l0.length ≤ c0) (h : match_wrong.f l0 = some r) :
    Calls Try.prog 96 #[.slice A0 l0.length c0] w fun e w' => e = .returned (.bool r) ∧ Below w.heap.size w w' := by
  unfold match_wrong.f at h
  split at h
  · rename_i hs
    simp only [Option.some.injEq] at h
    subst h
    exact wrong_calls _ _ _ w (terms_of_c hc0 hr0) fun t ht => Nat.le_trans (ofSL_sizes ht) hs
  · cases h
def match_Norm.f (l0 : List TS) : Option (List TS × Int) :=
  if Tm.sizes (ofSL l0) ≤ 1000000000 then some (toSL (normT (ofSL l0)).1, (normT (ofSL l0)).2) else none
theorem match_Norm.calls (A0 : Option Addr) (c0 : Nat) (l0 : List TS) (r1 : List TS) (r2 : Int) (w : World)
    (hr0 : Kd.C kT w A0 l0.length l0) (hc0 : l0.length ≤ c0) (h : match_Norm.f l0 = some (r1, r2)) :
    Calls Try.prog 51 #[.slice A0 l0.length c0] w fun e w' => ∃ v0_ : Value, e = .returned (.tuple #[v0_, .int .i64 r2]) ∧ Kd.V kT 25 w' w.heap.size (fun k_ => (w.heap.size ≤ k_)) v0_ r1 ∧ Below w.heap.size w w' := by
  unfold match_Norm.f at h
  split at h
  · rename_i hs
    simp only [Option.some.injEq, Prod.mk.injEq] at h
    obtain ⟨rfl, rfl⟩ := h
    refine (norm_calls (fun b => b < w.heap.size) _ _ _ w hs (fun _ h => h) (terms_of_c hc0 hr0)).mono ?_
    rintro e w' ⟨v, rfl, h1, h2⟩
    exact ⟨v, rfl, v_of h1 (fun b _ hb => Nat.not_lt.1 hb), h2⟩
  · cases h
end PA
end Go.Proofs.Ythplndalbfcbbaa
namespace Go.Proofs.Ythplndalbfcbbaa.PA
open Go.RowKit Go.Proofs.YthplndalbfcbbaaW.PrintWords Go.Proofs.YthplndalbfcbbaaW.PrintLast Go.Proofs.YthplndalbfcbbaaW.PrintMore
attribute [local go_sem] max2_int min2_int max_two min_two max_three min_three max_four min_four   -- for this text's walks alone
set_option linter.unusedVariables false
set_option linter.unusedSimpArgs false
def match_Variant.f (a0_0 : Int) (l0_1 : List (S25)) (a1_0 : Int) (l1_1 : List (S25)) : Option (Bool × Int) := (match_wrong.f (([(⟨a0_0, l0_1⟩ : S25), (⟨a1_0, l1_1⟩ : S25)] : List (S25)))).bind fun t120 => (if t120 = true then (some (false, 1)) else ((match_Norm.f (([(⟨a0_0, l0_1⟩ : S25)] : List (S25)))).bind fun bt124 => ((match_Norm.f (([(⟨a1_0, l1_1⟩ : S25)] : List (S25)))).bind fun bt131 => (if 0 < (bt124.1.length : Int) then (if 0 < (bt131.1.length : Int) then ((term_Same.f ((rd_T25 bt124.1 0).f0) ((rd_T25 bt124.1 0).f1) ((rd_T25 bt131.1 0).f0) ((rd_T25 bt131.1 0).f1)).bind fun t137 => (some (t137, 0))) else (none)) else (none)))))
def match_Variant.T5 : Bool × List (List Nat × List Nat) := (true, [([], []), ([0], [0]), ([1], [1]), ([], []), ([3], [3]), ([4], [4]), ([2, 5], [2, 5]), ([6, 6, 0, 1, 2, 3, 4, 5, 6], [6]), ([7, 0, 1, 2, 3, 4, 5, 6, 7], [])])
def match_Variant.B5 : List Nat := [0, 1, 3, 0, 8, 24, 63, 127, 255]
theorem match_Variant.tab5 : rtab .any (opsOf Try.f49 5) = match_Variant.T5 := by kernel_rfl
theorem match_Variant.bits5 : waitsOk match_Variant.T5.2 match_Variant.B5 = true := by kernel_rfl
set_option maxHeartbeats 8000000 in
set_option maxRecDepth 100000 in
theorem match_Variant.calls (a0_0 : Int) (P0_1_ : Nat → Prop) (A0_1 : Option Addr) (c0_1 : Nat) (l0_1 : List (S25)) (a1_0 : Int) (P1_1_ : Nat → Prop) (A1_1 : Option Addr) (c1_1 : Nat) (l1_1 : List (S25)) (r1 : Bool) (r2 : Int) (w : World) (hs0_1 : Kd.V k25 25 w w.heap.size (fun k_ => P0_1_ k_) (.slice A0_1 l0_1.length c0_1) l0_1) (hs1_1 : Kd.V k25 25 w w.heap.size (fun k_ => P1_1_ k_) (.slice A1_1 l1_1.length c1_1) l1_1) (h : match_Variant.f a0_0 l0_1 a1_0 l1_1 = some (r1, r2)) :
    Calls Try.prog 49 #[.agg #[.int .i64 a0_0, .slice A0_1 l0_1.length c0_1], .agg #[.int .i64 a1_0, .slice A1_1 l1_1.length c1_1]] w fun e w' => e = .returned (.tuple #[.bool r1, .int .i64 r2]) ∧ Below w.heap.size w w' := by
  have hu25 := Try.underlying25
  have HO0_1 := Aside0.mk (show Kd.V k25 25 w w.heap.size (fun k_ => ((P0_1_ k_ ∨ P1_1_ k_) ∨ w.heap.size ≤ k_)) (.slice A0_1 l0_1.length c0_1) l0_1 from Kd.V_mono hs0_1 (fun k_ hk => .inl (.inl hk)))
  have HO1_1 := Aside0.mk (show Kd.V k25 25 w w.heap.size (fun k_ => ((P0_1_ k_ ∨ P1_1_ k_) ∨ w.heap.size ≤ k_)) (.slice A1_1 l1_1.length c1_1) l1_1 from Kd.V_mono hs1_1 (fun k_ hk => .inl (.inr hk)))
  have HB := Aside0.mk (Below.refl w.heap.size w)
  have H : ((match_wrong.f (([(⟨a0_0, l0_1⟩ : S25), (⟨a1_0, l1_1⟩ : S25)] : List (S25)))).bind fun t120 => (if t120 = true then (some (false, 1)) else ((match_Norm.f (([(⟨a0_0, l0_1⟩ : S25)] : List (S25)))).bind fun bt124 => ((match_Norm.f (([(⟨a1_0, l1_1⟩ : S25)] : List (S25)))).bind fun bt131 => (if 0 < (bt124.1.length : Int) then (if 0 < (bt131.1.length : Int) then ((term_Same.f ((rd_T25 bt124.1 0).f0) ((rd_T25 bt124.1 0).f1) ((rd_T25 bt131.1 0).f0) ((rd_T25 bt131.1 0).f1)).bind fun t137 => (some (t137, 0))) else (none)) else (none)))))) = some (r1, r2) := h
  clear h
  obtain ⟨y117, hy117⟩ : ∃ y_ : List (S25), y_ = (([(⟨a0_0, l0_1⟩ : S25), (⟨a1_0, l1_1⟩ : S25)] : List (S25))) := ⟨_, rfl⟩
  replace H : ((match_wrong.f y117).bind fun t120 => (if t120 = true then (some (false, 1)) else ((match_Norm.f (([(⟨a0_0, l0_1⟩ : S25)] : List (S25)))).bind fun bt124 => ((match_Norm.f (([(⟨a1_0, l1_1⟩ : S25)] : List (S25)))).bind fun bt131 => (if 0 < (bt124.1.length : Int) then (if 0 < (bt131.1.length : Int) then ((term_Same.f ((rd_T25 bt124.1 0).f0) ((rd_T25 bt124.1 0).f1) ((rd_T25 bt131.1 0).f0) ((rd_T25 bt131.1 0).f1)).bind fun t137 => (some (t137, 0))) else (none)) else (none)))))) = some (r1, r2) := by first | (rw [hy117]; with_reducible exact H) | (have H2_ := (Option.bind_some _ _).symm.trans H; rw [hy117]; with_reducible exact H2_) | (have H2_ := (Option.bind_some _ _).symm.trans H; with_reducible exact H2_) | with_reducible exact H | (rw [hy117]; exact H) | exact H
  have Ny117 := Aside0.mk hy117
  clear hy117
  replace H := Option.bind_eq_some_iff.mp H
  obtain ⟨t120, A30, H⟩ := H
  replace H : (if t120 = true then (some (false, 1)) else ((match_Norm.f (([(⟨a0_0, l0_1⟩ : S25)] : List (S25)))).bind fun bt124 => ((match_Norm.f (([(⟨a1_0, l1_1⟩ : S25)] : List (S25)))).bind fun bt131 => (if 0 < (bt124.1.length : Int) then (if 0 < (bt131.1.length : Int) then ((term_Same.f ((rd_T25 bt124.1 0).f0) ((rd_T25 bt124.1 0).f1) ((rd_T25 bt131.1 0).f0) ((rd_T25 bt131.1 0).f1)).bind fun t137 => (some (t137, 0))) else (none)) else (none))))) = some (r1, r2) := H
  have A3 := Aside0.mk A30
  clear A30
  by_cases c4 : t120 = true
  · subst c4
    have H1 : (some (false, 1)) = some (r1, r2) := by rw [if_pos rfl] at H; exact H
    clear H
    have H := H1
    clear H1
    simp only [Option.some.injEq, Prod.mk.injEq] at H
    obtain ⟨rfl, rfl⟩ := H
    go_enter Try.func49, Try.ntmps49
    go_wp2_with (first | ((with_reducible refine gate_dst (N := 2) rfl ?_); refine box_event ?hg (N := 2) ?hd (cs := #[.int .i64 a0_0, .slice A0_1 l0_1.length c0_1]) (t := 25) ?hr ?_; (case hd => rfl); (case hg => rfl); (case hr => first | (go_simp; done) | (go_simp; rfl)); intro gb115 hg w5 hbox hb; have n0_ := Aside0.mk (Kd.V_below (Kd.V_elderB (by (with_reducible repeat (first | apply Kd.V_alloc | apply Kd.V_drewN | apply Kd.V_drew)); exact HO0_1.out) gb115 (Nat.le_of_eq hg.symm)) hb); have n1_ := Aside0.mk (Kd.V_below (Kd.V_elderB (by (with_reducible repeat (first | apply Kd.V_alloc | apply Kd.V_drewN | apply Kd.V_drew)); exact HO1_1.out) gb115 (Nat.le_of_eq hg.symm)) hb); have n2_ := Aside0.mk (below_step (by repeat (first | (with_reducible first | exact HB.out | apply below_alloc | apply pw_below_drewN | apply below_drew1) | exact HB.out)) hb); have n3_ := Aside0.mk (hbox); have n4_ := Aside0.mk ((by rw [hg]; exact (below_size (by repeat (first | (with_reducible first | exact HB.out | apply below_alloc | apply pw_below_drewN | apply below_drew1) | exact HB.out))) : w.heap.size ≤ gb115)); have n5_ := Aside0.mk ((by rw [hg]; exact (below_size (by repeat (first | (with_reducible first | exact HB.out | apply below_alloc | apply pw_below_drewN | apply below_drew1) | exact HB.out))) : w.heap.size ≤ gb115)); clear HO0_1; clear HO1_1; clear HB; have HO0_1 := n0_; have HO1_1 := n1_; have HB := n2_; have BK115 := n3_; have GW115 := n4_; have GE115 := n5_; clear n0_ n1_ n2_ n3_ n4_ n5_; clear hb hbox hg) | ((with_reducible refine gate_dst (N := 3) rfl ?_); refine box_event ?hg (N := 3) ?hd (cs := #[.int .i64 a1_0, .slice A1_1 l1_1.length c1_1]) (t := 25) ?hr ?_; (case hd => rfl); (case hg => rfl); (case hr => first | (go_simp; done) | (go_simp; rfl)); intro gb116 hg w6 hbox hb; have n0_ := Aside0.mk (Kd.V_below (Kd.V_elderB (by (with_reducible repeat (first | apply Kd.V_alloc | apply Kd.V_drewN | apply Kd.V_drew)); exact HO0_1.out) gb116 (Nat.le_of_eq hg.symm)) hb); have n1_ := Aside0.mk (Kd.V_below (Kd.V_elderB (by (with_reducible repeat (first | apply Kd.V_alloc | apply Kd.V_drewN | apply Kd.V_drew)); exact HO1_1.out) gb116 (Nat.le_of_eq hg.symm)) hb); have n2_ := Aside0.mk (blk_below (g := gb115) (o := .cells #[.int .i64 a0_0, .slice A0_1 l0_1.length c0_1] 25 (0, 0)) (by (with_reducible repeat (first | refine blk_drewN ?_ _ | refine blk_drew ?_ | refine blk_alloc ?_ _)); exact BK115.out) hb); have n3_ := Aside0.mk (below_step (by repeat (first | (with_reducible first | exact HB.out | apply below_alloc | apply pw_below_drewN | apply below_drew1 | refine below_set ?_ GE115.out) | exact HB.out)) hb); have n4_ := Aside0.mk (hbox); have n5_ := Aside0.mk ((by rw [hg]; exact (below_size (by repeat (first | (with_reducible first | exact HB.out | apply below_alloc | apply pw_below_drewN | apply below_drew1 | refine below_set ?_ GE115.out) | exact HB.out))) : w.heap.size ≤ gb116)); have n6_ := Aside0.mk ((by rw [hg]; exact (below_size (by repeat (first | (with_reducible first | exact HB.out | apply below_alloc | apply pw_below_drewN | apply below_drew1 | refine below_set ?_ GE115.out) | exact HB.out))) : w.heap.size ≤ gb116)); have n7_ := Aside0.mk ((by rw [hg]; exact Nat.ne_of_lt (blk_lt (g := gb115) (o := .cells #[.int .i64 a0_0, .slice A0_1 l0_1.length c0_1] 25 (0, 0)) (by (with_reducible repeat (first | refine blk_drewN ?_ _ | refine blk_drew ?_ | refine blk_alloc ?_ _)); exact BK115.out)) : gb115 ≠ gb116)); have n8_ := Aside0.mk ((by rw [hg]; exact Nat.ne_of_gt (blk_lt (g := gb115) (o := .cells #[.int .i64 a0_0, .slice A0_1 l0_1.length c0_1] 25 (0, 0)) (by (with_reducible repeat (first | refine blk_drewN ?_ _ | refine blk_drew ?_ | refine blk_alloc ?_ _)); exact BK115.out)) : gb116 ≠ gb115)); clear HO0_1; clear HO1_1; clear BK115; clear HB; have HO0_1 := n0_; have HO1_1 := n1_; have BK115 := n2_; have HB := n3_; have BK116 := n4_; have GW116 := n5_; have GE116 := n6_; have NB115_116 := n7_; have NB116_115 := n8_; clear n0_ n1_ n2_ n3_ n4_ n5_ n6_ n7_ n8_; clear hb hbox hg; have hnb7 := NB115_116.out; have hnc7 := NB116_115.out; have hcz8_0 : w6.cell? ⟨gb115, 0, none⟩ = some (.int .i64 a0_0) := (blk_cell BK115.out 0).trans rfl; have hcz8_1 : w6.cell? ⟨gb115, 1, none⟩ = some (.slice A0_1 l0_1.length c0_1) := (blk_cell BK115.out 1).trans rfl; have hfz8_0 := blk_frozen BK115.out 0; have hfz8_1 := blk_frozen BK115.out 1; have hcz9_0 : w6.cell? ⟨gb116, 0, none⟩ = some (.int .i64 a1_0) := (blk_cell BK116.out 0).trans rfl; have hcz9_1 : w6.cell? ⟨gb116, 1, none⟩ = some (.slice A1_1 l1_1.length c1_1) := (blk_cell BK116.out 1).trans rfl; have hfz9_0 := blk_frozen BK116.out 0; have hfz9_1 := blk_frozen BK116.out 1) | ((with_reducible refine gate_dst (N := 12) rfl ?_); refine Kd.N_lit k25 _ 25 ?hg (N' := 12) ?hd (xs := ([(⟨a0_0, l0_1⟩ : S25), (⟨a1_0, l1_1⟩ : S25)] : List (S25))) (inner := [.int .i64 a0_0, .slice A0_1 l0_1.length c0_1, .int .i64 a1_0, .slice A1_1 l1_1.length c1_1]) (ok := (fun k_ => ((P0_1_ k_ ∨ P1_1_ k_) ∨ w.heap.size ≤ k_) ∧ k_ ≠ gb115 ∧ k_ ≠ gb116)) (okp := (fun k_ => ((P0_1_ k_ ∨ P1_1_ k_) ∨ w.heap.size ≤ k_) ∧ k_ ≠ gb115 ∧ k_ ≠ gb116)) ?hr ?hp (fun _ hk => hk) ((show ∀ k_, w6.heap.size ≤ k_ → (fun k_ => ((P0_1_ k_ ∨ P1_1_ k_) ∨ w.heap.size ≤ k_) ∧ k_ ≠ gb115 ∧ k_ ≠ gb116) k_ from fun k_ hk => ⟨(.inr (Nat.le_trans (below_size (by repeat (first | (with_reducible first | exact HB.out | apply below_alloc | apply pw_below_drewN | apply below_drew1 | refine below_set ?_ GE115.out | refine below_set ?_ GE116.out) | exact HB.out))) hk)), Kd.freshB (g := gb115) (o := .cells #[.int .i64 a0_0, .slice A0_1 l0_1.length c0_1] 25 (0, 0)) (by (with_reducible repeat (first | refine blk_drewN ?_ _ | refine blk_drew ?_ | refine blk_alloc ?_ _)); exact BK115.out) k_ hk, Kd.freshB (g := gb116) (o := .cells #[.int .i64 a1_0, .slice A1_1 l1_1.length c1_1] 25 (0, 0)) (by (with_reducible repeat (first | refine blk_drewN ?_ _ | refine blk_drew ?_ | refine blk_alloc ?_ _)); exact BK116.out) k_ hk⟩) _ (Nat.le_refl _)) (Below.refl _ _) (Nat.le_refl _) (by simp) ?_; (case hd => rfl); (case hg => rfl); (case hr => first | (go_simp; done) | (go_simp; rfl)); (case hp => exact (Reps.c2 (show Kd.FK k25 _ _ (⟨a0_0, l0_1⟩ : S25) [.int .i64 a0_0, .slice A0_1 l0_1.length c0_1] from (k25_mkF _ _ (⟨a0_0, l0_1⟩ : S25) (Kd.V_reads' (Kd.V_mono (ok' := (fun k_ => ((P0_1_ k_ ∨ P1_1_ k_) ∨ w.heap.size ≤ k_) ∧ k_ ≠ gb115 ∧ k_ ≠ gb116)) (HO0_1.out) (fun k_ hk => ⟨hk.1.1, ⟨hk.1.2, hk.2⟩⟩))).2.1 (Kd.V_F (Kd.V_mono (ok' := (fun k_ => ((P0_1_ k_ ∨ P1_1_ k_) ∨ w.heap.size ≤ k_) ∧ k_ ≠ gb115 ∧ k_ ≠ gb116)) (HO0_1.out) (fun k_ hk => ⟨hk.1.1, ⟨hk.1.2, hk.2⟩⟩))))) (Reps.c2 (show Kd.FK k25 _ _ (⟨a1_0, l1_1⟩ : S25) [.int .i64 a1_0, .slice A1_1 l1_1.length c1_1] from (k25_mkF _ _ (⟨a1_0, l1_1⟩ : S25) (Kd.V_reads' (Kd.V_mono (ok' := (fun k_ => ((P0_1_ k_ ∨ P1_1_ k_) ∨ w.heap.size ≤ k_) ∧ k_ ≠ gb115 ∧ k_ ≠ gb116)) (HO1_1.out) (fun k_ hk => ⟨hk.1.1, ⟨hk.1.2, hk.2⟩⟩))).2.1 (Kd.V_F (Kd.V_mono (ok' := (fun k_ => ((P0_1_ k_ ∨ P1_1_ k_) ∨ w.heap.size ≤ k_) ∧ k_ ≠ gb115 ∧ k_ ≠ gb116)) (HO1_1.out) (fun k_ hk => ⟨hk.1.1, ⟨hk.1.2, hk.2⟩⟩))))) (Reps.none _ _)))); intro v118 w10 ho11 hb hg_ hnew_; clear hg_ hnew_; (first | rw [← Ny117.out] at ho11 | (simp only [Int.reduceToNat] at ho11; rw [← Ny117.out] at ho11)); have n0_ := Aside0.mk (Kd.V_elder' (by (with_reducible repeat (first | apply Kd.V_alloc | apply Kd.V_drewN | apply Kd.V_drew)); exact HO0_1.out) (by first | exact Kd.N_base ho11 | exact Kd.R_base ho11) hb); have n1_ := Aside0.mk (Kd.V_elder' (by (with_reducible repeat (first | apply Kd.V_alloc | apply Kd.V_drewN | apply Kd.V_drew)); exact HO1_1.out) (by first | exact Kd.N_base ho11 | exact Kd.R_base ho11) hb); have n2_ := Aside0.mk (Kd.N_lower ho11 (below_size (by repeat (first | (with_reducible first | exact HB.out | apply below_alloc | apply pw_below_drewN | apply below_drew1 | refine below_set ?_ GE115.out | refine below_set ?_ GE116.out) | exact HB.out)))); have n3_ := Aside0.mk (blk_below (g := gb115) (o := .cells #[.int .i64 a0_0, .slice A0_1 l0_1.length c0_1] 25 (0, 0)) (by (with_reducible repeat (first | refine blk_drewN ?_ _ | refine blk_drew ?_ | refine blk_alloc ?_ _)); exact BK115.out) hb); have n4_ := Aside0.mk (blk_below (g := gb116) (o := .cells #[.int .i64 a1_0, .slice A1_1 l1_1.length c1_1] 25 (0, 0)) (by (with_reducible repeat (first | refine blk_drewN ?_ _ | refine blk_drew ?_ | refine blk_alloc ?_ _)); exact BK116.out) hb); have n5_ := Aside0.mk (below_step (by repeat (first | (with_reducible first | exact HB.out | apply below_alloc | apply pw_below_drewN | apply below_drew1 | refine below_set ?_ GE115.out | refine below_set ?_ GE116.out) | exact HB.out)) hb); clear HO0_1; clear HO1_1; clear BK115; clear BK116; clear HB; have HO0_1 := n0_; have HO1_1 := n1_; have HO119 := n2_; have BK115 := n3_; have BK116 := n4_; have HB := n5_; clear n0_ n1_ n2_ n3_ n4_ n5_; clear hb ho11; obtain ⟨Ao12, co12, eo12⟩ := Kd.N_slice HO119.out; subst eo12) | ((with_reducible refine gate_callee (f := 96) rfl ?_); refine goesL_ (some 13) rfl rfl Try.func96 (by kernel_rfl) rfl #[.slice Ao12 y117.length co12] rfl (by (try simp only [List.map_toArray, List.map_cons, List.map_nil]); first | done | rfl | (simp only [List.length_drop, List.length_take]; rfl)) ?_; (with_reducible refine (match_wrong.calls _ _ y117 true _ ?side1 ?side2 A3.out).mono ?_); (case side1 => repeat (first | exact (Kd.N_reads' HO119.out).2.2 | (with_reducible refine Kd.C_alloc ?_ _) | (with_reducible refine Kd.C_drewN ?_ _) | (with_reducible refine Kd.C_drew ?_))); (case side2 => exact (Kd.N_reads' HO119.out).2.1); rintro e w13 ⟨rfl, hb⟩; refine ⟨_, rfl, ?_⟩; have n0_ := Aside0.mk (Kd.V_below (by (with_reducible repeat (first | apply Kd.V_alloc | apply Kd.V_drewN | apply Kd.V_drew)); exact HO0_1.out) hb); have n1_ := Aside0.mk (Kd.V_below (by (with_reducible repeat (first | apply Kd.V_alloc | apply Kd.V_drewN | apply Kd.V_drew)); exact HO1_1.out) hb); have n2_ := Aside0.mk (Kd.N_below (by (with_reducible repeat (first | apply Kd.N_alloc | apply Kd.N_drewN | apply Kd.N_drew)); exact HO119.out) hb); have n3_ := Aside0.mk (blk_below (g := gb115) (o := .cells #[.int .i64 a0_0, .slice A0_1 l0_1.length c0_1] 25 (0, 0)) (by (with_reducible repeat (first | refine blk_drewN ?_ _ | refine blk_drew ?_ | refine blk_alloc ?_ _)); exact BK115.out) hb); have n4_ := Aside0.mk (blk_below (g := gb116) (o := .cells #[.int .i64 a1_0, .slice A1_1 l1_1.length c1_1] 25 (0, 0)) (by (with_reducible repeat (first | refine blk_drewN ?_ _ | refine blk_drew ?_ | refine blk_alloc ?_ _)); exact BK116.out) hb); have n5_ := Aside0.mk (below_step (by repeat (first | (with_reducible first | exact HB.out | apply below_alloc | apply pw_below_drewN | apply below_drew1 | refine below_set ?_ GE115.out | refine below_set ?_ GE116.out) | exact HB.out)) hb); clear HO0_1; clear HO1_1; clear HO119; clear BK115; clear BK116; clear HB; have HO0_1 := n0_; have HO1_1 := n1_; have HO119 := n2_; have BK115 := n3_; have BK116 := n4_; have HB := n5_; clear n0_ n1_ n2_ n3_ n4_ n5_; (try clear hb); (try clear hb2); (try clear hk); (try clear hi)))
    go_ret2
    exact ⟨by first | rfl | (simp [errW_none, errW_some] <;> rfl) | (simp [*, errW_none, errW_some] <;> rfl), by repeat (first | (with_reducible first | exact HB.out | apply below_alloc | apply pw_below_drewN | apply below_drew1 | refine below_set ?_ GE115.out | refine below_set ?_ GE116.out) | exact HB.out)⟩
  · replace c4 := Bool.eq_false_iff.mpr c4
    subst c4
    have H1 : ((match_Norm.f (([(⟨a0_0, l0_1⟩ : S25)] : List (S25)))).bind fun bt124 => ((match_Norm.f (([(⟨a1_0, l1_1⟩ : S25)] : List (S25)))).bind fun bt131 => (if 0 < (bt124.1.length : Int) then (if 0 < (bt131.1.length : Int) then ((term_Same.f ((rd_T25 bt124.1 0).f0) ((rd_T25 bt124.1 0).f1) ((rd_T25 bt131.1 0).f0) ((rd_T25 bt131.1 0).f1)).bind fun t137 => (some (t137, 0))) else (none)) else (none)))) = some (r1, r2) := by rw [if_neg (show ¬ (false = true) by decide)] at H; exact H
    clear H
    have H := H1
    clear H1
    obtain ⟨y121, hy121⟩ : ∃ y_ : List (S25), y_ = (([(⟨a0_0, l0_1⟩ : S25)] : List (S25))) := ⟨_, rfl⟩
    replace H : ((match_Norm.f y121).bind fun bt124 => ((match_Norm.f (([(⟨a1_0, l1_1⟩ : S25)] : List (S25)))).bind fun bt131 => (if 0 < (bt124.1.length : Int) then (if 0 < (bt131.1.length : Int) then ((term_Same.f ((rd_T25 bt124.1 0).f0) ((rd_T25 bt124.1 0).f1) ((rd_T25 bt131.1 0).f0) ((rd_T25 bt131.1 0).f1)).bind fun t137 => (some (t137, 0))) else (none)) else (none)))) = some (r1, r2) := by first | (rw [hy121]; with_reducible exact H) | (have H2_ := (Option.bind_some _ _).symm.trans H; rw [hy121]; with_reducible exact H2_) | (have H2_ := (Option.bind_some _ _).symm.trans H; with_reducible exact H2_) | with_reducible exact H | (rw [hy121]; exact H) | exact H
    have Ny121 := Aside0.mk hy121
    clear hy121
    replace H := Option.bind_eq_some_iff.mp H
    obtain ⟨⟨t124, t127⟩, A140, H⟩ := H
    replace H : ((match_Norm.f (([(⟨a1_0, l1_1⟩ : S25)] : List (S25)))).bind fun bt131 => (if 0 < (t124.length : Int) then (if 0 < (bt131.1.length : Int) then ((term_Same.f ((rd_T25 t124 0).f0) ((rd_T25 t124 0).f1) ((rd_T25 bt131.1 0).f0) ((rd_T25 bt131.1 0).f1)).bind fun t137 => (some (t137, 0))) else (none)) else (none))) = some (r1, r2) := H
    have A14 := Aside0.mk A140
    clear A140
    obtain ⟨y128, hy128⟩ : ∃ y_ : List (S25), y_ = (([(⟨a1_0, l1_1⟩ : S25)] : List (S25))) := ⟨_, rfl⟩
    replace H : ((match_Norm.f y128).bind fun bt131 => (if 0 < (t124.length : Int) then (if 0 < (bt131.1.length : Int) then ((term_Same.f ((rd_T25 t124 0).f0) ((rd_T25 t124 0).f1) ((rd_T25 bt131.1 0).f0) ((rd_T25 bt131.1 0).f1)).bind fun t137 => (some (t137, 0))) else (none)) else (none))) = some (r1, r2) := by first | (rw [hy128]; with_reducible exact H) | (have H2_ := (Option.bind_some _ _).symm.trans H; rw [hy128]; with_reducible exact H2_) | (have H2_ := (Option.bind_some _ _).symm.trans H; with_reducible exact H2_) | with_reducible exact H | (rw [hy128]; exact H) | exact H
    have Ny128 := Aside0.mk hy128
    clear hy128
    replace H := Option.bind_eq_some_iff.mp H
    obtain ⟨⟨t131, t134⟩, A150, H⟩ := H
    replace H : (if 0 < (t124.length : Int) then (if 0 < (t131.length : Int) then ((term_Same.f ((rd_T25 t124 0).f0) ((rd_T25 t124 0).f1) ((rd_T25 t131 0).f0) ((rd_T25 t131 0).f1)).bind fun t137 => (some (t137, 0))) else (none)) else (none)) = some (r1, r2) := H
    have A15 := Aside0.mk A150
    clear A150
    by_cases c16 : 0 < (t124.length : Int)
    · rw [if_pos c16] at H
      have c16b0 : decide (0 < (t124.length : Int)) = true := decide_eq_true c16
      have c16b1 : decide (0 < t124.length) = true := decide_eq_true (by omega)
      clear c16
      by_cases c17 : 0 < (t131.length : Int)
      · rw [if_pos c17] at H
        have c17b0 : decide (0 < (t131.length : Int)) = true := decide_eq_true c17
        have c17b1 : decide (0 < t131.length) = true := decide_eq_true (by omega)
        clear c17
        replace H := Option.bind_eq_some_iff.mp H
        obtain ⟨t137, A180, H⟩ := H
        replace H : (some (t137, 0)) = some (r1, r2) := H
        have A18 := Aside0.mk A180
        clear A180
        simp only [Option.some.injEq, Prod.mk.injEq] at H
        obtain ⟨rfl, rfl⟩ := H
        go_enter Try.func49, Try.ntmps49
        try go_wp2_with (first | ((with_reducible refine gate_dst (N := 2) rfl ?_); refine box_event ?hg (N := 2) ?hd (cs := #[.int .i64 a0_0, .slice A0_1 l0_1.length c0_1]) (t := 25) ?hr ?_; (case hd => rfl); (case hg => rfl); (case hr => first | (go_simp; done) | (go_simp; rfl)); intro gb115 hg w19 hbox hb; have n0_ := Aside0.mk (Kd.V_below (Kd.V_elderB (by (with_reducible repeat (first | apply Kd.V_alloc | apply Kd.V_drewN | apply Kd.V_drew)); exact HO0_1.out) gb115 (Nat.le_of_eq hg.symm)) hb); have n1_ := Aside0.mk (Kd.V_below (Kd.V_elderB (by (with_reducible repeat (first | apply Kd.V_alloc | apply Kd.V_drewN | apply Kd.V_drew)); exact HO1_1.out) gb115 (Nat.le_of_eq hg.symm)) hb); have n2_ := Aside0.mk (below_step (by repeat (first | (with_reducible first | exact HB.out | apply below_alloc | apply pw_below_drewN | apply below_drew1) | exact HB.out)) hb); have n3_ := Aside0.mk (hbox); have n4_ := Aside0.mk ((by rw [hg]; exact (below_size (by repeat (first | (with_reducible first | exact HB.out | apply below_alloc | apply pw_below_drewN | apply below_drew1) | exact HB.out))) : w.heap.size ≤ gb115)); have n5_ := Aside0.mk ((by rw [hg]; exact (below_size (by repeat (first | (with_reducible first | exact HB.out | apply below_alloc | apply pw_below_drewN | apply below_drew1) | exact HB.out))) : w.heap.size ≤ gb115)); clear HO0_1; clear HO1_1; clear HB; have HO0_1 := n0_; have HO1_1 := n1_; have HB := n2_; have BK115 := n3_; have GW115 := n4_; have GE115 := n5_; clear n0_ n1_ n2_ n3_ n4_ n5_; clear hb hbox hg) | ((with_reducible refine gate_dst (N := 3) rfl ?_); refine box_event ?hg (N := 3) ?hd (cs := #[.int .i64 a1_0, .slice A1_1 l1_1.length c1_1]) (t := 25) ?hr ?_; (case hd => rfl); (case hg => rfl); (case hr => first | (go_simp; done) | (go_simp; rfl)); intro gb116 hg w20 hbox hb; have n0_ := Aside0.mk (Kd.V_below (Kd.V_elderB (by (with_reducible repeat (first | apply Kd.V_alloc | apply Kd.V_drewN | apply Kd.V_drew)); exact HO0_1.out) gb116 (Nat.le_of_eq hg.symm)) hb); have n1_ := Aside0.mk (Kd.V_below (Kd.V_elderB (by (with_reducible repeat (first | apply Kd.V_alloc | apply Kd.V_drewN | apply Kd.V_drew)); exact HO1_1.out) gb116 (Nat.le_of_eq hg.symm)) hb); have n2_ := Aside0.mk (blk_below (g := gb115) (o := .cells #[.int .i64 a0_0, .slice A0_1 l0_1.length c0_1] 25 (0, 0)) (by (with_reducible repeat (first | refine blk_drewN ?_ _ | refine blk_drew ?_ | refine blk_alloc ?_ _)); exact BK115.out) hb); have n3_ := Aside0.mk (below_step (by repeat (first | (with_reducible first | exact HB.out | apply below_alloc | apply pw_below_drewN | apply below_drew1 | refine below_set ?_ GE115.out) | exact HB.out)) hb); have n4_ := Aside0.mk (hbox); have n5_ := Aside0.mk ((by rw [hg]; exact (below_size (by repeat (first | (with_reducible first | exact HB.out | apply below_alloc | apply pw_below_drewN | apply below_drew1 | refine below_set ?_ GE115.out) | exact HB.out))) : w.heap.size ≤ gb116)); have n6_ := Aside0.mk ((by rw [hg]; exact (below_size (by repeat (first | (with_reducible first | exact HB.out | apply below_alloc | apply pw_below_drewN | apply below_drew1 | refine below_set ?_ GE115.out) | exact HB.out))) : w.heap.size ≤ gb116)); have n7_ := Aside0.mk ((by rw [hg]; exact Nat.ne_of_lt (blk_lt (g := gb115) (o := .cells #[.int .i64 a0_0, .slice A0_1 l0_1.length c0_1] 25 (0, 0)) (by (with_reducible repeat (first | refine blk_drewN ?_ _ | refine blk_drew ?_ | refine blk_alloc ?_ _)); exact BK115.out)) : gb115 ≠ gb116)); have n8_ := Aside0.mk ((by rw [hg]; exact Nat.ne_of_gt (blk_lt (g := gb115) (o := .cells #[.int .i64 a0_0, .slice A0_1 l0_1.length c0_1] 25 (0, 0)) (by (with_reducible repeat (first | refine blk_drewN ?_ _ | refine blk_drew ?_ | refine blk_alloc ?_ _)); exact BK115.out)) : gb116 ≠ gb115)); clear HO0_1; clear HO1_1; clear BK115; clear HB; have HO0_1 := n0_; have HO1_1 := n1_; have BK115 := n2_; have HB := n3_; have BK116 := n4_; have GW116 := n5_; have GE116 := n6_; have NB115_116 := n7_; have NB116_115 := n8_; clear n0_ n1_ n2_ n3_ n4_ n5_ n6_ n7_ n8_; clear hb hbox hg; have hnb21 := NB115_116.out; have hnc21 := NB116_115.out; have hcz22_0 : w20.cell? ⟨gb115, 0, none⟩ = some (.int .i64 a0_0) := (blk_cell BK115.out 0).trans rfl; have hcz22_1 : w20.cell? ⟨gb115, 1, none⟩ = some (.slice A0_1 l0_1.length c0_1) := (blk_cell BK115.out 1).trans rfl; have hfz22_0 := blk_frozen BK115.out 0; have hfz22_1 := blk_frozen BK115.out 1; have hcz23_0 : w20.cell? ⟨gb116, 0, none⟩ = some (.int .i64 a1_0) := (blk_cell BK116.out 0).trans rfl; have hcz23_1 : w20.cell? ⟨gb116, 1, none⟩ = some (.slice A1_1 l1_1.length c1_1) := (blk_cell BK116.out 1).trans rfl; have hfz23_0 := blk_frozen BK116.out 0; have hfz23_1 := blk_frozen BK116.out 1) | ((with_reducible refine gate_dst (N := 12) rfl ?_); refine Kd.N_lit k25 _ 25 ?hg (N' := 12) ?hd (xs := ([(⟨a0_0, l0_1⟩ : S25), (⟨a1_0, l1_1⟩ : S25)] : List (S25))) (inner := [.int .i64 a0_0, .slice A0_1 l0_1.length c0_1, .int .i64 a1_0, .slice A1_1 l1_1.length c1_1]) (ok := (fun k_ => ((P0_1_ k_ ∨ P1_1_ k_) ∨ w.heap.size ≤ k_) ∧ k_ ≠ gb115 ∧ k_ ≠ gb116)) (okp := (fun k_ => ((P0_1_ k_ ∨ P1_1_ k_) ∨ w.heap.size ≤ k_) ∧ k_ ≠ gb115 ∧ k_ ≠ gb116)) ?hr ?hp (fun _ hk => hk) ((show ∀ k_, w20.heap.size ≤ k_ → (fun k_ => ((P0_1_ k_ ∨ P1_1_ k_) ∨ w.heap.size ≤ k_) ∧ k_ ≠ gb115 ∧ k_ ≠ gb116) k_ from fun k_ hk => ⟨(.inr (Nat.le_trans (below_size (by repeat (first | (with_reducible first | exact HB.out | apply below_alloc | apply pw_below_drewN | apply below_drew1 | refine below_set ?_ GE115.out | refine below_set ?_ GE116.out) | exact HB.out))) hk)), Kd.freshB (g := gb115) (o := .cells #[.int .i64 a0_0, .slice A0_1 l0_1.length c0_1] 25 (0, 0)) (by (with_reducible repeat (first | refine blk_drewN ?_ _ | refine blk_drew ?_ | refine blk_alloc ?_ _)); exact BK115.out) k_ hk, Kd.freshB (g := gb116) (o := .cells #[.int .i64 a1_0, .slice A1_1 l1_1.length c1_1] 25 (0, 0)) (by (with_reducible repeat (first | refine blk_drewN ?_ _ | refine blk_drew ?_ | refine blk_alloc ?_ _)); exact BK116.out) k_ hk⟩) _ (Nat.le_refl _)) (Below.refl _ _) (Nat.le_refl _) (by simp) ?_; (case hd => rfl); (case hg => rfl); (case hr => first | (go_simp; done) | (go_simp; rfl)); (case hp => exact (Reps.c2 (show Kd.FK k25 _ _ (⟨a0_0, l0_1⟩ : S25) [.int .i64 a0_0, .slice A0_1 l0_1.length c0_1] from (k25_mkF _ _ (⟨a0_0, l0_1⟩ : S25) (Kd.V_reads' (Kd.V_mono (ok' := (fun k_ => ((P0_1_ k_ ∨ P1_1_ k_) ∨ w.heap.size ≤ k_) ∧ k_ ≠ gb115 ∧ k_ ≠ gb116)) (HO0_1.out) (fun k_ hk => ⟨hk.1.1, ⟨hk.1.2, hk.2⟩⟩))).2.1 (Kd.V_F (Kd.V_mono (ok' := (fun k_ => ((P0_1_ k_ ∨ P1_1_ k_) ∨ w.heap.size ≤ k_) ∧ k_ ≠ gb115 ∧ k_ ≠ gb116)) (HO0_1.out) (fun k_ hk => ⟨hk.1.1, ⟨hk.1.2, hk.2⟩⟩))))) (Reps.c2 (show Kd.FK k25 _ _ (⟨a1_0, l1_1⟩ : S25) [.int .i64 a1_0, .slice A1_1 l1_1.length c1_1] from (k25_mkF _ _ (⟨a1_0, l1_1⟩ : S25) (Kd.V_reads' (Kd.V_mono (ok' := (fun k_ => ((P0_1_ k_ ∨ P1_1_ k_) ∨ w.heap.size ≤ k_) ∧ k_ ≠ gb115 ∧ k_ ≠ gb116)) (HO1_1.out) (fun k_ hk => ⟨hk.1.1, ⟨hk.1.2, hk.2⟩⟩))).2.1 (Kd.V_F (Kd.V_mono (ok' := (fun k_ => ((P0_1_ k_ ∨ P1_1_ k_) ∨ w.heap.size ≤ k_) ∧ k_ ≠ gb115 ∧ k_ ≠ gb116)) (HO1_1.out) (fun k_ hk => ⟨hk.1.1, ⟨hk.1.2, hk.2⟩⟩))))) (Reps.none _ _)))); intro v118 w24 ho25 hb hg_ hnew_; clear hg_ hnew_; (first | rw [← Ny117.out] at ho25 | (simp only [Int.reduceToNat] at ho25; rw [← Ny117.out] at ho25)); have n0_ := Aside0.mk (Kd.V_elder' (by (with_reducible repeat (first | apply Kd.V_alloc | apply Kd.V_drewN | apply Kd.V_drew)); exact HO0_1.out) (by first | exact Kd.N_base ho25 | exact Kd.R_base ho25) hb); have n1_ := Aside0.mk (Kd.V_elder' (by (with_reducible repeat (first | apply Kd.V_alloc | apply Kd.V_drewN | apply Kd.V_drew)); exact HO1_1.out) (by first | exact Kd.N_base ho25 | exact Kd.R_base ho25) hb); have n2_ := Aside0.mk (Kd.N_lower ho25 (below_size (by repeat (first | (with_reducible first | exact HB.out | apply below_alloc | apply pw_below_drewN | apply below_drew1 | refine below_set ?_ GE115.out | refine below_set ?_ GE116.out) | exact HB.out)))); have n3_ := Aside0.mk (blk_below (g := gb115) (o := .cells #[.int .i64 a0_0, .slice A0_1 l0_1.length c0_1] 25 (0, 0)) (by (with_reducible repeat (first | refine blk_drewN ?_ _ | refine blk_drew ?_ | refine blk_alloc ?_ _)); exact BK115.out) hb); have n4_ := Aside0.mk (blk_below (g := gb116) (o := .cells #[.int .i64 a1_0, .slice A1_1 l1_1.length c1_1] 25 (0, 0)) (by (with_reducible repeat (first | refine blk_drewN ?_ _ | refine blk_drew ?_ | refine blk_alloc ?_ _)); exact BK116.out) hb); have n5_ := Aside0.mk (below_step (by repeat (first | (with_reducible first | exact HB.out | apply below_alloc | apply pw_below_drewN | apply below_drew1 | refine below_set ?_ GE115.out | refine below_set ?_ GE116.out) | exact HB.out)) hb); clear HO0_1; clear HO1_1; clear BK115; clear BK116; clear HB; have HO0_1 := n0_; have HO1_1 := n1_; have HO119 := n2_; have BK115 := n3_; have BK116 := n4_; have HB := n5_; clear n0_ n1_ n2_ n3_ n4_ n5_; clear hb ho25; obtain ⟨Ao26, co26, eo26⟩ := Kd.N_slice HO119.out; subst eo26) | ((with_reducible refine gate_callee (f := 96) rfl ?_); refine goesL_ (some 13) rfl rfl Try.func96 (by kernel_rfl) rfl #[.slice Ao26 y117.length co26] rfl (by (try simp only [List.map_toArray, List.map_cons, List.map_nil]); first | done | rfl | (simp only [List.length_drop, List.length_take]; rfl)) ?_; (with_reducible refine (match_wrong.calls _ _ y117 false _ ?side1 ?side2 A3.out).mono ?_); (case side1 => repeat (first | exact (Kd.N_reads' HO119.out).2.2 | (with_reducible refine Kd.C_alloc ?_ _) | (with_reducible refine Kd.C_drewN ?_ _) | (with_reducible refine Kd.C_drew ?_))); (case side2 => exact (Kd.N_reads' HO119.out).2.1); rintro e w27 ⟨rfl, hb⟩; refine ⟨_, rfl, ?_⟩; have n0_ := Aside0.mk (Kd.V_below (by (with_reducible repeat (first | apply Kd.V_alloc | apply Kd.V_drewN | apply Kd.V_drew)); exact HO0_1.out) hb); have n1_ := Aside0.mk (Kd.V_below (by (with_reducible repeat (first | apply Kd.V_alloc | apply Kd.V_drewN | apply Kd.V_drew)); exact HO1_1.out) hb); have n2_ := Aside0.mk (Kd.N_below (by (with_reducible repeat (first | apply Kd.N_alloc | apply Kd.N_drewN | apply Kd.N_drew)); exact HO119.out) hb); have n3_ := Aside0.mk (blk_below (g := gb115) (o := .cells #[.int .i64 a0_0, .slice A0_1 l0_1.length c0_1] 25 (0, 0)) (by (with_reducible repeat (first | refine blk_drewN ?_ _ | refine blk_drew ?_ | refine blk_alloc ?_ _)); exact BK115.out) hb); have n4_ := Aside0.mk (blk_below (g := gb116) (o := .cells #[.int .i64 a1_0, .slice A1_1 l1_1.length c1_1] 25 (0, 0)) (by (with_reducible repeat (first | refine blk_drewN ?_ _ | refine blk_drew ?_ | refine blk_alloc ?_ _)); exact BK116.out) hb); have n5_ := Aside0.mk (below_step (by repeat (first | (with_reducible first | exact HB.out | apply below_alloc | apply pw_below_drewN | apply below_drew1 | refine below_set ?_ GE115.out | refine below_set ?_ GE116.out) | exact HB.out)) hb); clear HO0_1; clear HO1_1; clear HO119; clear BK115; clear BK116; clear HB; have HO0_1 := n0_; have HO1_1 := n1_; have HO119 := n2_; have BK115 := n3_; have BK116 := n4_; have HB := n5_; clear n0_ n1_ n2_ n3_ n4_ n5_; (try clear hb); (try clear hb2); (try clear hk); (try clear hi); have hcz28_0 : w27.cell? ⟨gb115, 0, none⟩ = some (.int .i64 a0_0) := (blk_cell BK115.out 0).trans rfl; have hcz28_1 : w27.cell? ⟨gb115, 1, none⟩ = some (.slice A0_1 l0_1.length c0_1) := (blk_cell BK115.out 1).trans rfl; have hfz28_0 := blk_frozen BK115.out 0; have hfz28_1 := blk_frozen BK115.out 1) | ((with_reducible refine gate_dst (N := 16) rfl ?_); refine Kd.N_lit k25 _ 25 ?hg (N' := 16) ?hd (xs := ([(⟨a0_0, l0_1⟩ : S25)] : List (S25))) (inner := [.int .i64 a0_0, .slice A0_1 l0_1.length c0_1]) (ok := (fun k_ => ((P0_1_ k_ ∨ P1_1_ k_) ∨ w.heap.size ≤ k_) ∧ some k_ ≠ (.slice Ao26 y117.length co26 : Value).ownBlock ∧ k_ ≠ gb115 ∧ k_ ≠ gb116)) (okp := (fun k_ => ((P0_1_ k_ ∨ P1_1_ k_) ∨ w.heap.size ≤ k_) ∧ some k_ ≠ (.slice Ao26 y117.length co26 : Value).ownBlock ∧ k_ ≠ gb115 ∧ k_ ≠ gb116)) ?hr ?hp (fun _ hk => hk) ((show ∀ k_, w27.heap.size ≤ k_ → (fun k_ => ((P0_1_ k_ ∨ P1_1_ k_) ∨ w.heap.size ≤ k_) ∧ some k_ ≠ (.slice Ao26 y117.length co26 : Value).ownBlock ∧ k_ ≠ gb115 ∧ k_ ≠ gb116) k_ from fun k_ hk => ⟨(.inr (Nat.le_trans (below_size (by repeat (first | (with_reducible first | exact HB.out | apply below_alloc | apply pw_below_drewN | apply below_drew1 | refine below_set ?_ GE115.out | refine below_set ?_ GE116.out) | exact HB.out))) hk)), Kd.fresh' (Kd.N_lt (by (with_reducible repeat (first | apply Kd.N_alloc | apply Kd.N_drewN | apply Kd.N_drew)); exact HO119.out)) k_ hk, Kd.freshB (g := gb115) (o := .cells #[.int .i64 a0_0, .slice A0_1 l0_1.length c0_1] 25 (0, 0)) (by (with_reducible repeat (first | refine blk_drewN ?_ _ | refine blk_drew ?_ | refine blk_alloc ?_ _)); exact BK115.out) k_ hk, Kd.freshB (g := gb116) (o := .cells #[.int .i64 a1_0, .slice A1_1 l1_1.length c1_1] 25 (0, 0)) (by (with_reducible repeat (first | refine blk_drewN ?_ _ | refine blk_drew ?_ | refine blk_alloc ?_ _)); exact BK116.out) k_ hk⟩) _ (Nat.le_refl _)) (Below.refl _ _) (Nat.le_refl _) (by simp) ?_; (case hd => rfl); (case hg => rfl); (case hr => first | (go_simp; done) | (go_simp; rfl)); (case hp => exact (Reps.c2 (show Kd.FK k25 _ _ (⟨a0_0, l0_1⟩ : S25) [.int .i64 a0_0, .slice A0_1 l0_1.length c0_1] from (k25_mkF _ _ (⟨a0_0, l0_1⟩ : S25) (Kd.V_reads' (Kd.V_mono (ok' := (fun k_ => ((P0_1_ k_ ∨ P1_1_ k_) ∨ w.heap.size ≤ k_) ∧ some k_ ≠ (.slice Ao26 y117.length co26 : Value).ownBlock ∧ k_ ≠ gb115 ∧ k_ ≠ gb116)) (HO0_1.out) (fun k_ hk => ⟨hk.1.1.1, ⟨hk.2, ⟨hk.1.1.2, hk.1.2⟩⟩⟩))).2.1 (Kd.V_F (Kd.V_mono (ok' := (fun k_ => ((P0_1_ k_ ∨ P1_1_ k_) ∨ w.heap.size ≤ k_) ∧ some k_ ≠ (.slice Ao26 y117.length co26 : Value).ownBlock ∧ k_ ≠ gb115 ∧ k_ ≠ gb116)) (HO0_1.out) (fun k_ hk => ⟨hk.1.1.1, ⟨hk.2, ⟨hk.1.1.2, hk.1.2⟩⟩⟩))))) (Reps.none _ _))); intro v122 w29 ho30 hb hg_ hnew_; clear hg_ hnew_; (first | rw [← Ny121.out] at ho30 | (simp only [Int.reduceToNat] at ho30; rw [← Ny121.out] at ho30)); have n0_ := Aside0.mk (Kd.V_elder' (by (with_reducible repeat (first | apply Kd.V_alloc | apply Kd.V_drewN | apply Kd.V_drew)); exact HO0_1.out) (by first | exact Kd.N_base ho30 | exact Kd.R_base ho30) hb); have n1_ := Aside0.mk (Kd.V_elder' (by (with_reducible repeat (first | apply Kd.V_alloc | apply Kd.V_drewN | apply Kd.V_drew)); exact HO1_1.out) (by first | exact Kd.N_base ho30 | exact Kd.R_base ho30) hb); have n2_ := Aside0.mk (Kd.N_elder' (by (with_reducible repeat (first | apply Kd.N_alloc | apply Kd.N_drewN | apply Kd.N_drew)); exact HO119.out) (by first | exact Kd.N_base ho30 | exact Kd.R_base ho30) hb); have n3_ := Aside0.mk (Kd.N_lower ho30 (below_size (by repeat (first | (with_reducible first | exact HB.out | apply below_alloc | apply pw_below_drewN | apply below_drew1 | refine below_set ?_ GE115.out | refine below_set ?_ GE116.out) | exact HB.out)))); have n4_ := Aside0.mk (blk_below (g := gb115) (o := .cells #[.int .i64 a0_0, .slice A0_1 l0_1.length c0_1] 25 (0, 0)) (by (with_reducible repeat (first | refine blk_drewN ?_ _ | refine blk_drew ?_ | refine blk_alloc ?_ _)); exact BK115.out) hb); have n5_ := Aside0.mk (blk_below (g := gb116) (o := .cells #[.int .i64 a1_0, .slice A1_1 l1_1.length c1_1] 25 (0, 0)) (by (with_reducible repeat (first | refine blk_drewN ?_ _ | refine blk_drew ?_ | refine blk_alloc ?_ _)); exact BK116.out) hb); have n6_ := Aside0.mk (below_step (by repeat (first | (with_reducible first | exact HB.out | apply below_alloc | apply pw_below_drewN | apply below_drew1 | refine below_set ?_ GE115.out | refine below_set ?_ GE116.out) | exact HB.out)) hb); clear HO0_1; clear HO1_1; clear HO119; clear BK115; clear BK116; clear HB; have HO0_1 := n0_; have HO1_1 := n1_; have HO119 := n2_; have HO123 := n3_; have BK115 := n4_; have BK116 := n5_; have HB := n6_; clear n0_ n1_ n2_ n3_ n4_ n5_ n6_; clear hb ho30; obtain ⟨Ao31, co31, eo31⟩ := Kd.N_slice HO123.out; subst eo31) | ((with_reducible refine gate_callee (f := 51) rfl ?_); refine goesL_ (some 17) rfl rfl Try.func51 (by kernel_rfl) rfl #[.slice Ao31 y121.length co31] rfl (by (try simp only [List.map_toArray, List.map_cons, List.map_nil]); first | done | rfl | (simp only [List.length_drop, List.length_take]; rfl)) ?_; (with_reducible refine (match_Norm.calls _ _ y121 t124 t127 _ ?side1 ?side2 A14.out).mono ?_); (case side1 => repeat (first | exact (Kd.N_reads' HO123.out).2.2 | (with_reducible refine Kd.C_alloc ?_ _) | (with_reducible refine Kd.C_drewN ?_ _) | (with_reducible refine Kd.C_drew ?_))); (case side2 => exact (Kd.N_reads' HO123.out).2.1); rintro e w32 ⟨v125, rfl, ho0, hb⟩; refine ⟨_, rfl, ?_⟩; have n0_ := Aside0.mk (Kd.V_below (by (with_reducible repeat (first | apply Kd.V_alloc | apply Kd.V_drewN | apply Kd.V_drew)); exact HO0_1.out) hb); have n1_ := Aside0.mk (Kd.V_below (by (with_reducible repeat (first | apply Kd.V_alloc | apply Kd.V_drewN | apply Kd.V_drew)); exact HO1_1.out) hb); have n2_ := Aside0.mk (Kd.N_below (by (with_reducible repeat (first | apply Kd.N_alloc | apply Kd.N_drewN | apply Kd.N_drew)); exact HO119.out) hb); have n3_ := Aside0.mk (Kd.N_below (by (with_reducible repeat (first | apply Kd.N_alloc | apply Kd.N_drewN | apply Kd.N_drew)); exact HO123.out) hb); have n4_ := Aside0.mk (Kd.V_lower (Kd.V_mono (ok' := fun k_ => ((P0_1_ k_ ∨ P1_1_ k_) ∨ w.heap.size ≤ k_) ∧ some k_ ≠ (.slice Ao26 y117.length co26 : Value).ownBlock ∧ some k_ ≠ (.slice Ao31 y121.length co31 : Value).ownBlock ∧ k_ ≠ gb115 ∧ k_ ≠ gb116) ho0 (fun k_ hk_ => ⟨(.inr (Nat.le_trans (below_size (by repeat (first | (with_reducible first | exact HB.out | apply below_alloc | apply pw_below_drewN | apply below_drew1 | refine below_set ?_ GE115.out | refine below_set ?_ GE116.out) | exact HB.out))) hk_)), (Kd.fresh' (Kd.N_lt (by (with_reducible repeat (first | apply Kd.N_alloc | apply Kd.N_drewN | apply Kd.N_drew)); exact HO119.out)) k_ hk_), (Kd.fresh' (Kd.N_lt (by (with_reducible repeat (first | apply Kd.N_alloc | apply Kd.N_drewN | apply Kd.N_drew)); exact HO123.out)) k_ hk_), (Kd.freshB (g := gb115) (o := .cells #[.int .i64 a0_0, .slice A0_1 l0_1.length c0_1] 25 (0, 0)) (by (with_reducible repeat (first | refine blk_drewN ?_ _ | refine blk_drew ?_ | refine blk_alloc ?_ _)); exact BK115.out) k_ hk_), (Kd.freshB (g := gb116) (o := .cells #[.int .i64 a1_0, .slice A1_1 l1_1.length c1_1] 25 (0, 0)) (by (with_reducible repeat (first | refine blk_drewN ?_ _ | refine blk_drew ?_ | refine blk_alloc ?_ _)); exact BK116.out) k_ hk_)⟩)) (below_size (by repeat (first | (with_reducible first | exact HB.out | apply below_alloc | apply pw_below_drewN | apply below_drew1 | refine below_set ?_ GE115.out | refine below_set ?_ GE116.out) | exact HB.out)))); have n5_ := Aside0.mk (blk_below (g := gb115) (o := .cells #[.int .i64 a0_0, .slice A0_1 l0_1.length c0_1] 25 (0, 0)) (by (with_reducible repeat (first | refine blk_drewN ?_ _ | refine blk_drew ?_ | refine blk_alloc ?_ _)); exact BK115.out) hb); have n6_ := Aside0.mk (blk_below (g := gb116) (o := .cells #[.int .i64 a1_0, .slice A1_1 l1_1.length c1_1] 25 (0, 0)) (by (with_reducible repeat (first | refine blk_drewN ?_ _ | refine blk_drew ?_ | refine blk_alloc ?_ _)); exact BK116.out) hb); have n7_ := Aside0.mk (below_step (by repeat (first | (with_reducible first | exact HB.out | apply below_alloc | apply pw_below_drewN | apply below_drew1 | refine below_set ?_ GE115.out | refine below_set ?_ GE116.out) | exact HB.out)) hb); clear HO0_1; clear HO1_1; clear HO119; clear HO123; clear BK115; clear BK116; clear HB; have HO0_1 := n0_; have HO1_1 := n1_; have HO119 := n2_; have HO123 := n3_; have HO126 := n4_; have BK115 := n5_; have BK116 := n6_; have HB := n7_; clear n0_ n1_ n2_ n3_ n4_ n5_ n6_ n7_; (try clear hb); (try clear hb2); (try clear hk); (try clear hi); (try clear ho0); have hcz33_0 : w32.cell? ⟨gb116, 0, none⟩ = some (.int .i64 a1_0) := (blk_cell BK116.out 0).trans rfl; have hcz33_1 : w32.cell? ⟨gb116, 1, none⟩ = some (.slice A1_1 l1_1.length c1_1) := (blk_cell BK116.out 1).trans rfl; have hfz33_0 := blk_frozen BK116.out 0; have hfz33_1 := blk_frozen BK116.out 1) | ((with_reducible refine gate_dst (N := 22) rfl ?_); refine Kd.N_lit k25 _ 25 ?hg (N' := 22) ?hd (xs := ([(⟨a1_0, l1_1⟩ : S25)] : List (S25))) (inner := [.int .i64 a1_0, .slice A1_1 l1_1.length c1_1]) (ok := (fun k_ => ((P0_1_ k_ ∨ P1_1_ k_) ∨ w.heap.size ≤ k_) ∧ some k_ ≠ (.slice Ao26 y117.length co26 : Value).ownBlock ∧ some k_ ≠ (.slice Ao31 y121.length co31 : Value).ownBlock ∧ k_ ≠ gb115 ∧ k_ ≠ gb116)) (okp := (fun k_ => ((P0_1_ k_ ∨ P1_1_ k_) ∨ w.heap.size ≤ k_) ∧ some k_ ≠ (.slice Ao26 y117.length co26 : Value).ownBlock ∧ some k_ ≠ (.slice Ao31 y121.length co31 : Value).ownBlock ∧ k_ ≠ gb115 ∧ k_ ≠ gb116)) ?hr ?hp (fun _ hk => hk) ((show ∀ k_, w32.heap.size ≤ k_ → (fun k_ => ((P0_1_ k_ ∨ P1_1_ k_) ∨ w.heap.size ≤ k_) ∧ some k_ ≠ (.slice Ao26 y117.length co26 : Value).ownBlock ∧ some k_ ≠ (.slice Ao31 y121.length co31 : Value).ownBlock ∧ k_ ≠ gb115 ∧ k_ ≠ gb116) k_ from fun k_ hk => ⟨(.inr (Nat.le_trans (below_size (by repeat (first | (with_reducible first | exact HB.out | apply below_alloc | apply pw_below_drewN | apply below_drew1 | refine below_set ?_ GE115.out | refine below_set ?_ GE116.out) | exact HB.out))) hk)), Kd.fresh' (Kd.N_lt (by (with_reducible repeat (first | apply Kd.N_alloc | apply Kd.N_drewN | apply Kd.N_drew)); exact HO119.out)) k_ hk, Kd.fresh' (Kd.N_lt (by (with_reducible repeat (first | apply Kd.N_alloc | apply Kd.N_drewN | apply Kd.N_drew)); exact HO123.out)) k_ hk, Kd.freshB (g := gb115) (o := .cells #[.int .i64 a0_0, .slice A0_1 l0_1.length c0_1] 25 (0, 0)) (by (with_reducible repeat (first | refine blk_drewN ?_ _ | refine blk_drew ?_ | refine blk_alloc ?_ _)); exact BK115.out) k_ hk, Kd.freshB (g := gb116) (o := .cells #[.int .i64 a1_0, .slice A1_1 l1_1.length c1_1] 25 (0, 0)) (by (with_reducible repeat (first | refine blk_drewN ?_ _ | refine blk_drew ?_ | refine blk_alloc ?_ _)); exact BK116.out) k_ hk⟩) _ (Nat.le_refl _)) (Below.refl _ _) (Nat.le_refl _) (by simp) ?_; (case hd => rfl); (case hg => rfl); (case hr => first | (go_simp; done) | (go_simp; rfl)); (case hp => exact (Reps.c2 (show Kd.FK k25 _ _ (⟨a1_0, l1_1⟩ : S25) [.int .i64 a1_0, .slice A1_1 l1_1.length c1_1] from (k25_mkF _ _ (⟨a1_0, l1_1⟩ : S25) (Kd.V_reads' (Kd.V_mono (ok' := (fun k_ => ((P0_1_ k_ ∨ P1_1_ k_) ∨ w.heap.size ≤ k_) ∧ some k_ ≠ (.slice Ao26 y117.length co26 : Value).ownBlock ∧ some k_ ≠ (.slice Ao31 y121.length co31 : Value).ownBlock ∧ k_ ≠ gb115 ∧ k_ ≠ gb116)) (HO1_1.out) (fun k_ hk => ⟨hk.1.1.1.1, ⟨hk.1.2, ⟨hk.2, ⟨hk.1.1.1.2, hk.1.1.2⟩⟩⟩⟩))).2.1 (Kd.V_F (Kd.V_mono (ok' := (fun k_ => ((P0_1_ k_ ∨ P1_1_ k_) ∨ w.heap.size ≤ k_) ∧ some k_ ≠ (.slice Ao26 y117.length co26 : Value).ownBlock ∧ some k_ ≠ (.slice Ao31 y121.length co31 : Value).ownBlock ∧ k_ ≠ gb115 ∧ k_ ≠ gb116)) (HO1_1.out) (fun k_ hk => ⟨hk.1.1.1.1, ⟨hk.1.2, ⟨hk.2, ⟨hk.1.1.1.2, hk.1.1.2⟩⟩⟩⟩))))) (Reps.none _ _))); intro v129 w34 ho35 hb hg_ hnew_; clear hg_ hnew_; (first | rw [← Ny128.out] at ho35 | (simp only [Int.reduceToNat] at ho35; rw [← Ny128.out] at ho35)); have n0_ := Aside0.mk (Kd.V_elder' (by (with_reducible repeat (first | apply Kd.V_alloc | apply Kd.V_drewN | apply Kd.V_drew)); exact HO0_1.out) (by first | exact Kd.N_base ho35 | exact Kd.R_base ho35) hb); have n1_ := Aside0.mk (Kd.V_elder' (by (with_reducible repeat (first | apply Kd.V_alloc | apply Kd.V_drewN | apply Kd.V_drew)); exact HO1_1.out) (by first | exact Kd.N_base ho35 | exact Kd.R_base ho35) hb); have n2_ := Aside0.mk (Kd.N_elder' (by (with_reducible repeat (first | apply Kd.N_alloc | apply Kd.N_drewN | apply Kd.N_drew)); exact HO119.out) (by first | exact Kd.N_base ho35 | exact Kd.R_base ho35) hb); have n3_ := Aside0.mk (Kd.N_elder' (by (with_reducible repeat (first | apply Kd.N_alloc | apply Kd.N_drewN | apply Kd.N_drew)); exact HO123.out) (by first | exact Kd.N_base ho35 | exact Kd.R_base ho35) hb); have n4_ := Aside0.mk (Kd.V_elder' (by (with_reducible repeat (first | apply Kd.V_alloc | apply Kd.V_drewN | apply Kd.V_drew)); exact HO126.out) (by first | exact Kd.N_base ho35 | exact Kd.R_base ho35) hb); have n5_ := Aside0.mk (Kd.N_lower ho35 (below_size (by repeat (first | (with_reducible first | exact HB.out | apply below_alloc | apply pw_below_drewN | apply below_drew1 | refine below_set ?_ GE115.out | refine below_set ?_ GE116.out) | exact HB.out)))); have n6_ := Aside0.mk (blk_below (g := gb115) (o := .cells #[.int .i64 a0_0, .slice A0_1 l0_1.length c0_1] 25 (0, 0)) (by (with_reducible repeat (first | refine blk_drewN ?_ _ | refine blk_drew ?_ | refine blk_alloc ?_ _)); exact BK115.out) hb); have n7_ := Aside0.mk (blk_below (g := gb116) (o := .cells #[.int .i64 a1_0, .slice A1_1 l1_1.length c1_1] 25 (0, 0)) (by (with_reducible repeat (first | refine blk_drewN ?_ _ | refine blk_drew ?_ | refine blk_alloc ?_ _)); exact BK116.out) hb); have n8_ := Aside0.mk (below_step (by repeat (first | (with_reducible first | exact HB.out | apply below_alloc | apply pw_below_drewN | apply below_drew1 | refine below_set ?_ GE115.out | refine below_set ?_ GE116.out) | exact HB.out)) hb); clear HO0_1; clear HO1_1; clear HO119; clear HO123; clear HO126; clear BK115; clear BK116; clear HB; have HO0_1 := n0_; have HO1_1 := n1_; have HO119 := n2_; have HO123 := n3_; have HO126 := n4_; have HO130 := n5_; have BK115 := n6_; have BK116 := n7_; have HB := n8_; clear n0_ n1_ n2_ n3_ n4_ n5_ n6_ n7_ n8_; clear hb ho35; obtain ⟨Ao36, co36, eo36⟩ := Kd.N_slice HO130.out; subst eo36) | ((with_reducible refine gate_callee (f := 51) rfl ?_); refine goesL_ (some 23) rfl rfl Try.func51 (by kernel_rfl) rfl #[.slice Ao36 y128.length co36] rfl (by (try simp only [List.map_toArray, List.map_cons, List.map_nil]); first | done | rfl | (simp only [List.length_drop, List.length_take]; rfl)) ?_; (with_reducible refine (match_Norm.calls _ _ y128 t131 t134 _ ?side1 ?side2 A15.out).mono ?_); (case side1 => repeat (first | exact (Kd.N_reads' HO130.out).2.2 | (with_reducible refine Kd.C_alloc ?_ _) | (with_reducible refine Kd.C_drewN ?_ _) | (with_reducible refine Kd.C_drew ?_))); (case side2 => exact (Kd.N_reads' HO130.out).2.1); rintro e w37 ⟨v132, rfl, ho0, hb⟩; refine ⟨_, rfl, ?_⟩; have n0_ := Aside0.mk (Kd.V_below (by (with_reducible repeat (first | apply Kd.V_alloc | apply Kd.V_drewN | apply Kd.V_drew)); exact HO0_1.out) hb); have n1_ := Aside0.mk (Kd.V_below (by (with_reducible repeat (first | apply Kd.V_alloc | apply Kd.V_drewN | apply Kd.V_drew)); exact HO1_1.out) hb); have n2_ := Aside0.mk (Kd.N_below (by (with_reducible repeat (first | apply Kd.N_alloc | apply Kd.N_drewN | apply Kd.N_drew)); exact HO119.out) hb); have n3_ := Aside0.mk (Kd.N_below (by (with_reducible repeat (first | apply Kd.N_alloc | apply Kd.N_drewN | apply Kd.N_drew)); exact HO123.out) hb); have n4_ := Aside0.mk (Kd.V_below (by (with_reducible repeat (first | apply Kd.V_alloc | apply Kd.V_drewN | apply Kd.V_drew)); exact HO126.out) hb); have n5_ := Aside0.mk (Kd.N_below (by (with_reducible repeat (first | apply Kd.N_alloc | apply Kd.N_drewN | apply Kd.N_drew)); exact HO130.out) hb); have n6_ := Aside0.mk (Kd.V_lower (Kd.V_mono (ok' := fun k_ => ((P0_1_ k_ ∨ P1_1_ k_) ∨ w.heap.size ≤ k_) ∧ some k_ ≠ (.slice Ao26 y117.length co26 : Value).ownBlock ∧ some k_ ≠ (.slice Ao31 y121.length co31 : Value).ownBlock ∧ some k_ ≠ (.slice Ao36 y128.length co36 : Value).ownBlock ∧ k_ ≠ gb115 ∧ k_ ≠ gb116) ho0 (fun k_ hk_ => ⟨(.inr (Nat.le_trans (below_size (by repeat (first | (with_reducible first | exact HB.out | apply below_alloc | apply pw_below_drewN | apply below_drew1 | refine below_set ?_ GE115.out | refine below_set ?_ GE116.out) | exact HB.out))) hk_)), (Kd.fresh' (Kd.N_lt (by (with_reducible repeat (first | apply Kd.N_alloc | apply Kd.N_drewN | apply Kd.N_drew)); exact HO119.out)) k_ hk_), (Kd.fresh' (Kd.N_lt (by (with_reducible repeat (first | apply Kd.N_alloc | apply Kd.N_drewN | apply Kd.N_drew)); exact HO123.out)) k_ hk_), (Kd.fresh' (Kd.N_lt (by (with_reducible repeat (first | apply Kd.N_alloc | apply Kd.N_drewN | apply Kd.N_drew)); exact HO130.out)) k_ hk_), (Kd.freshB (g := gb115) (o := .cells #[.int .i64 a0_0, .slice A0_1 l0_1.length c0_1] 25 (0, 0)) (by (with_reducible repeat (first | refine blk_drewN ?_ _ | refine blk_drew ?_ | refine blk_alloc ?_ _)); exact BK115.out) k_ hk_), (Kd.freshB (g := gb116) (o := .cells #[.int .i64 a1_0, .slice A1_1 l1_1.length c1_1] 25 (0, 0)) (by (with_reducible repeat (first | refine blk_drewN ?_ _ | refine blk_drew ?_ | refine blk_alloc ?_ _)); exact BK116.out) k_ hk_)⟩)) (below_size (by repeat (first | (with_reducible first | exact HB.out | apply below_alloc | apply pw_below_drewN | apply below_drew1 | refine below_set ?_ GE115.out | refine below_set ?_ GE116.out) | exact HB.out)))); have n7_ := Aside0.mk (blk_below (g := gb115) (o := .cells #[.int .i64 a0_0, .slice A0_1 l0_1.length c0_1] 25 (0, 0)) (by (with_reducible repeat (first | refine blk_drewN ?_ _ | refine blk_drew ?_ | refine blk_alloc ?_ _)); exact BK115.out) hb); have n8_ := Aside0.mk (blk_below (g := gb116) (o := .cells #[.int .i64 a1_0, .slice A1_1 l1_1.length c1_1] 25 (0, 0)) (by (with_reducible repeat (first | refine blk_drewN ?_ _ | refine blk_drew ?_ | refine blk_alloc ?_ _)); exact BK116.out) hb); have n9_ := Aside0.mk (below_step (by repeat (first | (with_reducible first | exact HB.out | apply below_alloc | apply pw_below_drewN | apply below_drew1 | refine below_set ?_ GE115.out | refine below_set ?_ GE116.out) | exact HB.out)) hb); clear HO0_1; clear HO1_1; clear HO119; clear HO123; clear HO126; clear HO130; clear BK115; clear BK116; clear HB; have HO0_1 := n0_; have HO1_1 := n1_; have HO119 := n2_; have HO123 := n3_; have HO126 := n4_; have HO130 := n5_; have HO133 := n6_; have BK115 := n7_; have BK116 := n8_; have HB := n9_; clear n0_ n1_ n2_ n3_ n4_ n5_ n6_ n7_ n8_ n9_; (try clear hb); (try clear hb2); (try clear hk); (try clear hi); (try clear ho0)))
        have n0_ := Aside0.mk (Kd.V_drew HO0_1.out)
        have n1_ := Aside0.mk (Kd.V_drew HO1_1.out)
        have n2_ := Aside0.mk (Kd.N_drew HO119.out)
        have n3_ := Aside0.mk (Kd.N_drew HO123.out)
        have n4_ := Aside0.mk (Kd.V_drew HO126.out)
        have n5_ := Aside0.mk (Kd.N_drew HO130.out)
        have n6_ := Aside0.mk (Kd.V_drew HO133.out)
        have n7_ := Aside0.mk (blk_drew BK115.out)
        have n8_ := Aside0.mk (blk_drew BK116.out)
        have n9_ := Aside0.mk (below_drew1 HB.out)
        clear HO0_1
        clear HO1_1
        clear HO119
        clear HO123
        clear HO126
        clear HO130
        clear HO133
        clear BK115
        clear BK116
        clear HB
        have HO0_1 := n0_
        have HO1_1 := n1_
        have HO119 := n2_
        have HO123 := n3_
        have HO126 := n4_
        have HO130 := n5_
        have HO133 := n6_
        have BK115 := n7_
        have BK116 := n8_
        have HB := n9_
        clear n0_ n1_ n2_ n3_ n4_ n5_ n6_ n7_ n8_ n9_
        obtain ⟨Ao39, co39, eo39⟩ := Kd.V_slice HO126.out
        (first | subst eo39 | (injection eo39 with f1_ f2_ f3_; have f4_ := f1_.symm; have f5_ := f3_.symm; clear f1_ f2_ f3_; subst f4_; subst f5_))
        have p135 : 0 ≤ (0 : Int) := (by omega)
        have q135 : 0 < (t124.length : Int) := of_decide_eq_true (by first | (with_reducible assumption) | assumption)
        obtain ⟨ad135, A135_1, c135_1, e135, hx135_0, hx135_1, hl135_1, hi135_1⟩ := at_T25 (Kd.V_reads' HO126.out).2.2 0 p135 q135
        cases e135
        obtain ⟨ce135, hce135, hMe135, hcc135⟩ := Kd.V_get HO126.out z25 0 p135 (by first | exact q135 | exact of_decide_eq_true (by first | (with_reducible assumption) | assumption) | (have e_ := (Kd.V_reads' HO126.out).1; omega))
        obtain ⟨ua135_1, uc135_1, rfl, ul135_1, ge135_1⟩ := k25_openF hMe135
        have hv135_1 := hcc135 1 _ rfl
        rw [add_field _ _ 1 (by omega)] at hv135_1
        replace hv135_1 := Option.some.inj (hv135_1.symm.trans hx135_1)
        injection hv135_1 with hva_ hvn_ hvc_
        rw [hva_] at ge135_1
        rw [hvc_] at ul135_1
        have HL135_1 := Aside0.mk (show Kd.V k25 25 _ w.heap.size _ _ ((rd_T25 t124 0).f1) from Kd.V_mk ul135_1 ge135_1)
        clear hva_ hvn_ hvc_ ge135_1 ul135_1
        clear hcc135 hce135
        have qi135 : (0 < t124.length) = True := eq_true (by omega)
        (try rw [show ((0 : Int)).toNat = 0 from rfl] at hx135_0)
        (try rw [show 0 * 2 = 0 from rfl] at hx135_0)
        (try rw [Addr.add_zero'] at hx135_0)
        (try rw [show ((0 : Int)).toNat = 0 from rfl] at hx135_1)
        (try rw [show 0 * 2 = 0 from rfl] at hx135_1)
        (try rw [Addr.add_zero'] at hx135_1)
        have HR135_1 := Aside0.mk hi135_1
        have HC135_1 := Aside0.mk hl135_1
        clear hi135_1 hl135_1
        replace p135 := eq_true p135
        replace q135 := eq_true q135
        obtain ⟨Ao40, co40, eo40⟩ := Kd.V_slice HO133.out
        (first | subst eo40 | (injection eo40 with f1_ f2_ f3_; have f4_ := f1_.symm; have f5_ := f3_.symm; clear f1_ f2_ f3_; subst f4_; subst f5_))
        have p136 : 0 ≤ (0 : Int) := (by omega)
        have q136 : 0 < (t131.length : Int) := of_decide_eq_true (by first | (with_reducible assumption) | assumption)
        obtain ⟨ad136, A136_1, c136_1, e136, hx136_0, hx136_1, hl136_1, hi136_1⟩ := at_T25 (Kd.V_reads' HO133.out).2.2 0 p136 q136
        cases e136
        obtain ⟨ce136, hce136, hMe136, hcc136⟩ := Kd.V_get HO133.out z25 0 p136 (by first | exact q136 | exact of_decide_eq_true (by first | (with_reducible assumption) | assumption) | (have e_ := (Kd.V_reads' HO133.out).1; omega))
        obtain ⟨ua136_1, uc136_1, rfl, ul136_1, ge136_1⟩ := k25_openF hMe136
        have hv136_1 := hcc136 1 _ rfl
        rw [add_field _ _ 1 (by omega)] at hv136_1
        replace hv136_1 := Option.some.inj (hv136_1.symm.trans hx136_1)
        injection hv136_1 with hva_ hvn_ hvc_
        rw [hva_] at ge136_1
        rw [hvc_] at ul136_1
        have HL136_1 := Aside0.mk (show Kd.V k25 25 _ w.heap.size _ _ ((rd_T25 t131 0).f1) from Kd.V_mk ul136_1 ge136_1)
        clear hva_ hvn_ hvc_ ge136_1 ul136_1
        clear hcc136 hce136
        have qi136 : (0 < t131.length) = True := eq_true (by omega)
        (try rw [show ((0 : Int)).toNat = 0 from rfl] at hx136_0)
        (try rw [show 0 * 2 = 0 from rfl] at hx136_0)
        (try rw [Addr.add_zero'] at hx136_0)
        (try rw [show ((0 : Int)).toNat = 0 from rfl] at hx136_1)
        (try rw [show 0 * 2 = 0 from rfl] at hx136_1)
        (try rw [Addr.add_zero'] at hx136_1)
        have HR136_1 := Aside0.mk hi136_1
        have HC136_1 := Aside0.mk hl136_1
        clear hi136_1 hl136_1
        replace p136 := eq_true p136
        replace q136 := eq_true q136
        refine start_ (n := 9) (S := fun w' => w'.cell? ad135 = some (.int .i64 ((rd_T25 t124 0).f0)) ∧ w'.cell? ⟨ad135.block, ad135.off + 1, none⟩ = some (.slice A135_1 ((rd_T25 t124 0).f1).length c135_1) ∧ w'.cell? ad136 = some (.int .i64 ((rd_T25 t131 0).f0)) ∧ w'.cell? ⟨ad136.block, ad136.off + 1, none⟩ = some (.slice A136_1 ((rd_T25 t131 0).f1).length c136_1)) (ds := []) #[false, false, false, false, false, false, false, false, false] (by kernel_rfl) rfl rfl ⟨hx135_0, hx135_1, hx136_0, hx136_1⟩ (fun hHeld => ?_); refine with_tabW match_Variant.tab5 match_Variant.bits5 (fun HT_ HW_ => ?_)
        generalize w37.drew = w38 at HO0_1 HO1_1 HO119 HO123 HO126 HO130 HO133 BK115 BK116 HB HL135_1 HL136_1 HR135_1 HR136_1 hx135_0 hx135_1 hx136_0 hx136_1 hHeld ⊢
        refine pure_ (i := 0) (N := some 26) (v := ?_) (a' := ?_) #[true, false, false, false, false, false, false, false, false] rfl rfl (any_of HT_.out (by kernel_rfl)) (fun _ _ _ h => h) (Or.inl ⟨by rfl, ?_⟩) ?_ ?_
        rotate_left
        · intro w'
          go_simp
          with_reducible rfl
        rotate_left
        · simp only [Act.put, List.setIfInBounds_toArray, List.set_cons_zero, List.set_cons_succ, i64_w, i32_w]
          rfl
        refine pure_ (i := 1) (N := some 27) (v := ?_) (a' := ?_) #[true, true, false, false, false, false, false, false, false] rfl rfl (any_of HT_.out (by kernel_rfl)) (fun _ _ _ h => h) (Or.inl ⟨by rfl, ?_⟩) ?_ ?_
        rotate_left
        · intro w'
          go_simp
          with_reducible rfl
        rotate_left
        · simp only [Act.put, List.setIfInBounds_toArray, List.set_cons_zero, List.set_cons_succ, i64_w, i32_w]
          rfl
        refine pure_ (i := 3) (N := some 29) (v := ?_) (a' := ?_) #[true, true, false, true, false, false, false, false, false] rfl rfl (any_of HT_.out (by kernel_rfl)) (fun _ _ _ h => h) (Or.inl ⟨by rfl, ?_⟩) ?_ ?_
        rotate_left
        · intro w'
          go_simp
          with_reducible rfl
        rotate_left
        · simp only [Act.put, List.setIfInBounds_toArray, List.set_cons_zero, List.set_cons_succ, i64_w, i32_w]
          rfl
        refine pure_ (i := 4) (N := some 30) (v := ?_) (a' := ?_) #[true, true, false, true, true, false, false, false, false] rfl rfl (any_of HT_.out (by kernel_rfl)) (fun _ _ _ h => h) (Or.inl ⟨by rfl, ?_⟩) ?_ ?_
        rotate_left
        · intro w'
          go_simp
          with_reducible rfl
        rotate_left
        · simp only [Act.put, List.setIfInBounds_toArray, List.set_cons_zero, List.set_cons_succ, i64_w, i32_w]
          rfl
        refine take_ (i := 2) (N := some 28) (v := ?_) (a' := ?_) #[true, true, true, true, true, false, false, false, false] rfl rfl (take_ofW HT_.out HW_.out (by kernel_rfl)) (fun _ _ _ h => h) (Or.inl ⟨by rfl, ?_⟩) hHeld ?_ ?_
        rotate_left
        · rintro w' ⟨s0, s1, s2, s3⟩
          go_simp
          with_reducible rfl
        rotate_left
        · simp only [Act.put, List.setIfInBounds_toArray, List.set_cons_zero, List.set_cons_succ, i64_w, i32_w]
          rfl
        refine take_ (i := 5) (N := some 31) (v := ?_) (a' := ?_) #[true, true, true, true, true, true, false, false, false] rfl rfl (take_ofW HT_.out HW_.out (by kernel_rfl)) (fun _ _ _ h => h) (Or.inl ⟨by rfl, ?_⟩) hHeld ?_ ?_
        rotate_left
        · rintro w' ⟨s0, s1, s2, s3⟩
          go_simp
          with_reducible rfl
        rotate_left
        · simp only [Act.put, List.setIfInBounds_toArray, List.set_cons_zero, List.set_cons_succ, i64_w, i32_w]
          rfl
        refine one_ (i := 6) (N := some 32) #[true, true, true, true, true, true, true, false, false] rfl rfl (one_of HT_.out (by kernel_rfl)) (by decide) (fun K hK => ?_)
        refine goes_ Try.func38 (by kernel_rfl) rfl #[.agg #[.int .i64 ((rd_T25 t124 0).f0), .slice A135_1 ((rd_T25 t124 0).f1).length c135_1], .agg #[.int .i64 ((rd_T25 t131 0).f0), .slice A136_1 ((rd_T25 t131 0).f1).length c136_1]] (by rfl) rfl rfl (by (try simp only [List.map_toArray, List.map_cons, List.map_nil]); first | done | rfl | (simp only [List.length_drop, List.length_take]; rfl)) ?_
        with_reducible refine (term_Same.calls ((rd_T25 t124 0).f0) _ _ ((rd_T25 t124 0).f1) ((rd_T25 t131 0).f0) _ _ ((rd_T25 t131 0).f1) t137 _ ?side1 ?side2 ?side3 ?side4 A18.out).mono ?_
        (case side1 => repeat (first | exact (by repeat (first | (with_reducible exact HR135_1.out) | (with_reducible refine Kd.C_alloc ?_ _) | (with_reducible refine Kd.C_drewN ?_ _) | (with_reducible refine Kd.C_drew ?_) | exact HR135_1.out)) | (with_reducible refine Kd.C_alloc ?_ _) | (with_reducible refine Kd.C_drewN ?_ _) | (with_reducible refine Kd.C_drew ?_)))
        (case side2 => exact HC135_1.out)
        (case side3 => repeat (first | exact (by repeat (first | (with_reducible exact HR136_1.out) | (with_reducible refine Kd.C_alloc ?_ _) | (with_reducible refine Kd.C_drewN ?_ _) | (with_reducible refine Kd.C_drew ?_) | exact HR136_1.out)) | (with_reducible refine Kd.C_alloc ?_ _) | (with_reducible refine Kd.C_drewN ?_ _) | (with_reducible refine Kd.C_drew ?_)))
        (case side4 => exact HC136_1.out)
        rintro e w41 ⟨rfl, hb⟩
        have HS0_ := (hb.cell (World.block_lt_of_cell? _ _ (hHeld.1))).trans (hHeld.1)
        have HS1_ := (hb.cell (World.block_lt_of_cell? _ _ (hHeld.2.1))).trans (hHeld.2.1)
        have HS2_ := (hb.cell (World.block_lt_of_cell? _ _ (hHeld.2.2.1))).trans (hHeld.2.2.1)
        have HS3_ := (hb.cell (World.block_lt_of_cell? _ _ (hHeld.2.2.2))).trans (hHeld.2.2.2)
        refine ⟨_, rfl, ?_⟩
        have n0_ := Aside0.mk (Kd.V_below (by (with_reducible repeat (first | apply Kd.V_alloc | apply Kd.V_drewN | apply Kd.V_drew)); exact HO0_1.out) hb)
        have n1_ := Aside0.mk (Kd.V_below (by (with_reducible repeat (first | apply Kd.V_alloc | apply Kd.V_drewN | apply Kd.V_drew)); exact HO1_1.out) hb)
        have n2_ := Aside0.mk (Kd.N_below (by (with_reducible repeat (first | apply Kd.N_alloc | apply Kd.N_drewN | apply Kd.N_drew)); exact HO119.out) hb)
        have n3_ := Aside0.mk (Kd.N_below (by (with_reducible repeat (first | apply Kd.N_alloc | apply Kd.N_drewN | apply Kd.N_drew)); exact HO123.out) hb)
        have n4_ := Aside0.mk (Kd.V_below (by (with_reducible repeat (first | apply Kd.V_alloc | apply Kd.V_drewN | apply Kd.V_drew)); exact HO126.out) hb)
        have n5_ := Aside0.mk (Kd.N_below (by (with_reducible repeat (first | apply Kd.N_alloc | apply Kd.N_drewN | apply Kd.N_drew)); exact HO130.out) hb)
        have n6_ := Aside0.mk (Kd.V_below (by (with_reducible repeat (first | apply Kd.V_alloc | apply Kd.V_drewN | apply Kd.V_drew)); exact HO133.out) hb)
        have n7_ := Aside0.mk (Kd.V_below (by (with_reducible repeat (first | apply Kd.V_alloc | apply Kd.V_drewN | apply Kd.V_drew)); exact HL135_1.out) hb)
        have n8_ := Aside0.mk (Kd.V_below (by (with_reducible repeat (first | apply Kd.V_alloc | apply Kd.V_drewN | apply Kd.V_drew)); exact HL136_1.out) hb)
        have n9_ := Aside0.mk (blk_below (g := gb115) (o := .cells #[.int .i64 a0_0, .slice A0_1 l0_1.length c0_1] 25 (0, 0)) (by (with_reducible repeat (first | refine blk_drewN ?_ _ | refine blk_drew ?_ | refine blk_alloc ?_ _)); exact BK115.out) hb)
        have n10_ := Aside0.mk (blk_below (g := gb116) (o := .cells #[.int .i64 a1_0, .slice A1_1 l1_1.length c1_1] 25 (0, 0)) (by (with_reducible repeat (first | refine blk_drewN ?_ _ | refine blk_drew ?_ | refine blk_alloc ?_ _)); exact BK116.out) hb)
        have n11_ := Aside0.mk (Kd.C_below (by repeat (first | (with_reducible exact HR135_1.out) | (with_reducible refine Kd.C_alloc ?_ _) | (with_reducible refine Kd.C_drewN ?_ _) | (with_reducible refine Kd.C_drew ?_) | exact HR135_1.out)) hb)
        have n12_ := Aside0.mk (Kd.C_below (by repeat (first | (with_reducible exact HR136_1.out) | (with_reducible refine Kd.C_alloc ?_ _) | (with_reducible refine Kd.C_drewN ?_ _) | (with_reducible refine Kd.C_drew ?_) | exact HR136_1.out)) hb)
        have n13_ := Aside0.mk (below_step (by repeat (first | (with_reducible first | exact HB.out | apply below_alloc | apply pw_below_drewN | apply below_drew1 | refine below_set ?_ GE115.out | refine below_set ?_ GE116.out) | exact HB.out)) hb)
        clear HO0_1
        clear HO1_1
        clear HO119
        clear HO123
        clear HO126
        clear HO130
        clear HO133
        clear HL135_1
        clear HL136_1
        clear BK115
        clear BK116
        clear HR135_1
        clear HR136_1
        clear HB
        have HO0_1 := n0_
        have HO1_1 := n1_
        have HO119 := n2_
        have HO123 := n3_
        have HO126 := n4_
        have HO130 := n5_
        have HO133 := n6_
        have HL135_1 := n7_
        have HL136_1 := n8_
        have BK115 := n9_
        have BK116 := n10_
        have HR135_1 := n11_
        have HR136_1 := n12_
        have HB := n13_
        clear n0_ n1_ n2_ n3_ n4_ n5_ n6_ n7_ n8_ n9_ n10_ n11_ n12_ n13_
        (try clear hb)
        (try clear hb2)
        (try clear hk)
        (try clear hi)
        refine hK.out _ _ ⟨HS0_, HS1_, HS2_, HS3_⟩ (fun hHeld => ?_)
        clear hK K
        refine norm_ (a' := ?_) ?_ ?_
        rotate_left
        · show Act.put _ (some 32) _ = _
          simp only [Act.put, List.setIfInBounds_toArray, List.set_cons_zero, List.set_cons_succ, i64_w, i32_w]
          rfl
        refine pure_ (i := 7) (N := some 4) (v := ?_) (a' := ?_) #[true, true, true, true, true, true, true, true, false] rfl rfl (any_of HT_.out (by kernel_rfl)) (fun _ _ _ h => h) (Or.inl ⟨by rfl, ?_⟩) ?_ ?_
        rotate_left
        · intro w'
          go_simp
          with_reducible rfl
        rotate_left
        · simp only [Act.put, List.setIfInBounds_toArray, List.set_cons_zero, List.set_cons_succ, i64_w, i32_w]
          rfl
        refine pure_ (i := 8) (N := some 5) (v := ?_) (a' := ?_) #[true, true, true, true, true, true, true, true, true] rfl rfl (any_of HT_.out (by kernel_rfl)) (fun _ _ _ h => h) (Or.inl ⟨by rfl, ?_⟩) ?_ ?_
        rotate_left
        · intro w'
          go_simp
          with_reducible rfl
        rotate_left
        · simp only [Act.put, List.setIfInBounds_toArray, List.set_cons_zero, List.set_cons_succ, i64_w, i32_w]
          rfl
        refine done_ (done_of HT_.out (by kernel_rfl)) ?_
        try go_wp2
        go_ret2
        exact ⟨by first | rfl | (simp [errW_none, errW_some] <;> rfl) | (simp [*, errW_none, errW_some] <;> rfl), by repeat (first | (with_reducible first | exact HB.out | apply below_alloc | apply pw_below_drewN | apply below_drew1 | refine below_set ?_ GE115.out | refine below_set ?_ GE116.out) | exact HB.out)⟩
      · rw [if_neg c17] at H
        exact absurd H (by simp)
    · rw [if_neg c16] at H
      exact absurd H (by simp)
end Go.Proofs.Ythplndalbfcbbaa.PA
namespace Go.Proofs.Ythplndalbfcbbaa.PA
open Go.RowKit Go.Proofs.YthplndalbfcbbaaW.PrintWords Go.Proofs.YthplndalbfcbbaaW.PrintLast Go.Proofs.YthplndalbfcbbaaW.PrintMore
attribute [local go_sem] max2_int min2_int max_two min_two max_three min_three max_four min_four   -- for this text's walks alone
set_option linter.unusedVariables false
set_option linter.unusedSimpArgs false
end Go.Proofs.Ythplndalbfcbbaa.PA
namespace Go.Proofs.Ythplndalbfcbbaa.PA
open Go.RowKit Go.Proofs.YthplndalbfcbbaaW.PrintWords Go.Proofs.YthplndalbfcbbaaW.PrintLast Go.Proofs.YthplndalbfcbbaaW.PrintMore
attribute [local go_sem] max2_int min2_int max_two min_two max_three min_three max_four min_four   -- for this text's walks alone
set_option linter.unusedVariables false
set_option linter.unusedSimpArgs false
end Go.Proofs.Ythplndalbfcbbaa.PA
set_option linter.unusedSimpArgs false
set_option linter.unusedVariables false
namespace Go.Proofs.Ythplndalbfcbbaa
open Go.RowKit Go.Proofs.YthplndalbfcbbaaW.PrintWords
namespace PA
def elenchusref01_Same.f (a0 : Int) (l0 : List TS) (a1 : Int) (l1 : List TS) : Option Bool := if (ofS ⟨a0, l0⟩).size ≤ 1000000000 ∧ (ofS ⟨a1, l1⟩).size ≤ 1000000000 then some (sameB (ofS ⟨a0, l0⟩) (ofS ⟨a1, l1⟩)) else none
theorem elenchusref01_Same.calls (a0 : Int) (A0 : Option Addr) (c0 : Nat) (l0 : List TS) (a1 : Int) (A1 : Option Addr) (c1 : Nat) (l1 : List TS) (r : Bool) (w : World) (hr0 : Kd.C kT w A0 l0.length l0) (hc0 : l0.length ≤ c0) (hr1 : Kd.C kT w A1 l1.length l1) (hc1 : l1.length ≤ c1) (h : elenchusref01_Same.f a0 l0 a1 l1 = some r) :
    Calls Try.prog 34 #[.agg #[.int .i64 a0, .slice A0 l0.length c0], .agg #[.int .i64 a1, .slice A1 l1.length c1]] w fun e w' => e = .returned (.bool r) ∧ Below w.heap.size w w' := by
  unfold elenchusref01_Same.f at h
  split at h
  · rename_i hs
    cases h
    exact same_calls _ _ _ _ _ _ _ _ w hs.1 hs.2 (isTm_of_c hc0 hr0) (isTm_of_c hc1 hr1)
  · cases h
def elenchusref01_In.f (a0 : Int) (l0 : List Int) : Option Bool := some (hasB a0 l0)
end PA
end Go.Proofs.Ythplndalbfcbbaa
namespace Go.Proofs.Ythplndalbfcbbaa.PA
open Go.RowKit Go.Proofs.YthplndalbfcbbaaW.PrintWords Go.Proofs.YthplndalbfcbbaaW.PrintLast Go.Proofs.YthplndalbfcbbaaW.PrintMore
attribute [local go_sem] max2_int min2_int max_two min_two max_three min_three max_four min_four   -- for this text's walks alone
set_option linter.unusedVariables false
set_option linter.unusedSimpArgs false
end Go.Proofs.Ythplndalbfcbbaa.PA
namespace Go.Proofs.Ythplndalbfcbbaa.PA
open Go.RowKit Go.Proofs.YthplndalbfcbbaaW.PrintWords Go.Proofs.YthplndalbfcbbaaW.PrintLast Go.Proofs.YthplndalbfcbbaaW.PrintMore
attribute [local go_sem] max2_int min2_int max_two min_two max_three min_three max_four min_four   -- for this text's walks alone
set_option linter.unusedVariables false
set_option linter.unusedSimpArgs false
end Go.Proofs.Ythplndalbfcbbaa.PA
namespace Go.Proofs.Ythplndalbfcbbaa.PA
open Go.RowKit Go.Proofs.YthplndalbfcbbaaW.PrintWords Go.Proofs.YthplndalbfcbbaaW.PrintLast Go.Proofs.YthplndalbfcbbaaW.PrintMore
attribute [local go_sem] max2_int min2_int max_two min_two max_three min_three max_four min_four   -- for this text's walks alone
set_option linter.unusedVariables false
set_option linter.unusedSimpArgs false
mutual
def elenchusref01_Vars.j0 : Nat → List Int → Int → List (S25) → Option (List Int)
  | 0, _, _, _ => none
  | k + 1, x3, x173000, x173001 => elenchusref01_Vars.l0 k x3 0 x173000 x173001
def elenchusref01_Vars.l0 : Nat → List Int → Int → Int → List (S25) → Option (List Int)
  | 0, _, _, _, _ => none
  | k + 1, x3, x4, x173000, x173001 => if x4 < (x173001.length : Int) then (if 0 ≤ x4 then ((elenchusref01_Vars.f k ((rd_T25 x173001 x4).f0) ((rd_T25 x173001 x4).f1)).bind fun t177 => (elenchusref01_Vars.l1 k x3 x4 t177 0 x173000 x173001)) else (none)) else (some x3)
def elenchusref01_Vars.l1 : Nat → List Int → Int → List Int → Int → Int → List (S25) → Option (List Int)
  | 0, _, _, _, _, _, _ => none
  | k + 1, x3, x4, x5, x6, x173000, x173001 => if x6 < (x5.length : Int) then (if 0 ≤ x6 then ((elenchusref01_In.f (rd x5 x6) x3).bind fun t181 => (if t181 = true then (elenchusref01_Vars.l1 k x3 x4 x5 (wrap64 (x6 + 1)) x173000 x173001) else (if x3.length < 17592186044416 then (elenchusref01_Vars.l1 k (x3 ++ [rd x5 x6]) x4 x5 (wrap64 (x6 + 1)) x173000 x173001) else (none)))) else (none)) else (elenchusref01_Vars.l0 k x3 (wrap64 (x4 + 1)) x173000 x173001)
def elenchusref01_Vars.f : Nat → Int → List (S25) → Option (List Int)
  | 0, _, _ => none
  | k + 1, a0_0, l0_1 => if a0_0 < 0 then (if ([] : List Int).length < 17592186044416 then (elenchusref01_Vars.j0 k (([] : List Int) ++ [wrap64 ((-1) - a0_0)]) a0_0 l0_1) else (none)) else (elenchusref01_Vars.j0 k ([] : List Int) a0_0 l0_1)
end
end Go.Proofs.Ythplndalbfcbbaa.PA
namespace Go.Proofs.Ythplndalbfcbbaa.PA
open Go.RowKit Go.Proofs.YthplndalbfcbbaaW.PrintWords Go.Proofs.YthplndalbfcbbaaW.PrintLast Go.Proofs.YthplndalbfcbbaaW.PrintMore
attribute [local go_sem] max2_int min2_int max_two min_two max_three min_three max_four min_four   -- for this text's walks alone
set_option linter.unusedVariables false
set_option linter.unusedSimpArgs false
end Go.Proofs.Ythplndalbfcbbaa.PA
namespace Go.Proofs.Ythplndalbfcbbaa.PA
open Go.RowKit Go.Proofs.YthplndalbfcbbaaW.PrintWords Go.Proofs.YthplndalbfcbbaaW.PrintLast Go.Proofs.YthplndalbfcbbaaW.PrintMore
attribute [local go_sem] max2_int min2_int max_two min_two max_three min_three max_four min_four   -- for this text's walks alone
set_option linter.unusedVariables false
set_option linter.unusedSimpArgs false
def elenchusref05_Norm.l0 : Nat → List (S25) → List (S60) → List (S25) → Int → Option ((List (S25)) × Int)
  | 0, _, _, _, _ => none
  | k + 1, x0, x4, x5, x6 => if x6 < (x0.length : Int) then (if 0 ≤ x6 then ((elenchusref03_Put.f x4 ((rd_T25 x0 x6).f0) ((rd_T25 x0 x6).f1)).bind fun bt198 => (if x5.length < 4398046511104 then (elenchusref05_Norm.l0 k x0 x4 (x5 ++ [(⟨bt198.1, bt198.2⟩ : S25)]) (wrap64 (x6 + 1))) else (none))) else (none)) else (some (x5, 0))
end Go.Proofs.Ythplndalbfcbbaa.PA
namespace Go.Proofs.Ythplndalbfcbbaa.PA
open Go.RowKit Go.Proofs.YthplndalbfcbbaaW.PrintWords Go.Proofs.YthplndalbfcbbaaW.PrintLast Go.Proofs.YthplndalbfcbbaaW.PrintMore
attribute [local go_sem] max2_int min2_int max_two min_two max_three min_three max_four min_four   -- for this text's walks alone
set_option linter.unusedVariables false
set_option linter.unusedSimpArgs false
def elenchusref01_Terms.l0 : Nat → List (S25) → List (S25) → Int → Option (Bool)
  | 0, _, _, _ => none
  | k + 1, x0, x1, x5 => if x5 < (x0.length : Int) then (if 0 ≤ x5 then (if x5 < (x1.length : Int) then ((elenchusref01_Same.f ((rd_T25 x0 x5).f0) ((rd_T25 x0 x5).f1) ((rd_T25 x1 x5).f0) ((rd_T25 x1 x5).f1)).bind fun t207 => (if t207 = true then (elenchusref01_Terms.l0 k x0 x1 (wrap64 (x5 + 1))) else (some false))) else (none)) else (none)) else (some true)
def elenchusref01_Terms.f (k : Nat) (l0 : List (S25)) (l1 : List (S25)) : Option (Bool) := if (l0.length : Int) = (l1.length : Int) then (elenchusref01_Terms.l0 k l0 l1 0) else (some false)
def elenchusref01_Terms.T6 : Bool × List (List Nat × List Nat) := (true, [([], []), ([], []), ([0, 1], [0, 1]), ([2], [2]), ([], []), ([], []), ([4, 5], [4, 5]), ([6], [6]), ([3, 7], [3, 7]), ([8], [8])])
def elenchusref01_Terms.B6 : List Nat := [0, 0, 3, 7, 0, 0, 48, 112, 255, 511]
theorem elenchusref01_Terms.tab6 : rtab .any (opsOf Try.f53 6) = elenchusref01_Terms.T6 := by kernel_rfl
theorem elenchusref01_Terms.bits6 : waitsOk elenchusref01_Terms.T6.2 elenchusref01_Terms.B6 = true := by kernel_rfl
set_option maxHeartbeats 8000000 in
set_option maxRecDepth 100000 in
theorem elenchusref01_Terms.calls (k : Nat) (A0 : Option Addr) (c0 : Nat) (l0 : List (S25)) (A1 : Option Addr) (c1 : Nat) (l1 : List (S25)) (r : Bool) (w : World) (hr0 : Kd.C k25 w A0 l0.length l0) (hc0 : l0.length ≤ c0) (hr1 : Kd.C k25 w A1 l1.length l1) (hc1 : l1.length ≤ c1) (h : elenchusref01_Terms.f k l0 l1 = some r) :
    Calls Try.prog 53 #[.slice A0 l0.length c0, .slice A1 l1.length c1] w fun e w' => e = .returned (.bool r) ∧ Below w.heap.size w w' := by
  have hu25 := Try.underlying25
  have HR0 := Aside0.mk hr0
  have HC0 := Aside0.mk hc0
  clear hr0 hc0
  have HR1 := Aside0.mk hr1
  have HC1 := Aside0.mk hc1
  clear hr1 hc1
  have HB := Aside0.mk (Below.refl w.heap.size w)
  have H : (if (l0.length : Int) = (l1.length : Int) then (elenchusref01_Terms.l0 k l0 l1 0) else (some false)) = some r := h
  clear h
  by_cases c3 : (l0.length : Int) = (l1.length : Int)
  · rw [if_pos c3] at H
    have c3b0 : ((l0.length : Int) == (l1.length : Int)) = true := beq_iff_eq.mpr c3
    have c3b1 : ((l0.length : Int) != (l1.length : Int)) = false := bne_eq_false_iff_eq.mpr c3
    have c3b2 : (l0.length == l1.length) = true := by first | simpa using c3 | (simp at c3 ⊢; omega)
    clear c3
    have H' := Aside0.mk H
    clear H
    go_enter Try.func53, Try.ntmps53
    go_wp2
    go_loopg [5] k (fun kq v5 w' => ∃ (x5_1 : Int), v5 = .int .i64 x5_1 ∧ Aside0 (elenchusref01_Terms.l0 kq l0 l1 x5_1 = some r) ∧ Aside0 (kq ≤ k) ∧ Aside0 (Below w.heap.size w w'))
    case atStart => exact ⟨(0), (by first | rfl | (simp; done) | (simp [*]; done)), H', ⟨Nat.le_refl _⟩, ⟨by repeat (first | (with_reducible first | exact HB.out | apply below_alloc | apply pw_below_drewN | apply below_drew1) | exact HB.out)⟩⟩
    case round =>
      clear H'
      try clear c1
      try clear p2
      try clear c3
      try clear c3b0
      try clear c3b1
      try clear c3b2
      obtain ⟨x5_1, rfl, HA, HK1, HB⟩ := hrel
      cases gk with
      | zero => exact absurd HA.out (by simp [elenchusref01_Terms.l0])
      | succ k1 =>
        have H := HA.out
        clear HA
        simp only [elenchusref01_Terms.l0] at H
        by_cases c4 : x5_1 < (l0.length : Int)
        · rw [if_pos c4] at H
          have c4b0 : decide (x5_1 < (l0.length : Int)) = true := decide_eq_true c4
          clear c4
          by_cases c5 : 0 ≤ x5_1
          · rw [if_pos c5] at H
            have c5b0 : decide (0 ≤ x5_1) = true := decide_eq_true c5
            clear c5
            by_cases c6 : x5_1 < (l1.length : Int)
            · rw [if_pos c6] at H
              have c6b0 : decide (x5_1 < (l1.length : Int)) = true := decide_eq_true c6
              clear c6
              replace H := Option.bind_eq_some_iff.mp H
              obtain ⟨t207, A70, H⟩ := H
              replace H : (if t207 = true then (elenchusref01_Terms.l0 k1 l0 l1 (wrap64 (x5_1 + 1))) else (some false)) = some r := H
              have A7 := Aside0.mk A70
              clear A70
              by_cases c8 : t207 = true
              · subst c8
                have H1 : (elenchusref01_Terms.l0 k1 l0 l1 (wrap64 (x5_1 + 1))) = some r := by rw [if_pos rfl] at H; exact H
                clear H
                have H := H1
                clear H1
                have H' := Aside0.mk H
                clear H
                try go_wp2
                have n0_ := Aside0.mk (below_drew1 HB.out)
                clear HB
                have HB := n0_
                clear n0_
                have p205 : 0 ≤ (x5_1 : Int) := of_decide_eq_true (by first | (with_reducible assumption) | assumption)
                have q205 : x5_1 < (l0.length : Int) := of_decide_eq_true (by first | (with_reducible assumption) | assumption)
                obtain ⟨ad205, A205_1, c205_1, e205, hx205_0, hx205_1, hl205_1, hi205_1⟩ := at_T25 HR0.out x5_1 p205 q205
                have hw205_1 := hx205_1
                have hw205_0 := hx205_0
                cases e205
                replace hx205_0 := (HB.out.cell (World.block_lt_of_cell? w _ hx205_0)).trans hx205_0
                replace hx205_1 := (HB.out.cell (World.block_lt_of_cell? w _ hx205_1)).trans hx205_1
                have HR205_1 := Aside0.mk hi205_1
                have HC205_1 := Aside0.mk hl205_1
                clear hi205_1 hl205_1
                replace p205 := eq_true p205
                replace q205 := eq_true q205
                have p206 : 0 ≤ (x5_1 : Int) := of_decide_eq_true (by first | (with_reducible assumption) | assumption)
                have q206 : x5_1 < (l1.length : Int) := of_decide_eq_true (by first | (with_reducible assumption) | assumption)
                obtain ⟨ad206, A206_1, c206_1, e206, hx206_0, hx206_1, hl206_1, hi206_1⟩ := at_T25 HR1.out x5_1 p206 q206
                have hw206_1 := hx206_1
                have hw206_0 := hx206_0
                cases e206
                replace hx206_0 := (HB.out.cell (World.block_lt_of_cell? w _ hx206_0)).trans hx206_0
                replace hx206_1 := (HB.out.cell (World.block_lt_of_cell? w _ hx206_1)).trans hx206_1
                have HR206_1 := Aside0.mk hi206_1
                have HC206_1 := Aside0.mk hl206_1
                clear hi206_1 hl206_1
                replace p206 := eq_true p206
                replace q206 := eq_true q206
                refine start_ (n := 10) (S := fun w' => w'.cell? (ad205.add ((x5_1).toNat * 2)) = some (.int .i64 ((rd_T25 l0 x5_1).f0)) ∧ w'.cell? ⟨(ad205.add ((x5_1).toNat * 2)).block, (ad205.add ((x5_1).toNat * 2)).off + 1, none⟩ = some (.slice A205_1 ((rd_T25 l0 x5_1).f1).length c205_1) ∧ w'.cell? (ad206.add ((x5_1).toNat * 2)) = some (.int .i64 ((rd_T25 l1 x5_1).f0)) ∧ w'.cell? ⟨(ad206.add ((x5_1).toNat * 2)).block, (ad206.add ((x5_1).toNat * 2)).off + 1, none⟩ = some (.slice A206_1 ((rd_T25 l1 x5_1).f1).length c206_1)) (ds := []) #[false, false, false, false, false, false, false, false, false, false] (by kernel_rfl) rfl rfl ⟨((HB.out.cell (World.block_lt_of_cell? w _ hw205_0)).trans hw205_0), ((HB.out.cell (World.block_lt_of_cell? w _ hw205_1)).trans hw205_1), ((HB.out.cell (World.block_lt_of_cell? w _ hw206_0)).trans hw206_0), ((HB.out.cell (World.block_lt_of_cell? w _ hw206_1)).trans hw206_1)⟩ (fun hHeld => ?_); refine with_tabW elenchusref01_Terms.tab6 elenchusref01_Terms.bits6 (fun HT_ HW_ => ?_)
                generalize wr.drew = w9 at HB HR205_1 HR206_1 hx205_0 hx205_1 hx206_0 hx206_1 hHeld ⊢
                refine pure_ (i := 0) (N := some 17) (v := ?_) (a' := ?_) #[true, false, false, false, false, false, false, false, false, false] rfl rfl (any_of HT_.out (by kernel_rfl)) (fun _ _ _ h => h) (Or.inl ⟨by rfl, ?_⟩) ?_ ?_
                rotate_left
                · intro w'
                  go_simp
                  with_reducible rfl
                rotate_left
                · simp only [Act.put, List.setIfInBounds_toArray, List.set_cons_zero, List.set_cons_succ, i64_w, i32_w]
                  rfl
                refine pure_ (i := 1) (N := some 18) (v := ?_) (a' := ?_) #[true, true, false, false, false, false, false, false, false, false] rfl rfl (any_of HT_.out (by kernel_rfl)) (fun _ _ _ h => h) (Or.inl ⟨by rfl, ?_⟩) ?_ ?_
                rotate_left
                · intro w'
                  go_simp
                  with_reducible rfl
                rotate_left
                · simp only [Act.put, List.setIfInBounds_toArray, List.set_cons_zero, List.set_cons_succ, i64_w, i32_w]
                  rfl
                refine pure_ (i := 2) (N := some 19) (v := ?_) (a' := ?_) #[true, true, true, false, false, false, false, false, false, false] rfl rfl (any_of HT_.out (by kernel_rfl)) (fun _ _ _ h => h) (Or.inl ⟨by rfl, ?_⟩) ?_ ?_
                rotate_left
                · intro w'
                  go_simp
                  with_reducible rfl
                rotate_left
                · simp only [Act.put, List.setIfInBounds_toArray, List.set_cons_zero, List.set_cons_succ, i64_w, i32_w]
                  rfl
                refine pure_ (i := 4) (N := some 21) (v := ?_) (a' := ?_) #[true, true, true, false, true, false, false, false, false, false] rfl rfl (any_of HT_.out (by kernel_rfl)) (fun _ _ _ h => h) (Or.inl ⟨by rfl, ?_⟩) ?_ ?_
                rotate_left
                · intro w'
                  go_simp
                  with_reducible rfl
                rotate_left
                · simp only [Act.put, List.setIfInBounds_toArray, List.set_cons_zero, List.set_cons_succ, i64_w, i32_w]
                  rfl
                refine pure_ (i := 5) (N := some 22) (v := ?_) (a' := ?_) #[true, true, true, false, true, true, false, false, false, false] rfl rfl (any_of HT_.out (by kernel_rfl)) (fun _ _ _ h => h) (Or.inl ⟨by rfl, ?_⟩) ?_ ?_
                rotate_left
                · intro w'
                  go_simp
                  with_reducible rfl
                rotate_left
                · simp only [Act.put, List.setIfInBounds_toArray, List.set_cons_zero, List.set_cons_succ, i64_w, i32_w]
                  rfl
                refine pure_ (i := 6) (N := some 23) (v := ?_) (a' := ?_) #[true, true, true, false, true, true, true, false, false, false] rfl rfl (any_of HT_.out (by kernel_rfl)) (fun _ _ _ h => h) (Or.inl ⟨by rfl, ?_⟩) ?_ ?_
                rotate_left
                · intro w'
                  go_simp
                  with_reducible rfl
                rotate_left
                · simp only [Act.put, List.setIfInBounds_toArray, List.set_cons_zero, List.set_cons_succ, i64_w, i32_w]
                  rfl
                refine take_ (i := 3) (N := some 20) (v := ?_) (a' := ?_) #[true, true, true, true, true, true, true, false, false, false] rfl rfl (take_ofW HT_.out HW_.out (by kernel_rfl)) (fun _ _ _ h => h) (Or.inl ⟨by rfl, ?_⟩) hHeld ?_ ?_
                rotate_left
                · rintro w' ⟨s0, s1, s2, s3⟩
                  go_simp
                  with_reducible rfl
                rotate_left
                · simp only [Act.put, List.setIfInBounds_toArray, List.set_cons_zero, List.set_cons_succ, i64_w, i32_w]
                  rfl
                refine take_ (i := 7) (N := some 24) (v := ?_) (a' := ?_) #[true, true, true, true, true, true, true, true, false, false] rfl rfl (take_ofW HT_.out HW_.out (by kernel_rfl)) (fun _ _ _ h => h) (Or.inl ⟨by rfl, ?_⟩) hHeld ?_ ?_
                rotate_left
                · rintro w' ⟨s0, s1, s2, s3⟩
                  go_simp
                  with_reducible rfl
                rotate_left
                · simp only [Act.put, List.setIfInBounds_toArray, List.set_cons_zero, List.set_cons_succ, i64_w, i32_w]
                  rfl
                refine one_ (i := 8) (N := some 25) #[true, true, true, true, true, true, true, true, true, false] rfl rfl (one_of HT_.out (by kernel_rfl)) (by decide) (fun K hK => ?_)
                refine goes_ Try.func34 (by kernel_rfl) rfl #[.agg #[.int .i64 ((rd_T25 l0 x5_1).f0), .slice A205_1 ((rd_T25 l0 x5_1).f1).length c205_1], .agg #[.int .i64 ((rd_T25 l1 x5_1).f0), .slice A206_1 ((rd_T25 l1 x5_1).f1).length c206_1]] (by rfl) rfl rfl (by (try simp only [List.map_toArray, List.map_cons, List.map_nil]); first | done | rfl | (simp only [List.length_drop, List.length_take]; rfl)) ?_
                with_reducible refine (elenchusref01_Same.calls ((rd_T25 l0 x5_1).f0) _ _ ((rd_T25 l0 x5_1).f1) ((rd_T25 l1 x5_1).f0) _ _ ((rd_T25 l1 x5_1).f1) true _ ?side1 ?side2 ?side3 ?side4 A7.out).mono ?_
                (case side1 => repeat (first | exact (Kd.C_below HR205_1.out HB.out) | (with_reducible refine Kd.C_alloc ?_ _) | (with_reducible refine Kd.C_drewN ?_ _) | (with_reducible refine Kd.C_drew ?_)))
                (case side2 => exact HC205_1.out)
                (case side3 => repeat (first | exact (Kd.C_below HR206_1.out HB.out) | (with_reducible refine Kd.C_alloc ?_ _) | (with_reducible refine Kd.C_drewN ?_ _) | (with_reducible refine Kd.C_drew ?_)))
                (case side4 => exact HC206_1.out)
                rintro e w10 ⟨rfl, hb⟩
                refine ⟨_, rfl, ?_⟩
                have n0_ := Aside0.mk (below_step (by repeat (first | (with_reducible first | exact HB.out | apply below_alloc | apply pw_below_drewN | apply below_drew1) | exact HB.out)) hb)
                clear HB
                have HB := n0_
                clear n0_
                (try clear hb)
                (try clear hb2)
                (try clear hk)
                (try clear hi)
                refine hK.out _ _ ⟨((HB.out.cell (World.block_lt_of_cell? w _ hw205_0)).trans hw205_0), ((HB.out.cell (World.block_lt_of_cell? w _ hw205_1)).trans hw205_1), ((HB.out.cell (World.block_lt_of_cell? w _ hw206_0)).trans hw206_0), ((HB.out.cell (World.block_lt_of_cell? w _ hw206_1)).trans hw206_1)⟩ (fun hHeld => ?_)
                clear hK K
                refine norm_ (a' := ?_) ?_ ?_
                rotate_left
                · show Act.put _ (some 25) _ = _
                  simp only [Act.put, List.setIfInBounds_toArray, List.set_cons_zero, List.set_cons_succ, i64_w, i32_w]
                  rfl
                refine pure_ (i := 9) (N := some 26) (v := ?_) (a' := ?_) #[true, true, true, true, true, true, true, true, true, true] rfl rfl (any_of HT_.out (by kernel_rfl)) (fun _ _ _ h => h) (Or.inl ⟨by rfl, ?_⟩) ?_ ?_
                rotate_left
                · intro w'
                  go_simp
                  with_reducible rfl
                rotate_left
                · simp only [Act.put, List.setIfInBounds_toArray, List.set_cons_zero, List.set_cons_succ, i64_w, i32_w]
                  rfl
                refine done_ (done_of HT_.out (by kernel_rfl)) ?_
                try go_wp2
                go_roundg k1
                case measure => have := HK1.out; omega
                case rel => exact ⟨(wrap64 (x5_1 + 1)), (by first | rfl | (simp; done) | (simp [*]; done)), H', ⟨by have := HK1.out; omega⟩, ⟨by repeat (first | (with_reducible first | exact HB.out | apply below_alloc | apply pw_below_drewN | apply below_drew1) | exact HB.out)⟩⟩
              · replace c8 := Bool.eq_false_iff.mpr c8
                subst c8
                have H1 : (some false) = some r := by rw [if_neg (show ¬ (false = true) by decide)] at H; exact H
                clear H
                have H := H1
                clear H1
                obtain rfl := Option.some.inj H
                try go_wp2
                have n0_ := Aside0.mk (below_drew1 HB.out)
                clear HB
                have HB := n0_
                clear n0_
                have p205 : 0 ≤ (x5_1 : Int) := of_decide_eq_true (by first | (with_reducible assumption) | assumption)
                have q205 : x5_1 < (l0.length : Int) := of_decide_eq_true (by first | (with_reducible assumption) | assumption)
                obtain ⟨ad205, A205_1, c205_1, e205, hx205_0, hx205_1, hl205_1, hi205_1⟩ := at_T25 HR0.out x5_1 p205 q205
                have hw205_1 := hx205_1
                have hw205_0 := hx205_0
                cases e205
                replace hx205_0 := (HB.out.cell (World.block_lt_of_cell? w _ hx205_0)).trans hx205_0
                replace hx205_1 := (HB.out.cell (World.block_lt_of_cell? w _ hx205_1)).trans hx205_1
                have HR205_1 := Aside0.mk hi205_1
                have HC205_1 := Aside0.mk hl205_1
                clear hi205_1 hl205_1
                replace p205 := eq_true p205
                replace q205 := eq_true q205
                have p206 : 0 ≤ (x5_1 : Int) := of_decide_eq_true (by first | (with_reducible assumption) | assumption)
                have q206 : x5_1 < (l1.length : Int) := of_decide_eq_true (by first | (with_reducible assumption) | assumption)
                obtain ⟨ad206, A206_1, c206_1, e206, hx206_0, hx206_1, hl206_1, hi206_1⟩ := at_T25 HR1.out x5_1 p206 q206
                have hw206_1 := hx206_1
                have hw206_0 := hx206_0
                cases e206
                replace hx206_0 := (HB.out.cell (World.block_lt_of_cell? w _ hx206_0)).trans hx206_0
                replace hx206_1 := (HB.out.cell (World.block_lt_of_cell? w _ hx206_1)).trans hx206_1
                have HR206_1 := Aside0.mk hi206_1
                have HC206_1 := Aside0.mk hl206_1
                clear hi206_1 hl206_1
                replace p206 := eq_true p206
                replace q206 := eq_true q206
                refine start_ (n := 10) (S := fun w' => w'.cell? (ad205.add ((x5_1).toNat * 2)) = some (.int .i64 ((rd_T25 l0 x5_1).f0)) ∧ w'.cell? ⟨(ad205.add ((x5_1).toNat * 2)).block, (ad205.add ((x5_1).toNat * 2)).off + 1, none⟩ = some (.slice A205_1 ((rd_T25 l0 x5_1).f1).length c205_1) ∧ w'.cell? (ad206.add ((x5_1).toNat * 2)) = some (.int .i64 ((rd_T25 l1 x5_1).f0)) ∧ w'.cell? ⟨(ad206.add ((x5_1).toNat * 2)).block, (ad206.add ((x5_1).toNat * 2)).off + 1, none⟩ = some (.slice A206_1 ((rd_T25 l1 x5_1).f1).length c206_1)) (ds := []) #[false, false, false, false, false, false, false, false, false, false] (by kernel_rfl) rfl rfl ⟨((HB.out.cell (World.block_lt_of_cell? w _ hw205_0)).trans hw205_0), ((HB.out.cell (World.block_lt_of_cell? w _ hw205_1)).trans hw205_1), ((HB.out.cell (World.block_lt_of_cell? w _ hw206_0)).trans hw206_0), ((HB.out.cell (World.block_lt_of_cell? w _ hw206_1)).trans hw206_1)⟩ (fun hHeld => ?_); refine with_tabW elenchusref01_Terms.tab6 elenchusref01_Terms.bits6 (fun HT_ HW_ => ?_)
                generalize wr.drew = w11 at HB HR205_1 HR206_1 hx205_0 hx205_1 hx206_0 hx206_1 hHeld ⊢
                refine pure_ (i := 0) (N := some 17) (v := ?_) (a' := ?_) #[true, false, false, false, false, false, false, false, false, false] rfl rfl (any_of HT_.out (by kernel_rfl)) (fun _ _ _ h => h) (Or.inl ⟨by rfl, ?_⟩) ?_ ?_
                rotate_left
                · intro w'
                  go_simp
                  with_reducible rfl
                rotate_left
                · simp only [Act.put, List.setIfInBounds_toArray, List.set_cons_zero, List.set_cons_succ, i64_w, i32_w]
                  rfl
                refine pure_ (i := 1) (N := some 18) (v := ?_) (a' := ?_) #[true, true, false, false, false, false, false, false, false, false] rfl rfl (any_of HT_.out (by kernel_rfl)) (fun _ _ _ h => h) (Or.inl ⟨by rfl, ?_⟩) ?_ ?_
                rotate_left
                · intro w'
                  go_simp
                  with_reducible rfl
                rotate_left
                · simp only [Act.put, List.setIfInBounds_toArray, List.set_cons_zero, List.set_cons_succ, i64_w, i32_w]
                  rfl
                refine pure_ (i := 2) (N := some 19) (v := ?_) (a' := ?_) #[true, true, true, false, false, false, false, false, false, false] rfl rfl (any_of HT_.out (by kernel_rfl)) (fun _ _ _ h => h) (Or.inl ⟨by rfl, ?_⟩) ?_ ?_
                rotate_left
                · intro w'
                  go_simp
                  with_reducible rfl
                rotate_left
                · simp only [Act.put, List.setIfInBounds_toArray, List.set_cons_zero, List.set_cons_succ, i64_w, i32_w]
                  rfl
                refine pure_ (i := 4) (N := some 21) (v := ?_) (a' := ?_) #[true, true, true, false, true, false, false, false, false, false] rfl rfl (any_of HT_.out (by kernel_rfl)) (fun _ _ _ h => h) (Or.inl ⟨by rfl, ?_⟩) ?_ ?_
                rotate_left
                · intro w'
                  go_simp
                  with_reducible rfl
                rotate_left
                · simp only [Act.put, List.setIfInBounds_toArray, List.set_cons_zero, List.set_cons_succ, i64_w, i32_w]
                  rfl
                refine pure_ (i := 5) (N := some 22) (v := ?_) (a' := ?_) #[true, true, true, false, true, true, false, false, false, false] rfl rfl (any_of HT_.out (by kernel_rfl)) (fun _ _ _ h => h) (Or.inl ⟨by rfl, ?_⟩) ?_ ?_
                rotate_left
                · intro w'
                  go_simp
                  with_reducible rfl
                rotate_left
                · simp only [Act.put, List.setIfInBounds_toArray, List.set_cons_zero, List.set_cons_succ, i64_w, i32_w]
                  rfl
                refine pure_ (i := 6) (N := some 23) (v := ?_) (a' := ?_) #[true, true, true, false, true, true, true, false, false, false] rfl rfl (any_of HT_.out (by kernel_rfl)) (fun _ _ _ h => h) (Or.inl ⟨by rfl, ?_⟩) ?_ ?_
                rotate_left
                · intro w'
                  go_simp
                  with_reducible rfl
                rotate_left
                · simp only [Act.put, List.setIfInBounds_toArray, List.set_cons_zero, List.set_cons_succ, i64_w, i32_w]
                  rfl
                refine take_ (i := 3) (N := some 20) (v := ?_) (a' := ?_) #[true, true, true, true, true, true, true, false, false, false] rfl rfl (take_ofW HT_.out HW_.out (by kernel_rfl)) (fun _ _ _ h => h) (Or.inl ⟨by rfl, ?_⟩) hHeld ?_ ?_
                rotate_left
                · rintro w' ⟨s0, s1, s2, s3⟩
                  go_simp
                  with_reducible rfl
                rotate_left
                · simp only [Act.put, List.setIfInBounds_toArray, List.set_cons_zero, List.set_cons_succ, i64_w, i32_w]
                  rfl
                refine take_ (i := 7) (N := some 24) (v := ?_) (a' := ?_) #[true, true, true, true, true, true, true, true, false, false] rfl rfl (take_ofW HT_.out HW_.out (by kernel_rfl)) (fun _ _ _ h => h) (Or.inl ⟨by rfl, ?_⟩) hHeld ?_ ?_
                rotate_left
                · rintro w' ⟨s0, s1, s2, s3⟩
                  go_simp
                  with_reducible rfl
                rotate_left
                · simp only [Act.put, List.setIfInBounds_toArray, List.set_cons_zero, List.set_cons_succ, i64_w, i32_w]
                  rfl
                refine one_ (i := 8) (N := some 25) #[true, true, true, true, true, true, true, true, true, false] rfl rfl (one_of HT_.out (by kernel_rfl)) (by decide) (fun K hK => ?_)
                refine goes_ Try.func34 (by kernel_rfl) rfl #[.agg #[.int .i64 ((rd_T25 l0 x5_1).f0), .slice A205_1 ((rd_T25 l0 x5_1).f1).length c205_1], .agg #[.int .i64 ((rd_T25 l1 x5_1).f0), .slice A206_1 ((rd_T25 l1 x5_1).f1).length c206_1]] (by rfl) rfl rfl (by (try simp only [List.map_toArray, List.map_cons, List.map_nil]); first | done | rfl | (simp only [List.length_drop, List.length_take]; rfl)) ?_
                with_reducible refine (elenchusref01_Same.calls ((rd_T25 l0 x5_1).f0) _ _ ((rd_T25 l0 x5_1).f1) ((rd_T25 l1 x5_1).f0) _ _ ((rd_T25 l1 x5_1).f1) false _ ?side1 ?side2 ?side3 ?side4 A7.out).mono ?_
                (case side1 => repeat (first | exact (Kd.C_below HR205_1.out HB.out) | (with_reducible refine Kd.C_alloc ?_ _) | (with_reducible refine Kd.C_drewN ?_ _) | (with_reducible refine Kd.C_drew ?_)))
                (case side2 => exact HC205_1.out)
                (case side3 => repeat (first | exact (Kd.C_below HR206_1.out HB.out) | (with_reducible refine Kd.C_alloc ?_ _) | (with_reducible refine Kd.C_drewN ?_ _) | (with_reducible refine Kd.C_drew ?_)))
                (case side4 => exact HC206_1.out)
                rintro e w12 ⟨rfl, hb⟩
                refine ⟨_, rfl, ?_⟩
                have n0_ := Aside0.mk (below_step (by repeat (first | (with_reducible first | exact HB.out | apply below_alloc | apply pw_below_drewN | apply below_drew1) | exact HB.out)) hb)
                clear HB
                have HB := n0_
                clear n0_
                (try clear hb)
                (try clear hb2)
                (try clear hk)
                (try clear hi)
                refine hK.out _ _ ⟨((HB.out.cell (World.block_lt_of_cell? w _ hw205_0)).trans hw205_0), ((HB.out.cell (World.block_lt_of_cell? w _ hw205_1)).trans hw205_1), ((HB.out.cell (World.block_lt_of_cell? w _ hw206_0)).trans hw206_0), ((HB.out.cell (World.block_lt_of_cell? w _ hw206_1)).trans hw206_1)⟩ (fun hHeld => ?_)
                clear hK K
                refine norm_ (a' := ?_) ?_ ?_
                rotate_left
                · show Act.put _ (some 25) _ = _
                  simp only [Act.put, List.setIfInBounds_toArray, List.set_cons_zero, List.set_cons_succ, i64_w, i32_w]
                  rfl
                refine pure_ (i := 9) (N := some 26) (v := ?_) (a' := ?_) #[true, true, true, true, true, true, true, true, true, true] rfl rfl (any_of HT_.out (by kernel_rfl)) (fun _ _ _ h => h) (Or.inl ⟨by rfl, ?_⟩) ?_ ?_
                rotate_left
                · intro w'
                  go_simp
                  with_reducible rfl
                rotate_left
                · simp only [Act.put, List.setIfInBounds_toArray, List.set_cons_zero, List.set_cons_succ, i64_w, i32_w]
                  rfl
                refine done_ (done_of HT_.out (by kernel_rfl)) ?_
                try go_wp2
                go_ret
                exact ⟨by first | rfl | (simp [errW_none, errW_some] <;> rfl) | (simp [*, errW_none, errW_some] <;> rfl), by repeat (first | (with_reducible first | exact HB.out | apply below_alloc | apply pw_below_drewN | apply below_drew1) | exact HB.out)⟩
            · rw [if_neg c6] at H
              exact absurd H (by simp)
          · rw [if_neg c5] at H
            exact absurd H (by simp)
        · rw [if_neg c4] at H
          have c4b0 : decide (x5_1 < (l0.length : Int)) = false := decide_eq_false c4
          clear c4
          obtain rfl := Option.some.inj H
          go_wp2
          go_ret
          exact ⟨by first | rfl | (simp [errW_none, errW_some] <;> rfl) | (simp [*, errW_none, errW_some] <;> rfl), by repeat (first | (with_reducible first | exact HB.out | apply below_alloc | apply pw_below_drewN | apply below_drew1) | exact HB.out)⟩
  · rw [if_neg c3] at H
    have c3b0 : ((l0.length : Int) == (l1.length : Int)) = false := beq_eq_false_iff_ne.mpr c3
    have c3b1 : ((l0.length : Int) != (l1.length : Int)) = true := bne_iff_ne.mpr c3
    have c3b2 : (l0.length == l1.length) = false := by first | simpa using c3 | (simp at c3 ⊢; omega)
    obtain rfl := Option.some.inj H
    go_enter Try.func53, Try.ntmps53
    go_wp2
    go_ret
    exact ⟨by first | rfl | (simp [errW_none, errW_some] <;> rfl) | (simp [*, errW_none, errW_some] <;> rfl), by repeat (first | (with_reducible first | exact HB.out | apply below_alloc | apply pw_below_drewN | apply below_drew1) | exact HB.out)⟩
end Go.Proofs.Ythplndalbfcbbaa.PA
set_option linter.unusedSimpArgs false
set_option linter.unusedVariables false
namespace Go.Proofs.Ythplndalbfcbbaa
open Go.RowKit Go.Proofs.YthplndalbfcbbaaW.PrintWords
theorem ofS_mk (t : Tm) : ofS ⟨t.h, toSL t.args⟩ = t := by cases t; simp only [ofS, Tm.h, Tm.args, ofSL_toSL]
theorem wrap_next {i : Int} (h0 : 0 ≤ i) (h1 : i ≤ 9223372036854775806) : wrap64 (i + 1) = i + 1 := by unfold wrap64; omega
theorem rd_nat (l : List Int) (i : Nat) (h : i < l.length) : rd l (i : Int) = l[i] := by simp [rd, h]
theorem rdT_nat (l : List Tm) (i : Nat) (h : i < l.length) : PA.rd_T25 (toSL l) (i : Int) = toS l[i] := by simp [PA.rd_T25, toSL_map, h]
theorem same_pure {p t : Tm} (hp : p.size ≤ 1000000000) (ht : t.size ≤ 1000000000) : PA.elenchusref01_Same.f p.h (toSL p.args) t.h (toSL t.args) = some (sameB p t) := by
  unfold PA.elenchusref01_Same.f
  rw [ofS_mk, ofS_mk, if_pos ⟨hp, ht⟩]
theorem tsame_pure {p t : Tm} (hp : p.size ≤ 1000000000) : PA.term_Same.f p.h (toSL p.args) t.h (toSL t.args) = some (sameB p t) := by
  unfold PA.term_Same.f
  rw [ofS_mk, ofS_mk, if_pos hp]
end Go.Proofs.Ythplndalbfcbbaa
set_option linter.unusedSimpArgs false
set_option linter.unusedVariables false
namespace Go.Proofs.Ythplndalbfcbbaa
open Go.RowKit Go.Proofs.YthplndalbfcbbaaW.PrintWords
def Ev {α : Type} (f : Nat → Option α) (r : α) : Prop := ∃ k0, ∀ k, k0 ≤ k → f k = some r
theorem Ev.step {α : Type} {f g : Nat → Option α} {r : α} (h : Ev f r) (e : ∀ k, g (k + 1) = f k) : Ev g r := by
  obtain ⟨k0, h⟩ := h
  refine ⟨k0 + 1, fun k hk => ?_⟩
  obtain ⟨k, rfl⟩ : ∃ m, k = m + 1 := ⟨k - 1, by omega⟩
  rw [e, h k (by omega)]
theorem Ev.const {α : Type} {r : α} : Ev (fun _ => some r) r := ⟨0, fun _ _ => rfl⟩
theorem Ev.bind {α β : Type} {f : Nat → Option α} {g : Nat → α → Option β} {a : α} {r : β} (h : Ev f a) (k : Ev (fun n => g n a) r) : Ev (fun n => (f n).bind (g n)) r := by
  obtain ⟨k1, h⟩ := h
  obtain ⟨k2, k⟩ := k
  exact ⟨max k1 k2, fun n hn => by simp only [h n (by omega), Option.bind_some, k n (by omega)]⟩
theorem step_fold (v : Int) : ∀ (L acc : List Int), v ∈ L → v ∈ L.foldl numStep acc
  | [], _, h => by simp at h
  | x :: L, acc, h => by
    rw [List.foldl_cons]
    have hm : ∀ (L acc : List Int), v ∈ acc → v ∈ L.foldl numStep acc := by
      intro L
      induction L with
      | nil => intro acc h; exact h
      | cons y L ih => intro acc h; exact ih _ (mem_numStep.2 (.inl h))
    rcases List.mem_cons.1 h with rfl | h
    · exact hm L _ (mem_step _ _)
    · exact step_fold v L _ h
theorem fold_vstep : ∀ (hs L acc : List Int), (hs.foldl vstep L).foldl numStep acc = hs.foldl vstep (L.foldl numStep acc)
  | [], _, _ => rfl
  | h :: hs, L, acc => by
    rw [List.foldl_cons, List.foldl_cons, fold_vstep hs]
    congr 1
    unfold vstep
    by_cases hc : h < 0
    · by_cases hm : (-1 - h) ∈ L
      · rw [if_neg (fun e => e.2 hm), if_neg (fun e => e.2 (step_fold _ _ _ hm))]
      · rw [if_pos ⟨hc, hm⟩, List.foldl_append]
        simp only [List.foldl_cons, List.foldl_nil, numStep]
        by_cases h2 : (-1 - h) ∈ L.foldl numStep acc
        · rw [if_pos h2, if_neg (fun e => e.2 h2)]
        · rw [if_neg h2, if_pos ⟨hc, h2⟩]
    · rw [if_neg (fun e => hc e.1), if_neg (fun e => hc e.1)]
theorem fold_num {t : Tm} (hg : t.good = true) (acc : List Int) : (numT [] t).foldl numStep acc = numT acc t := by
  rw [num_heads t [] hg, num_heads t acc hg, fold_vstep]; rfl
theorem numT_length {t : Tm} (hg : t.good = true) (ns : List Int) : (numT ns t).length ≤ ns.length + t.size := by
  rw [num_heads t ns hg, ← heads_length]
  have : ∀ (hs L : List Int), (hs.foldl vstep L).length ≤ L.length + hs.length := by
    intro hs
    induction hs with
    | nil => intro L; simp
    | cons h hs ih =>
      intro L
      have h2 : (vstep L h).length ≤ L.length + 1 := by unfold vstep; split <;> simp
      have := ih (vstep L h)
      simp only [List.foldl_cons, List.length_cons]; omega
  exact this _ _
theorem foldl_drop (vs : List Int) (j : Nat) (h : j < vs.length) (acc : List Int) : (vs.drop j).foldl numStep acc = (vs.drop (j + 1)).foldl numStep (numStep acc vs[j]) := by
  rw [List.drop_eq_getElem_cons h, List.foldl_cons]
theorem sizes_drop (l : List Tm) (i : Nat) (h : i < l.length) : Tm.sizes (l.drop i) = l[i].size + Tm.sizes (l.drop (i + 1)) := by
  rw [List.drop_eq_getElem_cons h, Tm.sizes]
theorem numL_drop (l : List Tm) (i : Nat) (h : i < l.length) (acc : List Int) : numL acc (l.drop i) = numL (numT acc l[i]) (l.drop (i + 1)) := by
  rw [List.drop_eq_getElem_cons h, numL]
theorem vars_l1 {h : Int} {l : List Tm} {i : Nat} {vs : List Int} (hvs : vs.length ≤ 1000000000) (hi : i ≤ 1000000000) {r : List Int} :
    ∀ (d j : Nat) (acc : List Int), j + d = vs.length → acc.length + d ≤ 3000000000 → Ev (fun k => PA.elenchusref01_Vars.l0 k ((vs.drop j).foldl numStep acc) ((i + 1 : Nat) : Int) h (toSL l)) r → Ev (fun k => PA.elenchusref01_Vars.l1 k acc (i : Int) vs (j : Int) h (toSL l)) r
  | 0, j, acc, hj, ha, hr => by
    rw [List.drop_eq_nil_of_le (by omega), List.foldl_nil] at hr
    refine hr.step fun k => ?_
    simp only [PA.elenchusref01_Vars.l1]
    rw [if_neg (by omega), wrap_next (by omega) (by omega)]; rfl
  | d + 1, j, acc, hj, ha, hr => by
    have hlt : j < vs.length := by omega
    rw [foldl_drop vs j hlt] at hr
    have h1 : (numStep acc vs[j]).length + d ≤ 3000000000 := by
      have : (numStep acc vs[j]).length ≤ acc.length + 1 := by unfold numStep; split <;> simp
      omega
    refine (vars_l1 hvs hi d (j + 1) (numStep acc vs[j]) (by omega) h1 hr).step fun k => ?_
    rw [PA.elenchusref01_Vars.l1, if_pos (by omega), if_pos (by omega), rd_nat vs j hlt, wrap_next (by omega) (by omega)]
    simp only [PA.elenchusref01_In.f, Option.bind_some]
    by_cases hm : vs[j] ∈ acc
    · rw [if_pos (hasB_iff.2 hm), show numStep acc vs[j] = acc by simp [numStep, hm]]; rfl
    · rw [if_neg (fun e => hm (hasB_iff.1 e)), if_pos (by omega), show numStep acc vs[j] = acc ++ [vs[j]] by simp [numStep, hm]]; rfl
theorem vars_l0 (n0 : Nat) (ih : ∀ t : Tm, t.size ≤ n0 → t.good = true → Ev (fun k => PA.elenchusref01_Vars.f k t.h (toSL t.args)) (numT [] t)) {h : Int} {l : List Tm} (hl : l.length ≤ 1000000000) (hk : ∀ t, t ∈ l → t.size ≤ n0 ∧ t.size ≤ 1000000000 ∧ t.good = true) :
    ∀ (d i : Nat) (acc : List Int), i + d = l.length → acc.length + Tm.sizes (l.drop i) ≤ 1000000000 → Ev (fun k => PA.elenchusref01_Vars.l0 k acc (i : Int) h (toSL l)) (numL acc (l.drop i))
  | 0, i, acc, hi, ha => by
    rw [List.drop_eq_nil_of_le (by omega), numL]
    refine Ev.const.step fun k => ?_
    simp only [PA.elenchusref01_Vars.l0]
    rw [if_neg (by rw [toSL_length]; omega)]
  | d + 1, i, acc, hi, ha => by
    have hlt : i < l.length := by omega
    obtain ⟨g1, g2, g3⟩ := hk l[i] (List.getElem_mem hlt)
    rw [sizes_drop l i hlt] at ha
    have hv := numT_length g3 []
    have hv2 := numT_length g3 acc
    simp only [List.length_nil] at hv
    have hrec := vars_l0 n0 ih (h := h) hl hk d (i + 1) (numT acc l[i]) (by omega) (by omega)
    rw [← numL_drop l i hlt, ← fold_num g3] at hrec
    have hl1 := vars_l1 (h := h) (l := l) (i := i) (vs := numT [] l[i]) (by omega) (by omega) (numT [] l[i]).length 0 acc (by omega) (by omega) (by rw [List.drop_zero]; exact hrec)
    refine ((ih l[i] g1 g3).bind (g := fun k v => PA.elenchusref01_Vars.l1 k acc (i : Int) v ((0 : Nat) : Int) h (toSL l)) hl1).step fun k => ?_
    rw [PA.elenchusref01_Vars.l0, if_pos (by rw [toSL_length]; omega), if_pos (by omega), rdT_nat l i hlt, toS_f0, toS_f1]; rfl
theorem vars_f (n0 : Nat) : ∀ (t : Tm), t.size ≤ n0 → n0 ≤ 1000000000 → t.good = true → Ev (fun k => PA.elenchusref01_Vars.f k t.h (toSL t.args)) (numT [] t) := by
  induction n0 with
  | zero => intro t ht; have := t.size_eq; omega
  | succ n0 ih =>
    intro t ht hn hg
    obtain ⟨hh, hl8, hkids⟩ := good_args hg
    have hsz := t.size_eq
    have h0 := vars_l0 n0 (fun t h1 h2 => ih t h1 (by omega) h2) (h := t.h) (l := t.args) (by omega) (fun u hu => by
      obtain ⟨i, hi, rfl⟩ := List.getElem_of_mem hu
      have := Tm.size_get t.args i hi
      exact ⟨by omega, by omega, hkids i hi⟩)
    have hj : ∀ acc : List Int, acc.length ≤ 1 → Ev (fun k => PA.elenchusref01_Vars.j0 k acc t.h (toSL t.args)) (numL acc t.args) := fun acc ha => by
      have := h0 t.args.length 0 acc (by omega) (by rw [List.drop_zero]; omega)
      rw [List.drop_zero] at this
      exact this.step fun k => by rw [PA.elenchusref01_Vars.j0]; rfl
    by_cases hneg : t.h < 0
    · have ha : t.args = [] := by cases t; exact good_var hg hneg
      have hr : numT [] t = numL [-1 - t.h] t.args := by rw [(renT_neg [] t hneg).2, ha]; simp [numStep, numL]
      rw [hr]
      refine (hj [-1 - t.h] (by simp)).step fun k => ?_
      rw [PA.elenchusref01_Vars.f, if_pos hneg, if_pos (by simp)]
      have : wrap64 (-1 - t.h) = -1 - t.h := by unfold wrap64; omega
      rw [this]; rfl
    · rw [(renT_pos [] t hneg).2]
      refine (hj [] (by simp)).step fun k => ?_
      rw [PA.elenchusref01_Vars.f, if_neg hneg]
theorem vars_list (l : List Tm) (hs : Tm.sizes l ≤ 1000000) (hg : Tm.goods l = true) : Ev (fun k => PA.elenchusref01_Vars.f k 0 (toSL l)) (numL [] l) := by
  have h0 := vars_l0 1000000 (fun t h1 h2 => vars_f 1000000 t h1 (by omega) h2) (h := 0) (l := l) (by have := Tm.sizes_length l; omega) (fun u hu => by
      obtain ⟨i, hi, rfl⟩ := List.getElem_of_mem hu
      have := Tm.size_get l i hi
      exact ⟨by omega, by omega, goods_get hg i hi⟩) l.length 0 [] (by omega) (by rw [List.drop_zero]; simp; omega)
  rw [List.drop_zero] at h0
  refine (h0.step (g := fun k => PA.elenchusref01_Vars.j0 k [] 0 (toSL l)) fun k => by rw [PA.elenchusref01_Vars.j0]; rfl).step fun k => ?_
  rw [PA.elenchusref01_Vars.f, if_neg (by omega)]
theorem norm_l0 (l : List Tm) (s : List Bd) (hl : l.length ≤ 1000000) (hg : Tm.goods l = true) : ∀ (d i : Nat), i + d = l.length → Ev (fun k => PA.elenchusref05_Norm.l0 k (toSL l) (toBL s) (toSL (putL s (l.take i))) (i : Int)) (toSL (putL s l), (0 : Int))
  | 0, i, hi => by
    rw [List.take_of_length_le (by omega)]
    refine Ev.const.step fun k => ?_
    rw [PA.elenchusref05_Norm.l0, if_neg (by rw [toSL_length]; omega)]
  | d + 1, i, hi => by
    have hlt : i < l.length := by omega
    have hrec := norm_l0 l s hl hg d (i + 1) (by omega)
    refine hrec.step fun k => ?_
    have hput : PA.elenchusref03_Put.f (toBL s) l[i].h (toSL l[i].args) = some ((putT s l[i]).h, toSL (putT s l[i]).args) := by
      unfold PA.elenchusref03_Put.f
      rw [ofS_mk, ofBL_toBL, if_pos (goods_get hg i hlt)]
    rw [PA.elenchusref05_Norm.l0, if_pos (by rw [toSL_length]; omega), if_pos (by omega), rdT_nat l i hlt, toS_f0, toS_f1, hput]
    simp only [Option.bind_some]
    rw [if_pos (by rw [toSL_length, putL_map, List.length_map, List.length_take]; omega), wrap_next (by omega) (by omega)]
    have e : toSL (putL s (l.take i)) ++ [⟨(putT s l[i]).h, toSL (putT s l[i]).args⟩] = toSL (putL s (l.take (i + 1))) := by
      rw [putL_map, putL_map, List.take_succ_eq_append_getElem hlt, List.map_append, toSL_map (_ ++ _), List.map_append, ← toSL_map]
      congr 1
      simp only [List.map_cons, List.map_nil]
      cases putT s l[i]; rfl
    rw [e]; rfl
theorem terms_l0 (l : List Tm) (hs : Tm.sizes l ≤ 1000000) : ∀ (d i : Nat), i + d = l.length → Ev (fun k => PA.elenchusref01_Terms.l0 k (toSL l) (toSL l) (i : Int)) true
  | 0, i, hi => by
    refine Ev.const.step fun k => ?_
    rw [PA.elenchusref01_Terms.l0, if_neg (by rw [toSL_length]; omega)]
  | d + 1, i, hi => by
    have hlt : i < l.length := by omega
    have hll := Tm.sizes_length l
    have hsz := Tm.size_get l i hlt
    refine (terms_l0 l hs d (i + 1) (by omega)).step fun k => ?_
    rw [PA.elenchusref01_Terms.l0, if_pos (by rw [toSL_length]; omega), if_pos (by omega), if_pos (by rw [toSL_length]; omega), rdT_nat l i hlt, toS_f0, toS_f1, same_pure (by omega) (by omega), sameB_self]
    simp only [Option.bind_some, if_true]
    rw [wrap_next (by omega) (by omega)]; rfl
theorem ref_terms (l : List Tm) (hs : Tm.sizes l ≤ 1000000) : Ev (fun k => PA.elenchusref01_Terms.f k (toSL l) (toSL l)) true := by
  unfold PA.elenchusref01_Terms.f
  simp only [if_true]
  exact terms_l0 l hs l.length 0 (by omega)
theorem norm_pure {l : List Tm} (hs : Tm.sizes l ≤ 1000000000) : PA.match_Norm.f (toSL l) = some (toSL (normT l).1, (normT l).2) := by
  unfold PA.match_Norm.f
  rw [ofSL_toSL, if_pos hs]
theorem one_list (t : Tm) : [(⟨t.h, toSL t.args⟩ : TS)] = toSL [t] := by cases t; simp [toSL, toS, Tm.h, Tm.args]
theorem variant_pure (a b : Tm) (ha : a.size ≤ 1000000) (hb : b.size ≤ 1000000) : PA.match_Variant.f a.h (toSL a.args) b.h (toSL b.args) = some (if rightB a = true ∧ rightB b = true then (sameB (renT [] a) (renT [] b), (0 : Int)) else (false, 1)) := by
  unfold PA.match_Variant.f
  have e2 : [(⟨a.h, toSL a.args⟩ : TS), ⟨b.h, toSL b.args⟩] = toSL [a, b] := by cases a; cases b; simp [toSL, toS, Tm.h, Tm.args]
  have sa : Tm.sizes [a] = a.size := by simp [Tm.sizes]
  have sb : Tm.sizes [b] = b.size := by simp [Tm.sizes]
  have hw : PA.match_wrong.f (toSL [a, b]) = some (!(rightB a && rightB b)) := by
    unfold PA.match_wrong.f
    rw [ofSL_toSL, if_pos (by simp only [Tm.sizes]; omega)]; simp
  rw [e2, one_list a, one_list b, hw, norm_pure (by omega), norm_pure (by omega)]
  simp only [Option.bind_some]
  by_cases h : rightB a = true ∧ rightB b = true
  · have na : normT [a] = ([renT [] a], 0) := by unfold normT; rw [if_pos (by simpa using h.1)]; simp [renL]
    have nb : normT [b] = ([renT [] b], 0) := by unfold normT; rw [if_pos (by simpa using h.2)]; simp [renL]
    rw [if_pos h, na, nb, h.1, h.2]
    have r1 := rdT_nat [renT [] a] 0 (by simp)
    have r2 := rdT_nat [renT [] b] 0 (by simp)
    simp only [List.getElem_cons_zero] at r1 r2
    have z1 := renT_size a []
    have hs := tsame_pure (p := renT [] a) (t := renT [] b) (by omega)
    simp only [Bool.and_self, Bool.not_true, Bool.false_eq_true, if_false]
    rw [if_pos (by rw [toSL_length]; simp), if_pos (by rw [toSL_length]; simp)]
    have r1' : PA.rd_T25 (toSL [renT [] a]) 0 = toS (renT [] a) := r1
    have r2' : PA.rd_T25 (toSL [renT [] b]) 0 = toS (renT [] b) := r2
    rw [r1', r2', toS_f0, toS_f1, toS_f0, toS_f1, hs]; rfl
  · rw [if_neg h]
    have : (rightB a && rightB b) = false := by
      rw [Bool.eq_false_iff]; intro e; exact h (by simpa using e)
    rw [this]; rfl
end Go.Proofs.Ythplndalbfcbbaa
set_option linter.unusedSimpArgs false
set_option linter.unusedVariables false
namespace Go.Proofs.Ythplndalbfcbbaa
open Go.RowKit Go.Proofs.YthplndalbfcbbaaW.PrintWords
theorem upto_len (k : Nat) : (upto k).length = k := by simp [upto]
theorem posN_upto : ∀ (n p : Nat), p < n → posN (p : Int) (upto n) = p
  | 0, p, h => by omega
  | n + 1, p, h => by
    rw [upto_succ]
    by_cases hp : p < n
    · rw [posN_append _ (mem_upto.2 ⟨by omega, by omega⟩), posN_upto n p hp]
    · obtain rfl : p = n := by omega
      rw [posN_new (fun h => by have := (mem_upto.1 h).2; omega), upto_len]
theorem step_upto {ns : List Int} {v : Int} : numStep (upto ns.length) (posN v (numStep ns v) : Int) = upto (numStep ns v).length ∧ posN (posN v (numStep ns v) : Int) (numStep (upto ns.length) (posN v (numStep ns v) : Int)) = posN v (numStep ns v) := by
  have hs : numStep (upto ns.length) (posN v (numStep ns v) : Int) = upto (numStep ns v).length := by
    by_cases hv : v ∈ ns
    · have e : numStep ns v = ns := by simp [numStep, hv]
      rw [e]
      unfold numStep
      rw [if_pos (mem_upto.2 ⟨by omega, by have := posN_lt hv; omega⟩)]
    · have e : numStep ns v = ns ++ [v] := by simp [numStep, hv]
      rw [e, posN_new hv]
      unfold numStep
      rw [if_neg (fun h => by have := (mem_upto.1 h).2; omega), List.length_append, List.length_singleton, upto_succ]
  exact ⟨hs, by rw [hs, posN_upto _ _ (posN_lt (mem_step _ _))]⟩
mutual
theorem ren_ren : ∀ (t : Tm) (ns : List Int), renT (upto ns.length) (renT ns t) = renT ns t ∧ numT (upto ns.length) (renT ns t) = upto (numT ns t).length
  | .node h l, ns => by
    by_cases hn : h < 0
    · simp only [renT, numT, if_pos hn]
      have hneg : -1 - (posN (-1 - h) (numStep ns (-1 - h)) : Int) < 0 := by omega
      have he : -1 - (-1 - (posN (-1 - h) (numStep ns (-1 - h)) : Int)) = (posN (-1 - h) (numStep ns (-1 - h)) : Int) := by omega
      obtain ⟨s1, s2⟩ := step_upto (ns := ns) (v := -1 - h)
      rw [if_pos hneg, if_pos hneg, he, s2, s1]
      exact ⟨rfl, rfl⟩
    · simp only [renT, numT, if_neg hn]
      obtain ⟨h1, h2⟩ := ren_renL l ns
      exact ⟨by rw [h1], h2⟩
theorem ren_renL : ∀ (l : List Tm) (ns : List Int), renL (upto ns.length) (renL ns l) = renL ns l ∧ numL (upto ns.length) (renL ns l) = upto (numL ns l).length
  | [], ns => by simp [renL, numL]
  | t :: ts, ns => by
    obtain ⟨h1, h2⟩ := ren_ren t ns
    obtain ⟨h3, h4⟩ := ren_renL ts (numT ns t)
    simp only [renL, numL, h1, h2, h3, h4]
    exact ⟨trivial, trivial⟩
end
theorem ren_idem (t : Tm) : renT [] (renT [] t) = renT [] t := (ren_ren t []).1
mutual
theorem ren_depth : ∀ (t : Tm) (ns : List Int), (renT ns t).depth ≤ t.depth
  | .node h l, ns => by
    simp only [renT]
    split
    · simp only [Tm.depth, Tm.depths]; omega
    · simp only [Tm.depth]
      have := ren_depths l ns; omega
theorem ren_depths : ∀ (l : List Tm) (ns : List Int), Tm.depths (renL ns l) ≤ Tm.depths l
  | [], _ => by simp [renL]
  | t :: ts, ns => by
    simp only [renL, Tm.depths]
    have := ren_depth t ns
    have := ren_depths ts (numT ns t)
    omega
end
mutual
theorem ren_good : ∀ (t : Tm) (ns : List Int), t.good = true → (numT ns t).length ≤ 256 → (renT ns t).good = true
  | .node h l, ns, hg, hl => by
    by_cases hn : h < 0
    · simp only [numT, if_pos hn] at hl
      simp only [renT, if_pos hn]
      have := posN_lt (mem_step ns (-1 - h))
      exact good_varT (v := (posN (-1 - h) (numStep ns (-1 - h)) : Int)) (by omega) (by omega)
    · simp only [numT, if_neg hn] at hl
      simp only [renT, if_neg hn]
      simp only [Tm.good, Bool.and_eq_true] at hg ⊢
      refine ⟨?_, ren_goods l ns hg.2 hl⟩
      have h1 := hg.1
      simp only [okP, Tm.h, Tm.args, renL_length] at h1 ⊢
      exact h1
theorem ren_goods : ∀ (l : List Tm) (ns : List Int), Tm.goods l = true → (numL ns l).length ≤ 256 → Tm.goods (renL ns l) = true
  | [], _, _, _ => rfl
  | t :: ts, ns, hg, hl => by
    simp only [Tm.goods, Bool.and_eq_true] at hg
    simp only [renL, Tm.goods, Bool.and_eq_true]
    obtain ⟨q, hq⟩ := numL_pre ts (numT ns t)
    simp only [numL] at hl
    have hl2 := hl
    rw [hq, List.length_append] at hl2
    exact ⟨ren_good t ns hg.1 (by omega), ren_goods ts _ hg.2 hl⟩
end
theorem numT_range : ∀ {t : Tm}, t.good = true → ∀ v, v ∈ numT [] t → 0 ≤ v ∧ v ≤ 255 := fun {t} hg v hv => by
  rw [num_heads t [] hg] at hv
  exact occ_range hg (occ_iff.2 hv)
theorem ren_right {t : Tm} (h : rightB t = true) : rightB (renT [] t) = true := by
  have hg := chk_good h
  have h0 := rightB_chk.1 h
  rw [rightB_chk]
  have hs := renT_size t []
  have hd := ren_depth t []
  have hl : (numT [] t).length ≤ 256 := pigeon 256 _ (List.nodup_iff_pairwise_ne.2 (List.nodup_iff_pairwise_ne.1 (numT_nodup t [] (by simp)))) fun x hx => by have := numT_range hg x hx; omega
  have hgr := ren_good t [] hg hl
  unfold chk at h0 ⊢
  rw [if_pos hgr]
  split at h0
  · cases h0
  · split at h0
    · cases h0
    · rw [if_neg (by omega), if_neg (by omega)]
def variantT (a b : Tm) : Bool × Int := if rightB a = true ∧ rightB b = true then (sameB (renT [] a) (renT [] b), 0) else (false, 1)
theorem variant_calls (a b : Tm) (h1 h2 : Int) (s1 s2 : Value) (w : World) (ha9 : a.size ≤ 1000000) (hb9 : b.size ≤ 1000000) (ha : IsTm (fun _ => False) w h1 s1 a) (hb : IsTm (fun _ => False) w h2 s2 b) :
    Calls Try.prog 49 #[.agg #[.int .i64 h1, s1], .agg #[.int .i64 h2, s2]] w fun e w' => e = .returned (.tuple #[.bool (variantT a b).1, .int .i64 (variantT a b).2]) ∧ Below w.heap.size w w' := by
  obtain ⟨rfl, a1, c1, rfl, -, -⟩ := ha.shape
  obtain ⟨rfl, a2, c2, rfl, -, -⟩ := hb.shape
  obtain ⟨e1, -, -⟩ := c_of ha.2
  obtain ⟨e2, -, -⟩ := c_of hb.2
  have v1 := v_of (ok := fun _ => True) (base := w.heap.size) (e := 25) ha.2 (fun _ _ _ => trivial)
  have v2 := v_of (ok := fun _ => True) (base := w.heap.size) (e := 25) hb.2 (fun _ _ _ => trivial)
  rw [e1] at v1 ⊢
  rw [e2] at v2 ⊢
  exact PA.match_Variant.calls a.h (fun _ => True) a1 c1 (toSL a.args) b.h (fun _ => True) a2 c2 (toSL b.args) (variantT a b).1 (variantT a b).2 w v1 v2 (by rw [variant_pure a b ha9 hb9]; rfl)
theorem refterms_calls (l : List Tm) (s1 s2 : Value) (w : World) (hl : Tm.sizes l ≤ 1000000) (h1 : Terms (fun _ => False) w s1 l) (h2 : Terms (fun _ => False) w s2 l) :
    Calls Try.prog 53 #[s1, s2] w fun e w' => e = .returned (.bool true) ∧ Below w.heap.size w w' := by
  obtain ⟨a1, c1, rfl, -, -⟩ := h1.shape
  obtain ⟨a2, c2, rfl, -, -⟩ := h2.shape
  obtain ⟨e1, g1, k1⟩ := c_of h1
  obtain ⟨e2, g2, k2⟩ := c_of h2
  obtain ⟨k0, hk⟩ := ref_terms l hl
  have := PA.elenchusref01_Terms.calls k0 a1 c1 (toSL l) a2 c2 (toSL l) true w k1 g1 k2 g2 (hk k0 (Nat.le_refl _))
  rw [← e1] at this
  exact this
end Go.Proofs.Ythplndalbfcbbaa
set_option linter.unusedSimpArgs false
set_option linter.unusedVariables false
namespace Go.Proofs.Ythplndalbfcbbaa
open Go.RowKit
theorem norm1_calls (t : Tm) (r : Bool) (h : Int) (s : Value) (b : Nat) (w : World) (hr : rightB t = r) (h9 : t.size ≤ 1000000000) (hb : w.heap[b]? = some (.cells #[.int .i64 t.h, s] 25 (0, 0))) (ht : Terms (fun _ => False) w s t.args) :
    Calls Try.prog 51 #[.slice (some ⟨b, 0, none⟩) 1 1] w fun e w' => (∃ v, e = .returned (.tuple #[v, .int .i64 (if r then 0 else 1)]) ∧ Terms (fun _ => False) w' v (if r then [renT [] t] else [])) ∧ Below w.heap.size w w' := by
  have hsz : Tm.sizes [t] = t.size := by simp [Tm.sizes]
  refine (norm_calls (fun _ => False) (fun _ => False) [t] _ w (by omega) (fun _ h => h.elim) (terms1 hb id ht)).mono ?_
  have e : normT [t] = (if r then [renT [] t] else [], if r then 0 else 1) := by
    unfold normT
    cases r
    · rw [if_neg (by simp [hr])]; rfl
    · rw [if_pos (by simp [hr])]; simp [renL]
  rw [e]
  rintro e w' ⟨v, rfl, h1, h2⟩
  exact ⟨⟨v, rfl, h1⟩, h2⟩
set_option maxHeartbeats 8000000 in
set_option maxRecDepth 100000 in
theorem variants_calls (a b : Tm) (h1 h2 : Int) (s1 s2 : Value) (w : World) (ha : IsTm (fun _ => False) w h1 s1 a) (hb : IsTm (fun _ => False) w h2 s2 b) :
    Calls Try.prog 11 #[.agg #[.int .i64 h1, s1], .agg #[.int .i64 h2, s2]] w fun e w' => e = .returned (.bool true) ∧ Below w.heap.size w w' := by
  obtain ⟨rfl, a1, c1, rfl, -, -⟩ := ha.shape
  obtain ⟨rfl, a2, c2, rfl, -, -⟩ := hb.shape
  go_enter Try.func11, Try.ntmps11
  go_wp2_with fail
  have bV : Below w.heap.size w ((w.alloc (.cells #[.int .i64 a.h, .slice a1 a.args.length c1] 25)).alloc (.cells #[.int .i64 b.h, .slice a2 b.args.length c2] 25)) := (((Below.refl _ _).alloc (Nat.le_refl _) _).alloc (by simp only [World.size_alloc]; omega) _)
  have m0 : ((w.alloc (.cells #[.int .i64 a.h, .slice a1 a.args.length c1] 25)).alloc (.cells #[.int .i64 b.h, .slice a2 b.args.length c2] 25)).heap[w.heap.size]? = some (.cells #[.int .i64 a.h, .slice a1 a.args.length c1] 25 (0, 0)) := by
    have h := World.alloc_heap_new w (.cells #[.int .i64 a.h, .slice a1 a.args.length c1] 25)
    try simp only [World.size_alloc] at h
    have h := (Below.heap_alloc (w.alloc (.cells #[.int .i64 a.h, .slice a1 a.args.length c1] 25)) (.cells #[.int .i64 b.h, .slice a2 b.args.length c2] 25) (w.heap.size) (by simp only [World.size_alloc]; omega)).trans h
    exact h
  have m1 : ((w.alloc (.cells #[.int .i64 a.h, .slice a1 a.args.length c1] 25)).alloc (.cells #[.int .i64 b.h, .slice a2 b.args.length c2] 25)).heap[w.heap.size + 1]? = some (.cells #[.int .i64 b.h, .slice a2 b.args.length c2] 25 (0, 0)) := by
    have h := World.alloc_heap_new (w.alloc (.cells #[.int .i64 a.h, .slice a1 a.args.length c1] 25)) (.cells #[.int .i64 b.h, .slice a2 b.args.length c2] 25)
    try simp only [World.size_alloc] at h
    exact h
  generalize ((w.alloc (.cells #[.int .i64 a.h, .slice a1 a.args.length c1] 25)).alloc (.cells #[.int .i64 b.h, .slice a2 b.args.length c2] 25)) = V at *
  have g0 := Below.refl V.heap.size V
  have hS := hide (show ∀ W', Below V.heap.size V W' → W'.cell? ⟨w.heap.size, 0, none⟩ = some (.int .i64 a.h) ∧ W'.cell? ⟨w.heap.size, 1, none⟩ = some (.slice a1 a.args.length c1) ∧ W'.cell? ⟨w.heap.size + 1, 0, none⟩ = some (.int .i64 b.h) ∧ W'.cell? ⟨w.heap.size + 1, 1, none⟩ = some (.slice a2 b.args.length c2) from fun W' hW => by
    obtain ⟨-, z00, z01, -, -⟩ := box2 ((hW.block _ (Array.getElem?_eq_some_iff.1 m0).1).trans m0)
    obtain ⟨-, z10, z11, -, -⟩ := box2 ((hW.block _ (Array.getElem?_eq_some_iff.1 m1).1).trans m1)
    exact ⟨z00, z01, z10, z11⟩)
  clear m0 m1
  have ta := ha.below bV
  have tb := hb.below bV
  obtain ⟨z00, z01, z10, z11⟩ := hS.out _ g0
  refine (few1_calls a (fun _ => False) _ _ _ (ta.below g0)).mono ?_
  rintro e w1 ⟨rfl, h1⟩
  have g1 := more_below g0 h1
  clear h1 g0 z00 z01 z10 z11
  obtain ⟨z00, z01, z10, z11⟩ := hS.out _ g1
  cases hf1 : fewB a
  · have HF := hide hf1
    clear hf1
    go_wp2
    go_ret
    exact ⟨rfl, more_below bV g1⟩
  have F1 := hide (few_size hf1)
  clear hf1
  go_wp2_with fail
  refine (few1_calls b (fun _ => False) _ _ _ (tb.below g1)).mono ?_
  rintro e w2 ⟨rfl, h2⟩
  have g2 := more_below g1 h2
  clear h2 g1 z00 z01 z10 z11
  obtain ⟨z00, z01, z10, z11⟩ := hS.out _ g2
  cases hf2 : fewB b
  · have HF := hide hf2
    clear hf2
    go_wp2
    go_ret
    exact ⟨rfl, more_below bV g2⟩
  have F2 := hide (few_size hf2)
  clear hf2
  cases hra : rightB a
  · cases hrb : rightB b
    · have HV := hide (show variantT a b = (false, 1) by unfold variantT; rw [if_neg (by rw [hra, hrb]; simp)])
      have HRA := hide hra
      have HRB := hide hrb
      clear hra hrb
      go_wp2_with fail
      have hva := variant_calls a b _ _ _ _ _ (by have := F1.out; omega) (by have := F2.out; omega) (ta.below g2) (tb.below g2)
      rw [HV.out] at hva
      refine hva.mono ?_
      clear hva
      rintro e w3 ⟨rfl, h3⟩
      have g3 := more_below g2 h3
      clear h3 g2 z00 z01 z10 z11
      obtain ⟨z00, z01, z10, z11⟩ := hS.out _ g3
      go_wp2_with fail
      have q1 := World.alloc_heap_new w3 (.cells #[.int .i64 a.h, .slice a1 a.args.length c1] 25)
      have gq1 := g3.alloc g3.size (.cells #[.int .i64 a.h, .slice a1 a.args.length c1] 25)
      have hno := norm1_calls a false a.h _ _ _ HRA.out (by have := F1.out; omega) q1 (ta.2.below gq1)
      refine hno.mono ?_
      clear hno
      rintro e w4 ⟨⟨v1, rfl, hn1⟩, h4⟩
      have g4 := more_below gq1 h4
      clear h4 g3 gq1 q1 z00 z01 z10 z11
      simp only [if_true, Bool.false_eq_true, if_false] at hn1 ⊢
      obtain ⟨z00, z01, z10, z11⟩ := hS.out _ g4
      obtain ⟨ax1, cx1, rfl, -, -⟩ := hn1.shape
      simp only [List.length_cons, List.length_nil, Nat.zero_add] at hn1 ⊢
      go_wp2_with fail
      have q2 := World.alloc_heap_new w4 (.cells #[.int .i64 b.h, .slice a2 b.args.length c2] 25)
      have gq2 := g4.alloc g4.size (.cells #[.int .i64 b.h, .slice a2 b.args.length c2] 25)
      have hno := norm1_calls b false b.h _ _ _ HRB.out (by have := F2.out; omega) q2 (tb.2.below gq2)
      refine hno.mono ?_
      clear hno
      rintro e w5 ⟨⟨v2, rfl, hn2⟩, h5⟩
      have g5 := more_below gq2 h5
      have hn1 := (hn1.below ((Below.refl _ _).alloc (Nat.le_refl _) (.cells #[.int .i64 b.h, .slice a2 b.args.length c2] 25))).below h5
      clear h5 g4 gq2 q2 z00 z01 z10 z11
      simp only [if_true, Bool.false_eq_true, if_false] at hn2 ⊢
      obtain ⟨z00, z01, z10, z11⟩ := hS.out _ g5
      obtain ⟨ax2, cx2, rfl, -, -⟩ := hn2.shape
      simp only [List.length_cons, List.length_nil, Nat.zero_add] at hn2 ⊢
      go_wp2_with fail
      refine (awake5_calls _).mono ?_
      rintro e w6 ⟨rfl, h6⟩
      have g6 := more_below g5 h6
      clear h6 g5 z00 z01 z10 z11
      go_wp2
      go_ret
      exact ⟨rfl, more_below bV g6⟩
    · have HV := hide (show variantT a b = (false, 1) by unfold variantT; rw [if_neg (by rw [hra, hrb]; simp)])
      have HRA := hide hra
      have HRB := hide hrb
      clear hra hrb
      go_wp2_with fail
      have hva := variant_calls a b _ _ _ _ _ (by have := F1.out; omega) (by have := F2.out; omega) (ta.below g2) (tb.below g2)
      rw [HV.out] at hva
      refine hva.mono ?_
      clear hva
      rintro e w3 ⟨rfl, h3⟩
      have g3 := more_below g2 h3
      clear h3 g2 z00 z01 z10 z11
      obtain ⟨z00, z01, z10, z11⟩ := hS.out _ g3
      go_wp2_with fail
      have q1 := World.alloc_heap_new w3 (.cells #[.int .i64 a.h, .slice a1 a.args.length c1] 25)
      have gq1 := g3.alloc g3.size (.cells #[.int .i64 a.h, .slice a1 a.args.length c1] 25)
      have hno := norm1_calls a false a.h _ _ _ HRA.out (by have := F1.out; omega) q1 (ta.2.below gq1)
      refine hno.mono ?_
      clear hno
      rintro e w4 ⟨⟨v1, rfl, hn1⟩, h4⟩
      have g4 := more_below gq1 h4
      clear h4 g3 gq1 q1 z00 z01 z10 z11
      simp only [if_true, Bool.false_eq_true, if_false] at hn1 ⊢
      obtain ⟨z00, z01, z10, z11⟩ := hS.out _ g4
      obtain ⟨ax1, cx1, rfl, -, -⟩ := hn1.shape
      simp only [List.length_cons, List.length_nil, Nat.zero_add] at hn1 ⊢
      go_wp2_with fail
      have q2 := World.alloc_heap_new w4 (.cells #[.int .i64 b.h, .slice a2 b.args.length c2] 25)
      have gq2 := g4.alloc g4.size (.cells #[.int .i64 b.h, .slice a2 b.args.length c2] 25)
      have hno := norm1_calls b true b.h _ _ _ HRB.out (by have := F2.out; omega) q2 (tb.2.below gq2)
      refine hno.mono ?_
      clear hno
      rintro e w5 ⟨⟨v2, rfl, hn2⟩, h5⟩
      have g5 := more_below gq2 h5
      have hn1 := (hn1.below ((Below.refl _ _).alloc (Nat.le_refl _) (.cells #[.int .i64 b.h, .slice a2 b.args.length c2] 25))).below h5
      clear h5 g4 gq2 q2 z00 z01 z10 z11
      simp only [if_true, Bool.false_eq_true, if_false] at hn2 ⊢
      obtain ⟨z00, z01, z10, z11⟩ := hS.out _ g5
      obtain ⟨ax2, cx2, rfl, -, -⟩ := hn2.shape
      simp only [List.length_cons, List.length_nil, Nat.zero_add] at hn2 ⊢
      go_wp2_with fail
      refine (awake5_calls _).mono ?_
      rintro e w6 ⟨rfl, h6⟩
      have g6 := more_below g5 h6
      clear h6 g5 z00 z01 z10 z11
      go_wp2
      go_ret
      exact ⟨rfl, more_below bV g6⟩
  · cases hrb : rightB b
    · have HV := hide (show variantT a b = (false, 1) by unfold variantT; rw [if_neg (by rw [hra, hrb]; simp)])
      have HRA := hide hra
      have HRB := hide hrb
      clear hra hrb
      go_wp2_with fail
      have hva := variant_calls a b _ _ _ _ _ (by have := F1.out; omega) (by have := F2.out; omega) (ta.below g2) (tb.below g2)
      rw [HV.out] at hva
      refine hva.mono ?_
      clear hva
      rintro e w3 ⟨rfl, h3⟩
      have g3 := more_below g2 h3
      clear h3 g2 z00 z01 z10 z11
      obtain ⟨z00, z01, z10, z11⟩ := hS.out _ g3
      go_wp2_with fail
      have q1 := World.alloc_heap_new w3 (.cells #[.int .i64 a.h, .slice a1 a.args.length c1] 25)
      have gq1 := g3.alloc g3.size (.cells #[.int .i64 a.h, .slice a1 a.args.length c1] 25)
      have hno := norm1_calls a true a.h _ _ _ HRA.out (by have := F1.out; omega) q1 (ta.2.below gq1)
      refine hno.mono ?_
      clear hno
      rintro e w4 ⟨⟨v1, rfl, hn1⟩, h4⟩
      have g4 := more_below gq1 h4
      clear h4 g3 gq1 q1 z00 z01 z10 z11
      simp only [if_true, Bool.false_eq_true, if_false] at hn1 ⊢
      obtain ⟨z00, z01, z10, z11⟩ := hS.out _ g4
      obtain ⟨ax1, cx1, rfl, -, -⟩ := hn1.shape
      simp only [List.length_cons, List.length_nil, Nat.zero_add] at hn1 ⊢
      go_wp2_with fail
      have q2 := World.alloc_heap_new w4 (.cells #[.int .i64 b.h, .slice a2 b.args.length c2] 25)
      have gq2 := g4.alloc g4.size (.cells #[.int .i64 b.h, .slice a2 b.args.length c2] 25)
      have hno := norm1_calls b false b.h _ _ _ HRB.out (by have := F2.out; omega) q2 (tb.2.below gq2)
      refine hno.mono ?_
      clear hno
      rintro e w5 ⟨⟨v2, rfl, hn2⟩, h5⟩
      have g5 := more_below gq2 h5
      have hn1 := (hn1.below ((Below.refl _ _).alloc (Nat.le_refl _) (.cells #[.int .i64 b.h, .slice a2 b.args.length c2] 25))).below h5
      clear h5 g4 gq2 q2 z00 z01 z10 z11
      simp only [if_true, Bool.false_eq_true, if_false] at hn2 ⊢
      obtain ⟨z00, z01, z10, z11⟩ := hS.out _ g5
      obtain ⟨ax2, cx2, rfl, -, -⟩ := hn2.shape
      simp only [List.length_cons, List.length_nil, Nat.zero_add] at hn2 ⊢
      go_wp2_with fail
      refine (awake5_calls _).mono ?_
      rintro e w6 ⟨rfl, h6⟩
      have g6 := more_below g5 h6
      clear h6 g5 z00 z01 z10 z11
      go_wp2
      go_ret
      exact ⟨rfl, more_below bV g6⟩
    · have HV := hide (show variantT a b = (sameB (renT [] a) (renT [] b), 0) by unfold variantT; rw [if_pos ⟨hra, hrb⟩])
      have HRA := hide hra
      have HRB := hide hrb
      clear hra hrb
      go_wp2_with fail
      have hva := variant_calls a b _ _ _ _ _ (by have := F1.out; omega) (by have := F2.out; omega) (ta.below g2) (tb.below g2)
      rw [HV.out] at hva
      refine hva.mono ?_
      clear hva
      rintro e w3 ⟨rfl, h3⟩
      have g3 := more_below g2 h3
      clear h3 g2 z00 z01 z10 z11
      obtain ⟨z00, z01, z10, z11⟩ := hS.out _ g3
      generalize hvv : sameB (renT [] a) (renT [] b) = vv
      have HVV := hide hvv
      clear hvv
      go_wp2_with fail
      have q1 := World.alloc_heap_new w3 (.cells #[.int .i64 a.h, .slice a1 a.args.length c1] 25)
      have gq1 := g3.alloc g3.size (.cells #[.int .i64 a.h, .slice a1 a.args.length c1] 25)
      have hno := norm1_calls a true a.h _ _ _ HRA.out (by have := F1.out; omega) q1 (ta.2.below gq1)
      refine hno.mono ?_
      clear hno
      rintro e w4 ⟨⟨v1, rfl, hn1⟩, h4⟩
      have g4 := more_below gq1 h4
      clear h4 g3 gq1 q1 z00 z01 z10 z11
      simp only [if_true, Bool.false_eq_true, if_false] at hn1 ⊢
      obtain ⟨z00, z01, z10, z11⟩ := hS.out _ g4
      obtain ⟨ax1, cx1, rfl, -, -⟩ := hn1.shape
      simp only [List.length_cons, List.length_nil, Nat.zero_add] at hn1 ⊢
      go_wp2_with fail
      have q2 := World.alloc_heap_new w4 (.cells #[.int .i64 b.h, .slice a2 b.args.length c2] 25)
      have gq2 := g4.alloc g4.size (.cells #[.int .i64 b.h, .slice a2 b.args.length c2] 25)
      have hno := norm1_calls b true b.h _ _ _ HRB.out (by have := F2.out; omega) q2 (tb.2.below gq2)
      refine hno.mono ?_
      clear hno
      rintro e w5 ⟨⟨v2, rfl, hn2⟩, h5⟩
      have g5 := more_below gq2 h5
      have hn1 := (hn1.below ((Below.refl _ _).alloc (Nat.le_refl _) (.cells #[.int .i64 b.h, .slice a2 b.args.length c2] 25))).below h5
      clear h5 g4 gq2 q2 z00 z01 z10 z11
      simp only [if_true, Bool.false_eq_true, if_false] at hn2 ⊢
      obtain ⟨z00, z01, z10, z11⟩ := hS.out _ g5
      obtain ⟨ax2, cx2, rfl, -, -⟩ := hn2.shape
      simp only [List.length_cons, List.length_nil, Nat.zero_add] at hn2 ⊢
      go_wp2_with fail
      have hno := norm_calls (fun _ => False) (fun _ => False) [renT [] a] _ _ (by have h9 := renT_size a []; have := F1.out; simp only [Tm.sizes]; omega) (fun _ h => h.elim) hn1
      have HN := hide (show normT [renT [] a] = ([renT [] a], 0) by unfold normT; rw [if_pos (by simp [ren_right HRA.out])]; simp [renL, ren_idem])
      rw [HN.out] at hno
      refine hno.mono ?_
      clear hno
      rintro e w6 ⟨v3, rfl, hn3, h6⟩
      have g6 := more_below g5 h6
      have hn1 := hn1.below h6
      have hn2 := hn2.below h6
      clear h6 g5 z00 z01 z10 z11
      obtain ⟨ax3, cx3, rfl, -, -⟩ := hn3.shape
      simp only [List.length_cons, List.length_nil, Nat.zero_add] at hn3 ⊢
      obtain ⟨z00, z01, z10, z11⟩ := hS.out _ g6
      obtain ⟨bb1, oo1, aa1, cc1, rfl, hbs1, -, e10, e11, tt1⟩ := hn1.get 0 (by simp)
      simp only [List.getElem_cons_zero] at e10 e11 tt1
      rw [show oo1 + 0 * 2 = oo1 by omega] at e10 e11
      obtain ⟨bb2, oo2, aa2, cc2, rfl, hbs2, -, e20, e21, tt2⟩ := hn2.get 0 (by simp)
      simp only [List.getElem_cons_zero] at e20 e21 tt2
      rw [show oo2 + 0 * 2 = oo2 by omega] at e20 e21
      have HR1 := hide (renT_size a [])
      have HR2 := hide (renT_size b [])
      have HQR := hide (ren_right HRA.out)
      have HQI := hide (ren_idem a)
      have HVX := hide (show variantT a (renT [] a) = (true, 0) by unfold variantT; rw [if_pos ⟨HRA.out, HQR.out⟩, HQI.out, sameB_self])
      have hQ := hide (show ∀ W', Below w6.heap.size w6 W' → W'.cell? ⟨w.heap.size, 0, none⟩ = some (.int .i64 a.h) ∧ W'.cell? ⟨w.heap.size, 1, none⟩ = some (.slice a1 a.args.length c1) ∧ W'.cell? ⟨bb1, oo1, none⟩ = some (.int .i64 (renT [] a).h) ∧ W'.cell? ⟨bb1, oo1 + 1, none⟩ = some (.slice aa1 (renT [] a).args.length cc1) ∧ W'.cell? ⟨bb2, oo2, none⟩ = some (.int .i64 (renT [] b).h) ∧ W'.cell? ⟨bb2, oo2 + 1, none⟩ = some (.slice aa2 (renT [] b).args.length cc2) from fun W' hW => ⟨(hW.cell (World.block_lt_of_cell? _ _ z00)).trans z00, (hW.cell (World.block_lt_of_cell? _ _ z01)).trans z01, (hW.cell (World.block_lt_of_cell? _ _ e10)).trans e10, (hW.cell (World.block_lt_of_cell? _ _ e11)).trans e11, (hW.cell (World.block_lt_of_cell? _ _ e20)).trans e20, (hW.cell (World.block_lt_of_cell? _ _ e21)).trans e21⟩)
      go_wp2_with fail
      refine drawn_text (fun W' => W'.cell? ⟨w.heap.size, 0, none⟩ = some (.int .i64 a.h) ∧ W'.cell? ⟨w.heap.size, 1, none⟩ = some (.slice a1 a.args.length c1) ∧ W'.cell? ⟨bb1, oo1, none⟩ = some (.int .i64 (renT [] a).h) ∧ W'.cell? ⟨bb1, oo1 + 1, none⟩ = some (.slice aa1 (renT [] a).args.length cc1) ∧ W'.cell? ⟨bb2, oo2, none⟩ = some (.int .i64 (renT [] b).h) ∧ W'.cell? ⟨bb2, oo2 + 1, none⟩ = some (.slice aa2 (renT [] b).args.length cc2)) [false, false, false, false, true, false, false, false, false, false] [some 78, some 79, some 80, some 81, some 82, some 77, some 83, some 84, some 13, some 14] (by kernel_rfl) rfl (by kernel_rfl) (by kernel_rfl) (by kernel_rfl) (fun _ _ _ _ _ h => h) (hQ.out _ (Below.refl _ _).drew) ?_
      iterate 4 (refine txt_take (v := ?_) rfl ?_ ?_; rotate_left; (intro w hS; obtain ⟨hS0, hS1, hS2, hS3, hS4, hS5⟩ := hS; go_simp; try with_reducible rfl); simp only [Act.put, List.setIfInBounds_toArray, List.set_cons_zero, List.set_cons_succ])
      refine txt_do rfl ?_
      intro K hK
      go_simp
      have hva := variant_calls a (renT [] a) _ _ _ _ _ (by have := F1.out; omega) (by have := F1.out; have := HR1.out; omega) ((ta.below g6).below (Below.refl _ _).drew) (IsTm.below (A := fun _ => False) (⟨rfl, tt1⟩ : IsTm _ _ _ _ _) (Below.refl _ _).drew)
      rw [HVX.out] at hva
      refine hva.mono ?_
      clear hva
      rintro e w7 ⟨rfl, h7⟩
      have k7 := more_below (Below.refl w6.heap.size w6).drew h7
      clear h7
      refine hK.out _ _ (hQ.out _ k7) ?_
      clear hK K
      iterate 5 (refine txt_take (v := ?_) rfl ?_ ?_; rotate_left; (intro w hS; obtain ⟨hS0, hS1, hS2, hS3, hS4, hS5⟩ := hS; go_simp; try with_reducible rfl); simp only [Act.put, List.setIfInBounds_toArray, List.set_cons_zero, List.set_cons_succ])
      refine txt_done ?_
      have g7 := more_below g6 k7
      have hn1 := hn1.below k7
      have hn3 := hn3.below k7
      have tt1 := tt1.below k7
      have tt2 := tt2.below k7
      have hQ2 := hide (show ∀ W', Below w7.heap.size w7 W' → W'.cell? ⟨w.heap.size, 0, none⟩ = some (.int .i64 a.h) ∧ W'.cell? ⟨w.heap.size, 1, none⟩ = some (.slice a1 a.args.length c1) ∧ W'.cell? ⟨bb1, oo1, none⟩ = some (.int .i64 (renT [] a).h) ∧ W'.cell? ⟨bb1, oo1 + 1, none⟩ = some (.slice aa1 (renT [] a).args.length cc1) ∧ W'.cell? ⟨bb2, oo2, none⟩ = some (.int .i64 (renT [] b).h) ∧ W'.cell? ⟨bb2, oo2 + 1, none⟩ = some (.slice aa2 (renT [] b).args.length cc2) from fun W' hW => hQ.out _ (more_below k7 hW))
      clear g6 k7 z00 z01 z10 z11 e10 e11 e20 e21
      obtain ⟨z00, z01, e10, e11, e20, e21⟩ := hQ2.out _ (Below.refl _ _)
      go_wp2_with fail
      refine drawn_text (fun W' => W'.cell? ⟨w.heap.size, 0, none⟩ = some (.int .i64 a.h) ∧ W'.cell? ⟨w.heap.size, 1, none⟩ = some (.slice a1 a.args.length c1) ∧ W'.cell? ⟨bb1, oo1, none⟩ = some (.int .i64 (renT [] a).h) ∧ W'.cell? ⟨bb1, oo1 + 1, none⟩ = some (.slice aa1 (renT [] a).args.length cc1) ∧ W'.cell? ⟨bb2, oo2, none⟩ = some (.int .i64 (renT [] b).h) ∧ W'.cell? ⟨bb2, oo2 + 1, none⟩ = some (.slice aa2 (renT [] b).args.length cc2)) [true, false, false, false, false, false, false, false, false, true, false, false, false, false, false, false, false, false, false, true, false, false, false, false, false, false, false, false, false] [some 85, some 86, some 87, some 88, some 89, some 90, some 91, some 92, some 93, some 94, some 95, some 96, some 97, some 98, some 99, some 100, some 101, some 102, some 103, some 104, some 105, some 106, some 107, some 108, some 109, some 110, some 111, some 112, some 4] (by kernel_rfl) rfl (by kernel_rfl) (by kernel_rfl) (by kernel_rfl) (fun _ _ _ _ _ h => h) (hQ2.out _ (Below.refl _ _).drew) ?_
      refine txt_do rfl ?_
      intro K hK
      go_simp
      refine (awake5_calls _).mono ?_
      rintro e x1 ⟨rfl, h1⟩
      have k1 := more_below (Below.refl w7.heap.size w7).drew h1
      clear h1
      refine hK.out _ _ (hQ2.out _ k1) ?_
      clear hK K
      iterate 8 (refine txt_take (v := ?_) rfl ?_ ?_; rotate_left; (intro w hS; obtain ⟨hS0, hS1, hS2, hS3, hS4, hS5⟩ := hS; go_simp; try with_reducible rfl); simp only [Act.put, List.setIfInBounds_toArray, List.set_cons_zero, List.set_cons_succ])
      refine txt_do rfl ?_
      intro K hK
      go_simp
      refine (same_calls (renT [] a) (renT [] b) (fun _ => False) (fun _ => False) _ _ _ _ _ (by have := F1.out; have := HR1.out; omega) (by have := F2.out; have := HR2.out; omega) (⟨rfl, tt1.below k1⟩ : IsTm _ _ _ _ _) (⟨rfl, tt2.below k1⟩ : IsTm _ _ _ _ _)).mono ?_
      rintro e x2 ⟨rfl, h2⟩
      have k2 := more_below k1 h2
      clear h2
      refine hK.out _ _ (hQ2.out _ k2) ?_
      clear hK K
      rw [HVV.out]
      iterate 9 (refine txt_take (v := ?_) rfl ?_ ?_; rotate_left; (intro w hS; obtain ⟨hS0, hS1, hS2, hS3, hS4, hS5⟩ := hS; go_simp; try with_reducible rfl); simp only [Act.put, List.setIfInBounds_toArray, List.set_cons_zero, List.set_cons_succ])
      refine txt_do rfl ?_
      intro K hK
      go_simp
      refine (refterms_calls [renT [] a] _ _ _ (by have := F1.out; have := HR1.out; simp only [Tm.sizes]; omega) (hn3.below k2) (hn1.below k2)).mono ?_
      rintro e x3 ⟨rfl, h3⟩
      have k3 := more_below k2 h3
      clear h3
      refine hK.out _ _ (hQ2.out _ k3) ?_
      clear hK K
      iterate 9 (refine txt_take (v := ?_) rfl ?_ ?_; rotate_left; (intro w hS; obtain ⟨hS0, hS1, hS2, hS3, hS4, hS5⟩ := hS; go_simp; try with_reducible rfl); simp only [Act.put, List.setIfInBounds_toArray, List.set_cons_zero, List.set_cons_succ])
      refine txt_done ?_
      go_wp2
      go_ret
      exact ⟨rfl, more_below bV (more_below g7 k3)⟩
end Go.Proofs.Ythplndalbfcbbaa
