/- What the proof of the law rests on: contracts of the functions, plain laws, and words. -/
import Derived.Test.YthplndalbfcbbaaKMatchNormsG2
import Derived.Test.YthplndalbfcbbaaKMatchNormsG0
import Derived.Test.YthplndalbfcbbaaKMatchNormsG1
set_option linter.unusedSimpArgs false
set_option linter.unusedVariables false
namespace Go.Proofs.Ythplndalbfcbbaa
open Go.RowKit
def GivesE (A : Nat → Prop) (w : World) (r : Tm × Int) (e : Ending) (w' : World) : Prop := ∃ s, e = .returned (.tuple #[.agg #[.int .i64 r.1.h, s], .int .i64 r.2]) ∧ Terms A w' s r.1.args ∧ Below w.heap.size w w'
def endT (t : Tm) : Tm × Int := if chk t = 0 then (t, 0) else (.node 0 [], chk t)
theorem chk_good {t : Tm} (h : rightB t = true) : t.good = true := by
  simp only [rightB, chk, beq_iff_eq] at h
  split at h
  · simp at h
  · split at h
    · simp at h
    · split at h
      · assumption
      · simp at h
end Go.Proofs.Ythplndalbfcbbaa
set_option linter.unusedSimpArgs false
set_option linter.unusedVariables false
namespace Go.Proofs.Ythplndalbfcbbaa
open Go.RowKit
def applyT (bs : List Bd) (t : Tm) : Tm × Int := if rightBs bs = true ∧ rightB t = true then endT (putT bs t) else (.node 0 [], 1)
end Go.Proofs.Ythplndalbfcbbaa
set_option linter.unusedVariables false
set_option linter.unusedSimpArgs false
namespace Go.Proofs.Ythplndalbfcbbaa
open Go.RowKit Go.Shelf
attribute [local go_sem] Oper.semAt_some
section
variable {F : Fence} {nF : Nat} {P : Program} {W : World} {ops : Array Oper} {rest : List Oper} {o : Oper} {a : Act} {Q : Exit → Act → World → Prop} {k e : TypeId}
theorem look_pl (hg : o.guard = none) (m x : Operand) (t : TypeId) (hop : o.op = .lookup t m x true) (hk : P.underlying k = some (.int .i64)) (ht : P.underlying t = some (.map k e)) {z : Value} (hz : (zeroValue e).run P W = .ok z W)
    (b : Nat) (f : Int → Option Value) (hm : a.eval m = .map (some b)) (h : MapAt W b f) (y : Int) (hx : a.eval x = .int .i64 y) (h0 : -9223372036854775808 ≤ y) (h1 : y ≤ 9223372036854775807)
    (hK : wpList P ops Q rest (a.put o.dst (.tuple #[(f y).getD z, .bool (f y).isSome])) W) : wpList P ops Q (o :: rest) a W := by
  refine wpList_plain hg fun K' hK' => ?_
  have hrun := h.look hk ht hz h0 h1
  unfold Oper.wp
  simp [execOp, hop, hm, hx, hrun, Result.andThen]
  exact hK' _ _ hK
end
def firstB (v : Int) : List Bd → Option Tm
  | [] => none
  | b :: bs => if b.v = v then some b.t else firstB v bs
def MapBinds (A : Nat → Prop) (W : World) (b : Nat) (bs : List Bd) : Prop :=
  ∃ f, MapAt W b f ∧ ∀ x : Int, (firstB x bs = none → f x = none) ∧ ∀ t, firstB x bs = some t → ∃ s, f x = some (.agg #[.int .i64 t.h, s]) ∧ Terms A W s t.args
theorem zeroTerm (W : World) : (zeroValue 25).run Try.prog W = .ok (.agg #[.int .i64 0, .slice none 0 0]) W := by kernel_rfl
end Go.Proofs.Ythplndalbfcbbaa
set_option linter.unusedVariables false
set_option linter.unusedSimpArgs false
namespace Go.Proofs.Ythplndalbfcbbaa
open Go.RowKit Go.Shelf
attribute [local go_sem] Oper.semAt_some
theorem zip_at {β : Type} {pre : List (β × Nat)} {x : β × Nat} {rs : List β} (h : pre ++ [x] <+: rs.zipIdx.reverse) : x.2 + pre.length + 1 = rs.length ∧ ∃ hi : x.2 < rs.length, rs[x.2] = x.1 := by
  obtain ⟨t, ht⟩ := h
  have h1 : (rs.zipIdx.reverse)[pre.length]? = some x := by rw [← ht]; simp
  have h2 : pre.length < rs.length := by
    have := congrArg List.length ht
    simp at this; omega
  rw [List.getElem?_reverse (by simpa using h2)] at h1
  simp only [List.length_zipIdx, List.getElem?_zipIdx] at h1
  rw [Option.map_eq_some_iff] at h1
  obtain ⟨y, hy, rfl⟩ := h1
  simp only [Nat.zero_add]
  refine ⟨by omega, by omega, ?_⟩
  exact (List.getElem?_eq_some_iff.1 hy).2
theorem Binds.raws {A : Nat → Prop} {w : World} {a : Option Addr} {n c : Nat} {bs : List Bd} (h : Binds A w (.slice a n c) bs) :
    ∃ rs : List (Int × Int × Value), rs.length = bs.length ∧ ∀ i (hi : i < rs.length) (hi' : i < bs.length), rs[i].1 = bs[i].v ∧ rs[i].2.1 = bs[i].t.h ∧ Terms A w rs[i].2.2 bs[i].t.args ∧ (∃ a' n' c', rs[i].2.2 = .slice a' n' c') ∧
      ∃ b off, a = some ⟨b, off, none⟩ ∧ b < w.heap.size ∧ ¬ A b ∧ w.cell? ⟨b, off + i * 3, none⟩ = some (.int .i64 rs[i].1) ∧ w.cell? ⟨b, off + i * 3 + 1, none⟩ = some (.int .i64 rs[i].2.1) ∧ w.cell? ⟨b, off + i * 3 + 2, none⟩ = some rs[i].2.2 := by
  have hx : ∀ i : Fin bs.length, ∃ r : Int × Int × Value, r.1 = bs[i].v ∧ r.2.1 = bs[i].t.h ∧ Terms A w r.2.2 bs[i].t.args ∧ (∃ a' n' c', r.2.2 = .slice a' n' c') ∧
      ∃ b off, a = some ⟨b, off, none⟩ ∧ b < w.heap.size ∧ ¬ A b ∧ w.cell? ⟨b, off + i * 3, none⟩ = some (.int .i64 r.1) ∧ w.cell? ⟨b, off + i * 3 + 1, none⟩ = some (.int .i64 r.2.1) ∧ w.cell? ⟨b, off + i * 3 + 2, none⟩ = some r.2.2 := by
    intro i
    obtain ⟨b, off, a', c', h1, h2, h3, h4, h5, h6, h7⟩ := h.get i i.2
    exact ⟨(_, _, _), rfl, rfl, h7, ⟨_, _, _, rfl⟩, b, off, h1, h2, h3, h4, h5, h6⟩
  refine ⟨List.ofFn fun i => Classical.choose (hx i), by simp, fun i hi hi' => ?_⟩
  simp only [List.getElem_ofFn]
  exact Classical.choose_spec (hx ⟨i, hi'⟩)
end Go.Proofs.Ythplndalbfcbbaa
