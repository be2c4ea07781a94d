/- Rows of one and of two terms in a block. -/
import Derived.Test.YtneecjikdghchaaDoorOwn
import Derived.Test.YtneecjikdghchaaDoorBox
set_option linter.unusedSimpArgs false
set_option linter.unusedVariables false
namespace Go.Proofs.YtneecjikdghchaaDoor
open Go.RowKit

theorem terms_block {A : Nat → Prop} {W : World} {b : Nat} {T : TypeId} {cs : List (List Value)} {ts : List Tm} (hb : W.heap[b]? = some (.cells cs.flatten.toArray T (0, 0))) (hA : ¬ A b) (hl : cs.length = ts.length) (hm : ts.length ≤ 1000000)
    (h : All2 (fun c t => ∃ s, c = [Value.int .i64 t.h, s] ∧ Terms A W s t.args) cs ts) : Terms A W (.slice (some ⟨b, 0, none⟩) ts.length ts.length) ts := by
  rw [Terms, Tm.ds_eq]
  simp only [RepD]
  refine ⟨_, _, _, rfl, by simp, Nat.le_refl _, by omega, fun h0 => ⟨b, 0, rfl, (Array.getElem?_eq_some_iff.1 hb).1, hA, ?_⟩⟩
  refine RepR.of cs _ 0 (fun c hc => ?_) (fun j hj => ?_) ?_
  · obtain ⟨t, _, s, rfl, _⟩ := h.mem c hc; rfl
  · rw [Nat.zero_add]; simp only [World.cell?, hb]; simp
  · clear hb hl hm h0
    induction h with
    | nil => exact .nil
    | cons h _ ih =>
      obtain ⟨s, rfl, hs⟩ := h
      exact .cons (repTm.2 ⟨s, rfl, hs⟩) ih
theorem terms1 {A : Nat → Prop} {W : World} {b : Nat} {T : TypeId} {s : Value} {t : Tm} (hb : W.heap[b]? = some (.cells #[.int .i64 t.h, s] T (0, 0))) (hA : ¬ A b) (h : Terms A W s t.args) : Terms A W (.slice (some ⟨b, 0, none⟩) 1 1) [t] :=
  terms_block (cs := [[.int .i64 t.h, s]]) (ts := [t]) hb hA rfl (by simp) (.cons ⟨s, rfl, h⟩ .nil)
theorem terms2 {A : Nat → Prop} {W : World} {b : Nat} {T : TypeId} {s1 s2 : Value} {t1 t2 : Tm} (hb : W.heap[b]? = some (.cells #[.int .i64 t1.h, s1, .int .i64 t2.h, s2] T (0, 0))) (hA : ¬ A b) (h1 : Terms A W s1 t1.args) (h2 : Terms A W s2 t2.args) : Terms A W (.slice (some ⟨b, 0, none⟩) 2 2) [t1, t2] :=
  terms_block (cs := [[.int .i64 t1.h, s1], [.int .i64 t2.h, s2]]) (ts := [t1, t2]) hb hA rfl (by simp) (.cons ⟨s1, rfl, h1⟩ (.cons ⟨s2, rfl, h2⟩ .nil))
end Go.Proofs.YtneecjikdghchaaDoor
