/- subst: a substitution's table. -/
import Derived.Test.YthplndalbfcbbaaIntMap
import Derived.Test.YthplndalbfcbbaaBackB
import Derived.Test.YthplndalbfcbbaaSub1
set_option linter.unusedVariables false
set_option linter.unusedSimpArgs false
namespace Go.Proofs.Ythplndalbfcbbaa
open Go.RowKit Go.Shelf
attribute [local go_sem] Oper.semAt_some

section
variable {F : Fence} {nF : Nat} {P : Program} {W : World} {ops : Array Oper} {rest : List Oper} {o : Oper} {a : Act} {Q : Exit → Act → World → Prop} {k e : TypeId}
theorem look_pl (hg : o.guard = none) (m x : Operand) (t : TypeId) (hop : o.op = .lookup t m x true) (hk : P.underlying k = some (.int .i64)) (ht : P.underlying t = some (.map k e)) {z : Value} (hz : (zeroValue e).run P W = .ok z W)
    (b : Nat) (f : Int → Option Value) (hm : a.eval m = .map (some b)) (h : MapAt W b f) (y : Int) (hx : a.eval x = .int .i64 y) (h0 : -9223372036854775808 ≤ y) (h1 : y ≤ 9223372036854775807)
    (hK : wpList P ops Q rest (a.put o.dst (.tuple #[(f y).getD z, .bool (f y).isSome])) W) : wpList P ops Q (o :: rest) a W := by
  refine wpList_plain hg fun K' hK' => ?_
  have hrun := h.look hk ht hz h0 h1
  unfold Oper.wp
  simp [execOp, hop, hm, hx, hrun, Result.andThen]
  exact hK' _ _ hK
theorem store_in (hg : o.guard = none) (m x v : Operand) (t : TypeId) (hop : o.op = .mapUpdate t m x v) (hk : P.underlying k = some (.int .i64)) (ht : P.underlying t = some (.map k e))
    (b : Nat) (f : Int → Option Value) (hm : a.eval m = .map (some b)) (h : MapAt W b f) (y : Int) (hx : a.eval x = .int .i64 y) (h0 : -9223372036854775808 ≤ y) (h1 : y ≤ 9223372036854775807) (u : Value) (hv : a.eval v = u)
    (hK : ∀ W', MapAt W' b (fun z => if z = y then some u else f z) → Keep (fun c => c ≠ b) W W' → wpListIn F nF P ops Q rest (a.put o.dst undef) W') : wpListIn F nF P ops Q (o :: rest) a W := by
  refine wpListIn_plain hg fun K' hK' => ?_
  obtain ⟨w', hrun, r1, r2⟩ := h.store hk ht h0 h1 u
  unfold Oper.wpIn
  refine ⟨by simp [Oper.about, hop], ?_⟩
  rw [Oper.semAt_plain F _ _ (by rw [hop]; intro c hc'; cases hc')]
  simp [execOp, hop, hm, hx, hv, hrun, Result.andThen]
  exact hK' _ _ (hK w' r1 r2)
end

/-- What the first bind of a variable puts. -/
def firstB (v : Int) : List Bd → Option Tm
  | [] => none
  | b :: bs => if b.v = v then some b.t else firstB v bs
theorem firstB_of (v : Int) : ∀ bs : List Bd, (firstB v bs).getD (.node (-1 - v) []) = ofBs v bs
  | [] => rfl
  | b :: bs => by simp only [firstB, ofBs]; split; rfl; exact firstB_of v bs
theorem firstB_drop (l : List Bd) (k : Nat) (h : k < l.length) (v : Int) : firstB v (l.drop k) = if v = l[k].v then some l[k].t else firstB v (l.drop (k + 1)) := by
  rw [List.drop_eq_getElem_cons h]
  simp only [firstB]
  by_cases e : l[k].v = v
  · rw [if_pos e, if_pos e.symm]
  · rw [if_neg e, if_neg (fun h => e h.symm)]
/-- Block b is the binds' table. -/
def MapBinds (A : Nat → Prop) (W : World) (b : Nat) (bs : List Bd) : Prop :=
  ∃ f, MapAt W b f ∧ ∀ x : Int, (firstB x bs = none → f x = none) ∧ ∀ t, firstB x bs = some t → ∃ s, f x = some (.agg #[.int .i64 t.h, s]) ∧ Terms A W s t.args
theorem MapBinds.below {A : Nat → Prop} {W W' : World} {b : Nat} {bs : List Bd} (h : MapBinds A W b bs) (hB : Below W.heap.size W W') : MapBinds A W' b bs := by
  obtain ⟨f, h1, h2⟩ := h
  exact ⟨f, h1.below hB, fun x => ⟨(h2 x).1, fun t ht => by obtain ⟨s, h3, h4⟩ := (h2 x).2 t ht; exact ⟨s, h3, h4.below hB⟩⟩⟩
theorem MapBinds.bar {A B : Nat → Prop} {W : World} {b : Nat} {bs : List Bd} (h : MapBinds A W b bs) (hB : ∀ c, c < W.heap.size → B c → A c) : MapBinds B W b bs := by
  obtain ⟨f, h1, h2⟩ := h
  exact ⟨f, h1, fun x => ⟨(h2 x).1, fun t ht => by obtain ⟨s, h3, h4⟩ := (h2 x).2 t ht; exact ⟨s, h3, h4.bar hB⟩⟩⟩
theorem zeroTerm (W : World) : (zeroValue 25).run Try.prog W = .ok (.agg #[.int .i64 0, .slice none 0 0]) W := by kernel_rfl
def ofT (bs : List Bd) (t : Tm) : Tm := (firstB (-1 - t.h) bs).getD t

set_option maxHeartbeats 1000000 in
theorem tabof_calls (bs : List Bd) (t : Tm) (mb : Nat) (A : Nat → Prop) (h : Int) (s : Value) (w : World) (hh0 : -1000000000 ≤ t.h) (hh1 : t.h ≤ 1000000000) (hm : MapBinds A w mb bs) (hs : IsTm A w h s t) :
    Calls Try.prog 85 #[.map (some mb), .agg #[.int .i64 h, s]] w fun e w' => Gives A w (ofT bs t) e w' := by
  obtain ⟨rfl, a, c, rfl, hlc, hc⟩ := hs.shape
  go_enter Try.func85, Try.ntmps85
  refine seq_cut (fun a' w' => a' = { tmps := #[.map (some mb), .agg #[.int .i64 t.h, .slice a t.args.length c], undef, .pointer (some ⟨w.heap.size, 0, none⟩), .pointer (some ⟨w.heap.size + 1, 0, none⟩), undef, undef, undef, undef, undef, undef, undef, undef, undef, undef, undef, undef, undef], defers := [] } ∧ w' = (w.alloc (.cells #[.int .i64 t.h, .slice a t.args.length c] 25)).alloc (.cells #[.int .i64 0, .slice none 0 0] 25)) ?_ ?_
  · go_wp2
    first | done | exact ⟨rfl, rfl⟩ | exact ⟨trivial, trivial⟩
  rintro _ W ⟨rfl, HW⟩
  have hWa : W = allocs w [.cells #[.int .i64 t.h, .slice a t.args.length c] 25, .cells #[.int .i64 0, .slice none 0 0] 25] := HW
  have hB : Below w.heap.size w W := by rw [hWa]; exact allocs_below _ _
  have b0 : W.heap[w.heap.size]? = some (.cells #[.int .i64 t.h, .slice a t.args.length c] 25 (0, 0)) := by rw [hWa]; exact allocs_get _ _ 0 _ rfl
  have b1 : W.heap[w.heap.size + 1]? = some (.cells #[.int .i64 0, .slice none 0 0] 25 (0, 0)) := by rw [hWa]; exact allocs_get _ _ 1 _ rfl
  clear HW hWa
  obtain ⟨f, hmf, hf⟩ := hm
  have hmf' := hmf.below hB
  obtain ⟨hsz, z0, z1, -, -⟩ := box2 b0
  obtain ⟨hsz1, y0, y1, y2, y3⟩ := box2 b1
  cases hfb : firstB (-1 - t.h) bs with
  | none =>
    have hfx := (hf _).1 hfb
    have HE := hide (show ofT bs t = t by simp [ofT, hfb])
    clear hfb hf
    have HFX := hide hfx
    clear hfx
    have hT : Terms (fun b => A b ∨ b = w.heap.size + 1) W (.slice a t.args.length c) t.args := (hs.2.bar (fun b hb h => by rcases h with h | h; exact h; omega)).below hB
    obtain ⟨hBe, hTe, q0, q1⟩ := fin2 hB (by omega) b1 hT (.int .i64 t.h) (.cells #[.int .i64 0, .slice none 0 0] 25)
    go_wp2_with (at_lookup; refine look_pl rfl _ _ 98 rfl Try.underlying3 Try.underlying98 (zeroTerm _) mb f rfl hmf' (-1 - t.h) rfl (by omega) (by omega) ?_; rw [HFX.out])
    exact bodyPost_ret (v := .agg #[.int .i64 t.h, .slice a t.args.length c]) (by simp [results, Try.results85, go_sem, q0, q1]) rfl (by rw [HE.out]; exact ⟨_, rfl, hTe, hBe⟩)
  | some u =>
    obtain ⟨s1, hfx, hTu⟩ := (hf _).2 u hfb
    have HE := hide (show ofT bs t = u by simp [ofT, hfb])
    obtain ⟨au, cu, rfl, -, -⟩ := hTu.shape
    clear hfb hf
    have HFX := hide hfx
    clear hfx
    have hT : Terms (fun b => A b ∨ b = w.heap.size + 1) W (.slice au u.args.length cu) u.args := (hTu.bar (fun b hb h => by rcases h with h | h; exact h; omega)).below hB
    obtain ⟨hBe, hTe, q0, q1⟩ := fin2 hB (by omega) b1 hT (.int .i64 u.h) (.cells #[.int .i64 u.h, .slice au u.args.length cu] 25)
    go_wp2_with (at_lookup; refine look_pl rfl _ _ 98 rfl Try.underlying3 Try.underlying98 (zeroTerm _) mb f rfl hmf' (-1 - t.h) rfl (by omega) (by omega) ?_; rw [HFX.out])
    exact bodyPost_ret (v := .agg #[.int .i64 u.h, .slice au u.args.length cu]) (by simp [results, Try.results85, go_sem, q0, q1]) rfl (by rw [HE.out]; exact ⟨_, rfl, hTe, hBe⟩)
end Go.Proofs.Ythplndalbfcbbaa
