/- Two substitutions, one behind the other: plain Lean. -/
import Derived.Test.YthplndalbfcbbaaStaysLaw
set_option linter.unusedSimpArgs false
set_option linter.unusedVariables false
namespace Go.Proofs.Ythplndalbfcbbaa
open Go.RowKit

mutual
theorem putT_good {bs : List Bd} (hb : rightBs bs = true) : ∀ t : Tm, t.good = true → (putT bs t).good = true
  | .node h l, hg => by
    by_cases hx : h < 0
    · have hh := good_heads _ hg h (by simp [Tm.heads])
      simp only [putT, hx, if_true]
      exact ofBs_good hb (by omega) (by omega)
    · simp only [putT, hx, if_false]
      have hk := good_ok hg
      simp only [Tm.good, Bool.and_eq_true] at hg ⊢
      refine ⟨?_, putL_goods hb l hg.2⟩
      have hlen := putL_length bs l
      cases h3 : okP (.node h (putL bs l))
      · rw [okP_iff] at h3
        simp only [Tm.h, Tm.args, hlen] at h3
        exact absurd h3 hk
      · rfl
theorem putL_goods {bs : List Bd} (hb : rightBs bs = true) : ∀ l : List Tm, Tm.goods l = true → Tm.goods (putL bs l) = true
  | [], _ => by simp [putL, Tm.goods]
  | t :: ts, hg => by
    simp only [Tm.goods, Bool.and_eq_true] at hg
    simp only [putL, Tm.goods, putT_good hb t hg.1, putL_goods hb ts hg.2, Bool.and_self]
theorem putL_length (bs : List Bd) : ∀ l : List Tm, (putL bs l).length = l.length
  | [] => by simp [putL]
  | t :: ts => by simp only [putL, List.length_cons, putL_length bs ts]
end

def bothT (s u : List Bd) (v : Int) : Tm := putT u (ofBs v s)
theorem bothT_good {s u : List Bd} (hs : rightBs s = true) (hu : rightBs u = true) {v : Int} (h0 : 0 ≤ v) (h1 : v ≤ 255) : (bothT s u v).good = true := putT_good hu _ (ofBs_good hs h0 h1)
def movesB (s u : List Bd) (v : Int) : Bool := (bothT s u v).h != -1 - v
theorem stays_var {s u : List Bd} (hs : rightBs s = true) (hu : rightBs u = true) {v : Int} (h0 : 0 ≤ v) (h1 : v ≤ 255) (h : movesB s u v = false) : bothT s u v = .node (-1 - v) [] := by
  have hg := bothT_good hs hu h0 h1
  simp only [movesB, bne_eq_false_iff_eq] at h
  generalize bothT s u v = t at *
  cases t with
  | node x l =>
    simp only [Tm.h] at h
    subst h
    rw [good_var hg (by omega)]
theorem chk_var {v : Int} (h0 : 0 ≤ v) (h1 : v ≤ 255) : chk (.node (-1 - v) []) = 0 := by
  have := node_var_good h0 h1
  simp [chk, Tm.size, Tm.sizes, Tm.depth, Tm.depths, this]

def bothL (s u : List Bd) (vs : List Int) : List Bd := (vs.filter (movesB s u)).map fun v => ⟨v, bothT s u v⟩
def thenE (s u : List Bd) : List Int → Int
  | [] => 0
  | v :: vs => if chk (bothT s u v) = 0 then thenE s u vs else chk (bothT s u v)
def thenP (s u : List Bd) (vs : List Int) : List Bd × Int := if thenE s u vs = 0 then (bothL s u vs, 0) else ([], thenE s u vs)
def upto (k : Nat) : List Int := (List.range k).map fun (n : Nat) => (n : Int)
theorem upto_succ (k : Nat) : upto (k + 1) = upto k ++ [(k : Int)] := by simp [upto, List.range_succ]
theorem mem_upto {k : Nat} {v : Int} : v ∈ upto k ↔ 0 ≤ v ∧ v < k := by
  simp only [upto, List.mem_map, List.mem_range]
  constructor
  · rintro ⟨n, h, rfl⟩; omega
  · rintro ⟨h1, h2⟩; exact ⟨v.toNat, by omega, by omega⟩
theorem upto_sorted (k : Nat) : (upto k).Pairwise (· < ·) := by
  simp only [upto, List.pairwise_map]
  exact List.pairwise_lt_range.imp fun h => by omega
def thenT (s u : List Bd) : List Bd × Int := if rightBs s = true ∧ rightBs u = true then thenP s u (upto 256) else ([], 1)

/-- What doesn't move is of no account. -/
theorem thenE_filter {s u : List Bd} (hs : rightBs s = true) (hu : rightBs u = true) : ∀ vs : List Int, (∀ v, v ∈ vs → 0 ≤ v ∧ v ≤ 255) → thenE s u vs = thenE s u (vs.filter (movesB s u))
  | [], _ => rfl
  | v :: vs, h => by
    have ih := thenE_filter hs hu vs fun x hx => h x (by simp [hx])
    obtain ⟨h0, h1⟩ := h v (by simp)
    cases hm : movesB s u v
    · rw [List.filter_cons_of_neg (by simp [hm])]
      rw [thenE, stays_var hs hu h0 h1 hm, chk_var h0 h1, if_pos rfl, ih]
    · rw [List.filter_cons_of_pos hm, thenE, thenE, ih]
theorem sorted_ext : ∀ (a b : List Int), a.Pairwise (· < ·) → b.Pairwise (· < ·) → (∀ v, v ∈ a ↔ v ∈ b) → a = b
  | [], b, _, _, h => by
    cases b with
    | nil => rfl
    | cons y b => exact absurd ((h y).2 (by simp)) (by simp)
  | x :: a, [], _, _, h => absurd ((h x).1 (by simp)) (by simp)
  | x :: a, y :: b, ha, hb, h => by
    rw [List.pairwise_cons] at ha hb
    have hxy : x = y := by
      have h1 := (h x).1 (by simp)
      have h2 := (h y).2 (by simp)
      rcases List.mem_cons.1 h1 with h1 | h1
      · exact h1
      · rcases List.mem_cons.1 h2 with h2 | h2
        · exact h2.symm
        · have := ha.1 y h2; have := hb.1 x h1; omega
    subst hxy
    rw [sorted_ext a b ha.2 hb.2 fun v => ?_]
    constructor
    · intro hv
      rcases List.mem_cons.1 ((h v).1 (by simp [hv])) with rfl | h'
      · exact absurd (ha.1 v hv) (by omega)
      · exact h'
    · intro hv
      rcases List.mem_cons.1 ((h v).2 (by simp [hv])) with rfl | h'
      · exact absurd (hb.1 v hv) (by omega)
      · exact h'
/-- The variables that one of the two binds. -/
theorem ofBs_not : ∀ (bs : List Bd) (v : Int), (∀ b, b ∈ bs → b.v ≠ v) → ofBs v bs = .node (-1 - v) []
  | [], v, _ => rfl
  | b :: bs, v, h => by
    simp only [ofBs]
    rw [if_neg (h b (by simp))]
    exact ofBs_not bs v fun c hc => h c (by simp [hc])
theorem moves_mem {s u : List Bd} {v : Int} (h0 : 0 ≤ v) (h : movesB s u v = true) : v ∈ (s ++ u).map Bd.v := by
  refine Classical.byContradiction fun hn => ?_
  have h1 : ∀ b, b ∈ s → b.v ≠ v := fun b hb e => hn (List.mem_map.2 ⟨b, by simp [hb], e⟩)
  have h2 : ∀ b, b ∈ u → b.v ≠ v := fun b hb e => hn (List.mem_map.2 ⟨b, by simp [hb], e⟩)
  have h3 : bothT s u v = .node (-1 - v) [] := by
    rw [bothT, ofBs_not s v h1]
    have : -1 - v < 0 := by omega
    simp only [putT, this, if_true]
    rw [show -1 - (-1 - v) = v by omega]
    exact ofBs_not u v h2
  rw [movesB, h3] at h
  simp [Tm.h] at h
/-- The program's own: of the variables bound. -/
theorem thenP_vars {s u : List Bd} (hs : rightBs s = true) (hu : rightBs u = true) {vs : List Int} (hsort : vs.Pairwise (· < ·)) (hr : ∀ v, v ∈ vs → 0 ≤ v ∧ v ≤ 255) (hall : ∀ v, v ∈ (s ++ u).map Bd.v → v ∈ vs) :
    thenP s u vs = thenP s u (upto 256) := by
  have hf : vs.filter (movesB s u) = (upto 256).filter (movesB s u) := by
    refine sorted_ext _ _ (hsort.filter _) ((upto_sorted 256).filter _) fun v => ?_
    simp only [List.mem_filter, mem_upto]
    constructor
    · rintro ⟨h1, h2⟩; have := hr v h1; exact ⟨⟨by omega, by omega⟩, h2⟩
    · rintro ⟨h1, h2⟩; exact ⟨hall v (moves_mem h1.1 h2), h2⟩
  have he : thenE s u vs = thenE s u (upto 256) := by
    rw [thenE_filter hs hu vs hr, hf, ← thenE_filter hs hu (upto 256) fun v hv => by have := mem_upto.1 hv; omega]
  unfold thenP
  rw [he, bothL, bothL, hf]
/-- The document's: of all; then the errors of what moves. -/
def firstE : List Bd → Int
  | [] => 0
  | b :: bs => if chk b.t = 0 then firstE bs else chk b.t
theorem firstE_map (s u : List Bd) : ∀ vs : List Int, firstE (vs.map fun v => ⟨v, bothT s u v⟩) = thenE s u vs
  | [] => rfl
  | v :: vs => by simp only [List.map_cons, firstE, thenE, firstE_map s u vs]
theorem thenE_bothL {s u : List Bd} (hs : rightBs s = true) (hu : rightBs u = true) : firstE (bothL s u (upto 256)) = thenE s u (upto 256) := by
  rw [bothL, firstE_map, ← thenE_filter hs hu (upto 256) fun v hv => by have := mem_upto.1 hv; omega]

/-! ### What the result is -/
theorem okBs_map (f : Int → Tm) : ∀ (vs : List Int) (x : Int), (x :: vs).Pairwise (· < ·) → (∀ v, v ∈ vs → v ≤ 255 ∧ rightB (f v) = true ∧ (f v).h ≠ -1 - v) → okBs x (vs.map fun v => ⟨v, f v⟩) = true
  | [], _, _, _ => rfl
  | v :: vs, x, hp, h => by
    rw [List.pairwise_cons] at hp
    obtain ⟨h1, h2, h3⟩ := h v (by simp)
    have hx := hp.1 v (by simp)
    simp only [List.map_cons, okBs, Bool.and_eq_true, decide_eq_true_eq, bne_iff_ne, ne_eq]
    exact ⟨⟨⟨⟨hx, h1⟩, h2⟩, h3⟩, okBs_map f vs v hp.2 fun y hy => h y (by simp [hy])⟩
theorem thenE_zero {s u : List Bd} : ∀ {vs : List Int}, thenE s u vs = 0 → ∀ v, v ∈ vs → chk (bothT s u v) = 0
  | [], _, v, hv => by simp at hv
  | x :: vs, h, v, hv => by
    rw [thenE] at h
    split at h
    · rename_i h0
      rcases List.mem_cons.1 hv with rfl | hv
      · exact h0
      · exact thenE_zero h v hv
    · rename_i h0; exact absurd h h0
theorem bothL_right {s u : List Bd} (h : thenE s u (upto 256) = 0) : rightBs (bothL s u (upto 256)) = true := by
  refine okBs_map (bothT s u) _ (-1) ?_ fun v hv => ?_
  · rw [List.pairwise_cons]
    exact ⟨fun v hv => by have := mem_upto.1 (List.mem_filter.1 hv).1; omega, (upto_sorted 256).filter _⟩
  · obtain ⟨h1, h2⟩ := List.mem_filter.1 hv
    have := mem_upto.1 h1
    exact ⟨by omega, by simp [rightB, thenE_zero h v h1], by simpa [movesB] using h2⟩
theorem ofBs_map (f : Int → Tm) (v : Int) : ∀ vs : List Int, ofBs v (vs.map fun v => ⟨v, f v⟩) = if v ∈ vs then f v else .node (-1 - v) []
  | [] => by simp [ofBs]
  | x :: vs => by
    simp only [List.map_cons, ofBs, ofBs_map f v vs, List.mem_cons]
    by_cases h : x = v
    · subst h; simp
    · simp [h, Ne.symm h]
theorem ofBs_bothL {s u : List Bd} (hs : rightBs s = true) (hu : rightBs u = true) {v : Int} (h0 : 0 ≤ v) (h1 : v ≤ 255) : ofBs v (bothL s u (upto 256)) = bothT s u v := by
  rw [bothL, ofBs_map]
  split
  · rfl
  · rename_i hn
    refine (stays_var hs hu h0 h1 ?_).symm
    cases hm : movesB s u v
    · rfl
    · exact absurd (List.mem_filter.2 ⟨mem_upto.2 ⟨h0, by omega⟩, hm⟩) hn
mutual
theorem put_both {s u : List Bd} (hs : rightBs s = true) (hu : rightBs u = true) : ∀ t : Tm, t.good = true → putT (bothL s u (upto 256)) t = putT u (putT s t)
  | .node h l, hg => by
    by_cases hx : h < 0
    · have hh := good_heads _ hg h (by simp [Tm.heads])
      simp only [putT, hx, if_true]
      exact ofBs_bothL hs hu (by omega) (by omega)
    · have hg' : Tm.goods l = true := by simp only [Tm.good, Bool.and_eq_true] at hg; exact hg.2
      simp only [putT, hx, if_false, put_boths hs hu l hg']
theorem put_boths {s u : List Bd} (hs : rightBs s = true) (hu : rightBs u = true) : ∀ l : List Tm, Tm.goods l = true → putL (bothL s u (upto 256)) l = putL u (putL s l)
  | [], _ => by simp [putL]
  | t :: ts, hg => by
    simp only [Tm.goods, Bool.and_eq_true] at hg
    simp only [putL, put_both hs hu t hg.1, put_boths hs hu ts hg.2]
end
theorem then_ok {s u : List Bd} (h : (thenT s u).2 = 0) : rightBs s = true ∧ rightBs u = true ∧ thenE s u (upto 256) = 0 ∧ (thenT s u).1 = bothL s u (upto 256) := by
  unfold thenT at h ⊢
  split at h
  · rename_i hc
    rw [if_pos hc]
    unfold thenP at h ⊢
    split at h
    · rename_i h2; exact ⟨hc.1, hc.2, h2, by rw [if_pos h2]⟩
    · rename_i h2; exact absurd h h2
  · cases h
/-- Apply of both, one behind the other. -/
theorem then_apply {s u : List Bd} {t : Tm} (h : (thenT s u).2 = 0) (ha : (applyT s t).2 = 0) : applyT u (applyT s t).1 = applyT (thenT s u).1 t ∧ rightBs (thenT s u).1 = true := by
  obtain ⟨h1, h2, h3, h4⟩ := then_ok h
  obtain ⟨-, a2, a3, a4⟩ := apply_ok ha
  rw [h4, a4]
  have hr := bothL_right h3
  refine ⟨?_, hr⟩
  have hp : rightB (putT s t) = true := by simp [rightB, a3]
  unfold applyT
  rw [if_pos ⟨h2, hp⟩, if_pos ⟨hr, a2⟩, put_both h1 h2 t (chk_good a2)]
/-- Three. -/
theorem then_three {s u v : List Bd} (h : (thenT s u).2 = 0) (k : (thenT u v).2 = 0) : thenT (thenT s u).1 v = thenT s (thenT u v).1 := by
  obtain ⟨h1, h2, h3, h4⟩ := then_ok h
  obtain ⟨-, k2, k3, k4⟩ := then_ok k
  have hr := bothL_right h3
  have kr := bothL_right k3
  rw [h4, k4]
  have e : ∀ w, w ∈ upto 256 → bothT (bothL s u (upto 256)) v w = bothT s (bothL u v (upto 256)) w := fun w hw => by
    have := mem_upto.1 hw
    rw [bothT, ofBs_bothL h1 h2 (by omega) (by omega), bothT, bothT, put_both h2 k2 _ (ofBs_good h1 (by omega) (by omega))]
  have eE : ∀ vs : List Int, (∀ w, w ∈ vs → w ∈ upto 256) → thenE (bothL s u (upto 256)) v vs = thenE s (bothL u v (upto 256)) vs := by
    intro vs
    induction vs with
    | nil => intro _; rfl
    | cons w vs ih => intro hw; rw [thenE, thenE, e w (hw w (by simp)), ih fun x hx => hw x (by simp [hx])]
  have eL : ∀ vs : List Int, (∀ w, w ∈ vs → w ∈ upto 256) → bothL (bothL s u (upto 256)) v vs = bothL s (bothL u v (upto 256)) vs := by
    intro vs
    induction vs with
    | nil => intro _; rfl
    | cons w vs ih =>
      intro hw
      have ih' := ih fun x hx => hw x (by simp [hx])
      have hm : movesB (bothL s u (upto 256)) v w = movesB s (bothL u v (upto 256)) w := by rw [movesB, movesB, e w (hw w (by simp))]
      unfold bothL at ih' ⊢
      cases hb : movesB s (bothL u v (upto 256)) w
      · rw [hb] at hm
        rw [List.filter_cons_of_neg (by simp only [bothL] at hm; simp [hm]), List.filter_cons_of_neg (by simp only [bothL] at hb; simp [hb])]
        exact ih'
      · rw [hb] at hm
        rw [List.filter_cons_of_pos (by simpa only [bothL] using hm), List.filter_cons_of_pos (by simpa only [bothL] using hb), List.map_cons, List.map_cons, ih']
        have := e w (hw w (by simp))
        simp only [bothL] at this
        rw [this]
  unfold thenT
  rw [if_pos ⟨hr, k2⟩, if_pos ⟨h1, kr⟩]
  unfold thenP
  rw [eE _ fun _ h => h, eL _ fun _ h => h]
end Go.Proofs.Ythplndalbfcbbaa
