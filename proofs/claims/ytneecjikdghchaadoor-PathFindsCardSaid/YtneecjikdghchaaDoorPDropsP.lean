/- PathDrops, purely; two indexes side by side. -/
import Derived.Test.YtneecjikdghchaaDoorAwake17
set_option linter.unusedSimpArgs false
set_option linter.unusedVariables false
namespace Go.Proofs.YtneecjikdghchaaDoor
open Go.RowKit

/-- What an index holds when the first terms have been put in by their places. -/
def allX (l : List Tm) : Nat → List (Int × Tm)
  | 0 => []
  | i + 1 => match l[i]? with
    | some t => if chk t = 0 then allX l i ++ [((i : Int), t)] else allX l i
    | none => allX l i
theorem allX_mem (l : List Tm) : ∀ (i : Nat) (q : Int × Tm), q ∈ allX l i ↔ ∃ j : Nat, j < i ∧ q.1 = j ∧ l[j]? = some q.2 ∧ chk q.2 = 0
  | 0, q => by simp [allX]
  | i + 1, q => by
    have ih := allX_mem l i q
    have split : (∃ j : Nat, j < i + 1 ∧ q.1 = j ∧ l[j]? = some q.2 ∧ chk q.2 = 0) ↔ q ∈ allX l i ∨ (q.1 = i ∧ l[i]? = some q.2 ∧ chk q.2 = 0) := by
      rw [ih]
      constructor
      · rintro ⟨j, h1, h2, h3, h4⟩
        rcases Nat.lt_or_ge j i with h | h
        · exact .inl ⟨j, h, h2, h3, h4⟩
        · have : j = i := by omega
          subst this; exact .inr ⟨h2, h3, h4⟩
      · rintro (⟨j, h1, h2, h3, h4⟩ | ⟨h2, h3, h4⟩)
        · exact ⟨j, by omega, h2, h3, h4⟩
        · exact ⟨i, by omega, h2, h3, h4⟩
    rw [split, allX]
    cases hl : l[i]? with
    | none => simp
    | some t =>
      simp only
      by_cases hc : chk t = 0
      · rw [if_pos hc, List.mem_append, List.mem_singleton]
        constructor
        · rintro (h | rfl)
          · exact .inl h
          · exact .inr ⟨rfl, rfl, hc⟩
        · rintro (h | ⟨h1, h2, h3⟩)
          · exact .inl h
          · simp only [Option.some.injEq] at h2
            exact .inr (by cases q; simp_all)
      · rw [if_neg hc]
        constructor
        · exact .inl
        · rintro (h | ⟨h1, h2, h3⟩)
          · exact h
          · simp only [Option.some.injEq] at h2; subst h2; exact absurd h3 hc
theorem allX_len (l : List Tm) : ∀ i : Nat, (allX l i).length ≤ i
  | 0 => by simp [allX]
  | i + 1 => by
    have := allX_len l i
    rw [allX]
    split
    · split
      · simp only [List.length_append, List.length_cons, List.length_nil]; omega
      · omega
    · omega
theorem cutX_len (X : List (Int × Tm)) (k : Int) : (cutX X k).length ≤ X.length := List.length_filter_le _ _
theorem allX_ids {l : List Tm} {i : Nat} {x : Int} (h : x ∈ (allX l i).map (·.1)) : ∃ j : Nat, j < i ∧ x = j ∧ ∃ t, l[j]? = some t ∧ chk t = 0 := by
  obtain ⟨q, hq, rfl⟩ := List.mem_map.1 h
  obtain ⟨j, h1, h2, h3, h4⟩ := (allX_mem l i q).1 hq
  exact ⟨j, h1, h2, _, h3, h4⟩
theorem put_iff {X : List (Int × Tm)} {i : Int} {t : Tm} (hn : i ∉ X.map (·.1)) (hl : X.length < 4096) : pputX X i t = if chk t = 0 then (X ++ [(i, t)], 0) else (X, 1) := by
  unfold pputX
  by_cases hc : chk t = 0
  · rw [if_neg (by simp only [hc, ne_eq, not_true, or_false]; exact hn), if_neg (by omega), if_pos hc]
  · rw [if_pos (.inr hc), if_neg hc]
theorem allX_put {l : List Tm} {i : Nat} (hi : i < l.length) (h20 : l.length ≤ 4096) : pputX (allX l i) i l[i] = (allX l (i + 1), if chk l[i] = 0 then 0 else 1) := by
  have hlen := allX_len l i
  rw [put_iff (fun h => by obtain ⟨j, h1, h2, -⟩ := allX_ids h; omega) (by omega)]
  rw [allX, List.getElem?_eq_getElem hi]
  simp only
  split <;> rfl
theorem cutX_append (X Y : List (Int × Tm)) (k : Int) : cutX (X ++ Y) k = cutX X k ++ cutX Y k := by simp [cutX]
theorem skipX_put {l : List Tm} {i : Nat} {k : Int} (hi : i < l.length) (h20 : l.length ≤ 4096) (hk : (i : Int) ≠ k) : pputX (cutX (allX l i) k) i l[i] = (cutX (allX l (i + 1)) k, if chk l[i] = 0 then 0 else 1) := by
  have hlen := allX_len l i
  have hlen2 := cutX_len (allX l i) k
  rw [put_iff (fun h => by
    obtain ⟨q, hq, h9⟩ := List.mem_map.1 h
    obtain ⟨j, h1, h2, -⟩ := (allX_mem l i q).1 (mem_cutX.1 hq).1
    omega) (by omega)]
  rw [allX, List.getElem?_eq_getElem hi]
  simp only
  split
  · rw [cutX_append]
    have : cutX [((i : Int), l[i])] k = [((i : Int), l[i])] := by simp [cutX, hk]
    rw [this]
  · rfl
theorem skipX_at {l : List Tm} {k : Nat} : cutX (allX l (k + 1)) k = cutX (allX l k) k := by
  rw [allX]
  split
  · split
    · rw [cutX_append]; simp [cutX]
    · rfl
  · rfl
theorem drop_all {l : List Tm} {k : Nat} (hk : k < l.length) : pdropX (allX l l.length) k = (cutX (allX l l.length) k, if chk l[k] = 0 then 0 else 6) := by
  unfold pdropX
  have hiff : ((k : Int) ∈ (allX l l.length).map (·.1)) ↔ chk l[k] = 0 := by
    constructor
    · intro h
      obtain ⟨j, h1, h2, t, h3, h4⟩ := allX_ids h
      have : j = k := by omega
      subst this
      rw [List.getElem?_eq_getElem hk] at h3
      simp only [Option.some.injEq] at h3
      rw [h3]; exact h4
    · intro h
      exact List.mem_map.2 ⟨(_, l[k]), (allX_mem _ _ _).2 ⟨k, hk, rfl, List.getElem?_eq_getElem hk, h⟩, rfl⟩
  by_cases hc : chk l[k] = 0
  · rw [if_pos (hiff.2 hc), if_pos hc]
  · rw [if_neg (fun h => hc (hiff.1 h)), if_neg hc]
    have : cutX (allX l l.length) k = allX l l.length := by
      unfold cutX
      rw [List.filter_eq_self]
      intro q hq
      simp only [decide_eq_true_eq]
      intro e
      exact hc (hiff.1 (List.mem_map.2 ⟨q, hq, e⟩))
    rw [this]
theorem drop_again (X : List (Int × Tm)) (k : Int) : pdropX (cutX X k) k = (cutX X k, 6) := by
  unfold pdropX
  rw [if_neg]
  intro h
  obtain ⟨q, hq, h9⟩ := List.mem_map.1 h
  exact (mem_cutX.1 hq).2 h9

/-! ### In memory -/
theorem PxAt.shift {w w' : World} {A A' : Nat → Prop} {xb rb hb ab : Nat} {fr : Int → Option Value} {fh fa : Value → Option Value} {role : Nat → Option PRole} {X : List (Int × Tm)} {Hs : Spt → Int → Prop} {As : List Nat → Int → Prop} {base : Nat}
    (h : PxAt w A xb rb hb ab fr fh fa role X Hs As base) (hk : Keep (fun b => ¬ A b) w w') (hA : ∀ b, A' b → (A b ∨ w.heap.size ≤ b) ∧ b < w'.heap.size) : PxAt w' A' xb rb hb ab fr fh fa role X Hs As base := by
  have hn : ∀ b r, role b = some r → ¬ A b := fun b r hb => (h.z b (by rw [hb]; simp)).2.2
  exact { h with
    x := hk.obj (hn _ _ h.ro.1) h.x
    r := h.r.keep hk (hn _ _ h.ro.2.1)
    h := h.h.keep hk (hn _ _ h.ro.2.2.1)
    a := h.a.keep hk (hn _ _ h.ro.2.2.2)
    r1 := fun id v hv => by
      obtain ⟨u, q1, q2⟩ := h.r1 id v hv
      refine ⟨u, q1, q2.frame (fun b hb hlt => hk.block b hlt fun e => hb (.inl e)) fun b hlt hb => ?_⟩
      rcases hb with hb | hb
      · rcases (hA b hb).1 with h9 | h9
        · exact .inl h9
        · omega
      · exact .inr hb
    h1 := fun k v hv => by
      obtain ⟨s, ib, q1, q2, q3, q4⟩ := h.h1 k v hv
      exact ⟨s, ib, q1, q2, q3, q4.keep hk (hn _ _ q3)⟩
    a1 := fun k v hv => by
      obtain ⟨s, ib, q1, q2, q3, q4⟩ := h.a1 k v hv
      exact ⟨s, ib, q1, q2, q3, q4.keep hk (hn _ _ q3)⟩
    z := fun b hb => by
      have q := h.z b hb
      have := hk.size
      refine ⟨q.1, by omega, fun h9 => ?_⟩
      rcases (hA b h9).1 with h8 | h8
      · exact q.2.2 h8
      · omega
    la := fun b hb => (hA b hb).2 }
theorem PxOk.shift {w w' : World} {A A' : Nat → Prop} {xb rb hb ab : Nat} {role : Nat → Option PRole} {X : List (Int × Tm)} {base : Nat} (h : PxOk w A xb rb hb ab X role base) (hk : Keep (fun b => ¬ A b) w w') (hA : ∀ b, A' b → (A b ∨ w.heap.size ≤ b) ∧ b < w'.heap.size) : PxOk w' A' xb rb hb ab X role base := by
  obtain ⟨fr, fh, fa, hx⟩ := h
  exact ⟨fr, fh, fa, hx.shift hk hA⟩
/-- One index stays as it is while the other one is changed. -/
theorem PxOk.other {w w' : World} {xb rb hb ab yb sb tb ub : Nat} {rx rx' ry : Nat → Option PRole} {X Y : List (Int × Tm)} {bx b_y : Nat} {A : Nat → Prop} (hy : PxOk w (fun b => rx b ≠ none) yb sb tb ub Y ry b_y) (hx' : PxOk w' A xb rb hb ab X rx' bx) (m : PMoved rx rx' w w') :
    PxOk w' (fun b => rx' b ≠ none) yb sb tb ub Y ry b_y :=
  hy.shift (m.1.mono fun b _ hb => Decidable.not_not.1 hb) fun b hb => ⟨m.2 b hb, (hx'.z b hb).2⟩
theorem Terms.over {w wr : World} {s : Value} {ts : List Tm} (h : Terms (fun _ => False) w s ts) (hB : Below w.heap.size w wr) {R : Nat → Prop} (hr : ∀ b, R b → w.heap.size ≤ b) : Terms R wr s ts :=
  RepD.frame (A := fun _ => False) (w := w) (fun b _ hb => hB.block b hb) (fun b hb hR => by have := hr b hR; omega) _ _ h
end Go.Proofs.YtneecjikdghchaaDoor
