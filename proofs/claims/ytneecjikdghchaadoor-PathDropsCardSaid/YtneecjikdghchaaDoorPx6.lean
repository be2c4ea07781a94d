/- path.Index: what goes. -/
import Derived.Test.YtneecjikdghchaaDoorPx5
set_option linter.unusedSimpArgs false
set_option linter.unusedVariables false
namespace Go.Proofs.YtneecjikdghchaaDoor
open Go.RowKit

section
variable {w w' : World} {A : Nat → Prop} {xb rb hb ab : Nat} {fr : Int → Option Value} {fh fa : Value → Option Value} {role : Nat → Option PRole} {X : List (Int × Tm)} {Hs : Spt → Int → Prop} {As : List Nat → Int → Prop} {base : Nat}
theorem PxAt.delS (h : PxAt w A xb rb hb ab fr fh fa role X Hs As base) {s : Spt} {ib : Nat} (hs : fh s.key = some (.map (some ib))) {id : Int} (hk : Keep (fun b => b ≠ ib) w w') (hm : MapAt w' ib (fun y => if y = id then none else setF (Hs s) y)) :
    PxAt w' A xb rb hb ab fr fh fa role X (fun s' x => Hs s' x ∧ ¬(s' = s ∧ x = id)) As base ∧ PMoved role role w w' := by
  obtain ⟨s', ib', e1, e2, e3, e4⟩ := h.h1 _ _ hs
  obtain rfl := key_inj e1
  simp only [Value.map.injEq, Option.some.injEq] at e2
  subst e2
  have hne : ∀ b r, role b = some r → r ≠ .hin s → b ≠ ib := fun b r hb hr e => by subst e; rw [e3] at hb; exact hr (Option.some.inj hb).symm
  refine ⟨{ h with
    x := hk.obj (hne _ _ h.ro.1 (by simp)) h.x
    r := h.r.keep hk (hne _ _ h.ro.2.1 (by simp))
    h := h.h.keep hk (hne _ _ h.ro.2.2.1 (by simp))
    a := h.a.keep hk (hne _ _ h.ro.2.2.2 (by simp))
    r1 := fun id v hv => by
      obtain ⟨u, q1, q2⟩ := h.r1 id v hv
      exact ⟨u, q1, q2.frame (fun b hb hlt => hk.block b hlt fun e => hb (.inr (by rw [e, e3]; simp))) fun _ _ h => h⟩
    h1 := fun k v hv => by
      obtain ⟨s', ib', q1, q2, q3, q4⟩ := h.h1 k v hv
      by_cases hss : s' = s
      · subst hss
        subst q1
        rw [hs] at hv
        simp only [Option.some.injEq] at hv
        subst hv
        simp only [Value.map.injEq, Option.some.injEq] at q2
        subst q2
        rw [setF_del] at hm
        exact ⟨s', ib, rfl, rfl, q3, by rw [setF_congr (T := fun x => x ≠ id ∧ Hs s' x) (fun x => by simp [and_comm])]; exact hm⟩
      · exact ⟨s', ib', q1, q2, q3, by rw [setF_congr (T := Hs s') (fun x => by simp [hss])]; exact q4.keep hk (hne _ _ q3 (by simpa using hss))⟩
    h2 := fun s' hn x hx => h.h2 s' hn x hx.1
    a1 := fun k v hv => by
      obtain ⟨p, ib', q1, q2, q3, q4⟩ := h.a1 k v hv
      exact ⟨p, ib', q1, q2, q3, q4.keep hk (hne _ _ q3 (by simp))⟩
    z := fun b hb => by have q := h.z b hb; have := hk.size; exact ⟨q.1, by omega, q.2.2⟩
    la := fun b hb => Nat.lt_of_lt_of_le (h.la b hb) hk.size }, hk.mono (fun b _ hb e => by rw [e, e3] at hb; cases hb), fun b hb => .inl hb⟩
theorem PxAt.delA (h : PxAt w A xb rb hb ab fr fh fa role X Hs As base) {s : List Nat} {ib : Nat} (hs : fa (placeS s) = some (.map (some ib))) {id : Int} (hk : Keep (fun b => b ≠ ib) w w') (hm : MapAt w' ib (fun y => if y = id then none else setF (As s) y)) :
    PxAt w' A xb rb hb ab fr fh fa role X Hs (fun s' x => As s' x ∧ ¬(s' = s ∧ x = id)) base ∧ PMoved role role w w' := by
  obtain ⟨s', ib', e1, e2, e3, e4⟩ := h.a1 _ _ hs
  obtain rfl := placeS_inj e1
  simp only [Value.map.injEq, Option.some.injEq] at e2
  subst e2
  have hne : ∀ b r, role b = some r → r ≠ .ain s → b ≠ ib := fun b r hb hr e => by subst e; rw [e3] at hb; exact hr (Option.some.inj hb).symm
  refine ⟨{ h with
    x := hk.obj (hne _ _ h.ro.1 (by simp)) h.x
    r := h.r.keep hk (hne _ _ h.ro.2.1 (by simp))
    a := h.a.keep hk (hne _ _ h.ro.2.2.2 (by simp))
    h := h.h.keep hk (hne _ _ h.ro.2.2.1 (by simp))
    r1 := fun id v hv => by
      obtain ⟨u, q1, q2⟩ := h.r1 id v hv
      exact ⟨u, q1, q2.frame (fun b hb hlt => hk.block b hlt fun e => hb (.inr (by rw [e, e3]; simp))) fun _ _ h => h⟩
    a1 := fun k v hv => by
      obtain ⟨s', ib', q1, q2, q3, q4⟩ := h.a1 k v hv
      by_cases hss : s' = s
      · subst hss
        subst q1
        rw [hs] at hv
        simp only [Option.some.injEq] at hv
        subst hv
        simp only [Value.map.injEq, Option.some.injEq] at q2
        subst q2
        rw [setF_del] at hm
        exact ⟨s', ib, rfl, rfl, q3, by rw [setF_congr (T := fun x => x ≠ id ∧ As s' x) (fun x => by simp [and_comm])]; exact hm⟩
      · exact ⟨s', ib', q1, q2, q3, by rw [setF_congr (T := As s') (fun x => by simp [hss])]; exact q4.keep hk (hne _ _ q3 (by simpa using hss))⟩
    a2 := fun s' hn x hx => h.a2 s' hn x hx.1
    h1 := fun k v hv => by
      obtain ⟨p, ib', q1, q2, q3, q4⟩ := h.h1 k v hv
      exact ⟨p, ib', q1, q2, q3, q4.keep hk (hne _ _ q3 (by simp))⟩
    z := fun b hb => by have q := h.z b hb; have := hk.size; exact ⟨q.1, by omega, q.2.2⟩
    la := fun b hb => Nat.lt_of_lt_of_le (h.la b hb) hk.size }, hk.mono (fun b _ hb e => by rw [e, e3] at hb; cases hb), fun b hb => .inl hb⟩
def cutX (X : List (Int × Tm)) (id : Int) : List (Int × Tm) := X.filter fun q => decide (q.1 ≠ id)
theorem mem_cutX {X : List (Int × Tm)} {id : Int} {q : Int × Tm} : q ∈ cutX X id ↔ q ∈ X ∧ q.1 ≠ id := by simp [cutX]
theorem PxAt.cut (h : PxAt w A xb rb hb ab fr fh fa role X Hs As base) {id : Int} (hk : Keep (fun b => b ≠ rb) w w') (hm : MapAt w' rb (fun y => if y = id then none else fr y)) :
    PxAt w' A xb rb hb ab (fun y => if y = id then none else fr y) fh fa role (cutX X id) Hs As base ∧ PMoved role role w w' := by
  have hne : ∀ b r, role b = some r → r ≠ .rows → b ≠ rb := fun b r hb hr e => by subst e; rw [h.ro.2.1] at hb; exact hr (Option.some.inj hb).symm
  refine ⟨{ h with
    x := hk.obj (hne _ _ h.ro.1 (by simp)) h.x
    r := hm
    h := h.h.keep hk (hne _ _ h.ro.2.2.1 (by simp))
    a := h.a.keep hk (hne _ _ h.ro.2.2.2 (by simp))
    r1 := fun y u hu => by
      by_cases e : y = id
      · simp [e] at hu
      · rw [if_neg e] at hu
        obtain ⟨q, q1, q2⟩ := h.r1 y u hu
        exact ⟨q, mem_cutX.2 ⟨q1, e⟩, q2.frame (fun b hb hlt => hk.block b hlt fun e => hb (.inr (by rw [e, h.ro.2.1]; simp))) fun _ _ h => h⟩
    r2 := fun y u hu => by
      obtain ⟨h8, h9⟩ := mem_cutX.1 hu
      obtain ⟨v', hv'⟩ := h.r2 y u h8
      exact ⟨v', by rw [if_neg h9]; exact hv'⟩
    nd := List.Pairwise.sublist (List.Sublist.map _ List.filter_sublist) h.nd
    h1 := fun k v hv => by
      obtain ⟨s, ib, q1, q2, q3, q4⟩ := h.h1 k v hv
      exact ⟨s, ib, q1, q2, q3, q4.keep hk (hne _ _ q3 (by simp))⟩
    a1 := fun k v hv => by
      obtain ⟨s, ib, q1, q2, q3, q4⟩ := h.a1 k v hv
      exact ⟨s, ib, q1, q2, q3, q4.keep hk (hne _ _ q3 (by simp))⟩
    z := fun b hb => by have q := h.z b hb; have := hk.size; exact ⟨q.1, by omega, q.2.2⟩
    la := fun b hb => Nat.lt_of_lt_of_le (h.la b hb) hk.size }, hk.mono (fun b _ hb e => by rw [e, h.ro.2.1] at hb; cases hb), fun b hb => .inl hb⟩
end
def pdropX (X : List (Int × Tm)) (id : Int) : List (Int × Tm) × Int := if id ∈ X.map (·.1) then (cutX X id, 0) else (X, 6)
def DropInv (w : World) (A : Nat → Prop) (xb rb hb ab : Nat) (fr : Int → Option Value) (role : Nat → Option PRole) (X : List (Int × Tm)) (id : Int) (t : Tm) (base : Nat) (fh fa : Value → Option Value) (wr : World) (k : Nat) : Prop :=
  PxAt wr A xb rb hb ab fr fh fa role X (fun s x => hasS X s x ∧ ¬(x = id ∧ s ∈ (psT [] t).take k)) (fun p x => hasP X p x ∧ ¬(x = id ∧ ∃ s ∈ (psT [] t).take k, s.p = p)) base ∧ PMoved role role w wr
theorem nodup_take {α β : Type} {f : α → β} {l : List α} (h : (l.map f).Nodup) {k : Nat} (hk : k < l.length) : ∀ s ∈ l.take k, f s ≠ f l[k] := by
  intro s hs e
  obtain ⟨j, hj, rfl⟩ := List.getElem_of_mem hs
  simp only [List.length_take] at hj
  rw [List.getElem_take] at e
  have h2 := List.pairwise_iff_getElem.1 h j k (by simp; omega) (by simpa using hk) (by omega)
  exact h2 (by simpa using e)
theorem hasS_cut {X : List (Int × Tm)} {id : Int} {t : Tm} (hn : (X.map (·.1)).Nodup) (hm : (id, t) ∈ X) (s : Spt) (x : Int) : (hasS X s x ∧ ¬(x = id ∧ s ∈ psT [] t)) ↔ hasS (cutX X id) s x := by
  constructor
  · rintro ⟨⟨u, h1, h2⟩, h3⟩
    refine ⟨u, mem_cutX.2 ⟨h1, fun e => h3 ⟨e, ?_⟩⟩, h2⟩
    simp only at e
    subst e
    rw [← fst_inj hn h1 hm]; exact h2
  · rintro ⟨u, h1, h2⟩
    obtain ⟨h3, h4⟩ := mem_cutX.1 h1
    exact ⟨⟨u, h3, h2⟩, fun h => h4 h.1⟩
theorem hasP_cut {X : List (Int × Tm)} {id : Int} {t : Tm} (hn : (X.map (·.1)).Nodup) (hm : (id, t) ∈ X) (p : List Nat) (x : Int) : (hasP X p x ∧ ¬(x = id ∧ ∃ s ∈ psT [] t, s.p = p)) ↔ hasP (cutX X id) p x := by
  constructor
  · rintro ⟨⟨u, h1, h2⟩, h3⟩
    refine ⟨u, mem_cutX.2 ⟨h1, fun e => h3 ⟨e, ?_⟩⟩, h2⟩
    simp only at e
    subst e
    rw [← fst_inj hn h1 hm]; exact h2
  · rintro ⟨u, h1, h2⟩
    obtain ⟨h3, h4⟩ := mem_cutX.1 h1
    exact ⟨⟨u, h3, h2⟩, fun h => h4 h.1⟩
end Go.Proofs.YtneecjikdghchaaDoor
