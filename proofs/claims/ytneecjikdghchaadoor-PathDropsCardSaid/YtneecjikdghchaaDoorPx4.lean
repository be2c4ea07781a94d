/- path.Index: New, Put, Size. -/
import Derived.Test.YtneecjikdghchaaDoorPx3
import Derived.Test.YtneecjikdghchaaDoorCheck
set_option linter.unusedSimpArgs false
set_option linter.unusedVariables false
namespace Go.Proofs.YtneecjikdghchaaDoor
open Go.RowKit

def hasS (X : List (Int × Tm)) (s : Spt) (x : Int) : Prop := ∃ u, (x, u) ∈ X ∧ s ∈ psT [] u
def hasP (X : List (Int × Tm)) (p : List Nat) (x : Int) : Prop := ∃ u, (x, u) ∈ X ∧ ∃ s, s ∈ psT [] u ∧ s.p = p
theorem spC_get : ∀ (l : List Spt) (j i : Nat) (hj : j < l.length), i < 3 → (spC l)[j * 3 + i]? = (l[j]).cells[i]?
  | s :: l, 0, i, _, hi => by
    simp only [spC, List.map_cons, List.flatten_cons, Nat.zero_mul, Nat.zero_add, List.getElem_cons_zero]
    rw [List.getElem?_append_left (by simp [Spt.cells]; omega)]
  | s :: l, j + 1, i, hj, hi => by
    have := spC_get l j i (by simpa using hj) hi
    simp only [spC, List.map_cons, List.flatten_cons, List.getElem_cons_succ] at this ⊢
    rw [List.getElem?_append_right (by simp [Spt.cells]; omega), ← this]
    congr 1
    simp [Spt.cells]; omega
theorem SpotsR.of_own {A : Nat → Prop} {w : World} {base e : Nat} {v : Value} {l : List Spt} (h : w.ownsRow base e 3 v l.length (spC l)) (hA : ∀ b, v.ownBlock = some b → ¬ A b) : SpotsR A w v l := by
  have h' := h
  rcases h.2 with ⟨h1, h2⟩ | ⟨g, cap, cur, h1, hg, hh, hn, hm, hs, ht⟩
  · exact ⟨none, 0, by rw [h1, h2], by omega, fun j hj => by omega⟩
  · refine ⟨_, _, h1, hn, fun j hj => ⟨g, 0, rfl, hA g (by rw [h1]; rfl), ?_, ?_, ?_⟩⟩
    · have := h'.cells (g := g) (by rw [h1]; rfl) (j * 3 + 0) _ ((spC_get l j 0 hj (by omega)).trans rfl)
      rw [add_plain] at this; simpa using this
    · have := h'.cells (g := g) (by rw [h1]; rfl) (j * 3 + 1) _ ((spC_get l j 1 hj (by omega)).trans rfl)
      rw [add_plain] at this; simpa [Nat.add_assoc] using this
    · have := h'.cells (g := g) (by rw [h1]; rfl) (j * 3 + 2) _ ((spC_get l j 2 hj (by omega)).trans rfl)
      rw [add_plain] at this; simpa [Nat.add_assoc] using this
section
variable {w w' : World} {A : Nat → Prop} {xb rb hb ab : Nat} {fr : Int → Option Value} {fh fa : Value → Option Value} {role : Nat → Option PRole} {X : List (Int × Tm)} {Hs : Spt → Int → Prop} {As : List Nat → Int → Prop} {base : Nat}
theorem PxAt.congr (h : PxAt w A xb rb hb ab fr fh fa role X Hs As base) {Hs' : Spt → Int → Prop} {As' : List Nat → Int → Prop} (e1 : ∀ s x, Hs s x ↔ Hs' s x) (e2 : ∀ s x, As s x ↔ As' s x) : PxAt w A xb rb hb ab fr fh fa role X Hs' As' base := by
  have h1 : Hs = Hs' := funext fun s => funext fun x => propext (e1 s x)
  have h2 : As = As' := funext fun s => funext fun x => propext (e2 s x)
  rw [← h1, ← h2]; exact h
theorem PxAt.put (h : PxAt w A xb rb hb ab fr fh fa role X Hs As base) {id : Int} {t : Tm} {v : Value} (hn : fr id = none) (hk : Keep (fun b => b ≠ rb) w w') (hm : MapAt w' rb (fun y => if y = id then some v else fr y)) (hv : SpotsR (fun b => A b ∨ role b ≠ none) w' v (psT [] t)) :
    PxAt w' A xb rb hb ab (fun y => if y = id then some v else fr y) fh fa role (X ++ [(id, t)]) Hs As base ∧ PMoved role role w w' := by
  have hne : ∀ b r, role b = some r → r ≠ .rows → b ≠ rb := fun b r hb hr e => by subst e; rw [h.ro.2.1] at hb; exact hr (Option.some.inj hb).symm
  have hid : ∀ u, (id, u) ∉ X := fun u hu => by obtain ⟨v, hv⟩ := h.r2 id u hu; rw [hn] at hv; cases hv
  refine ⟨{ h with
    x := hk.obj (hne _ _ h.ro.1 (by simp)) h.x
    r := hm
    h := h.h.keep hk (hne _ _ h.ro.2.2.1 (by simp))
    a := h.a.keep hk (hne _ _ h.ro.2.2.2 (by simp))
    r1 := fun y u hu => by
      by_cases e : y = id
      · subst e
        rw [if_pos rfl] at hu
        simp only [Option.some.injEq] at hu
        subst hu
        exact ⟨t, by simp, hv⟩
      · rw [if_neg e] at hu
        obtain ⟨q, q1, q2⟩ := h.r1 y u hu
        exact ⟨q, by simp [q1], q2.frame (fun b hb hlt => hk.block b hlt fun e => hb (.inr (by rw [e, h.ro.2.1]; simp))) fun _ _ h => h⟩
    r2 := fun y u hu => by
      by_cases e : y = id
      · exact ⟨v, by rw [if_pos e]⟩
      · rcases List.mem_append.1 hu with hu | hu
        · obtain ⟨v', hv'⟩ := h.r2 y u hu
          exact ⟨v', by rw [if_neg e]; exact hv'⟩
        · simp at hu; exact absurd hu.1 e
    nd := by
      rw [List.map_append, List.nodup_append]
      refine ⟨h.nd, by simp, fun a ha b hb e => ?_⟩
      obtain ⟨q, hq, rfl⟩ := List.mem_map.1 ha
      simp at hb
      exact hid q.2 (by rw [← hb, ← e]; exact hq)
    h1 := fun k v hv => by
      obtain ⟨s, ib, q1, q2, q3, q4⟩ := h.h1 k v hv
      exact ⟨s, ib, q1, q2, q3, q4.keep hk (hne _ _ q3 (by simp))⟩
    a1 := fun k v hv => by
      obtain ⟨s, ib, q1, q2, q3, q4⟩ := h.a1 k v hv
      exact ⟨s, ib, q1, q2, q3, q4.keep hk (hne _ _ q3 (by simp))⟩
    z := fun b hb => by have q := h.z b hb; have := hk.size; exact ⟨q.1, by omega, q.2.2⟩
    la := fun b hb => Nat.lt_of_lt_of_le (h.la b hb) hk.size }, hk.mono (fun b _ hb e => by rw [e, h.ro.2.1] at hb; cases hb), fun b hb => .inl hb⟩
end
theorem PMoved.trans {r1 r2 r3 : Nat → Option PRole} {w1 w2 w3 : World} (h : PMoved r1 r2 w1 w2) (k : PMoved r2 r3 w2 w3) : PMoved r1 r3 w1 w3 := by
  refine ⟨⟨k.1.os.trans h.1.os, k.1.tape.trans h.1.tape, k.1.output.trans h.1.output, Nat.le_trans h.1.size k.1.size, fun b hb hn => ?_⟩, fun b hb => ?_⟩
  · refine (k.1.block b (Nat.lt_of_lt_of_le hb h.1.size) ?_).trans (h.1.block b hb hn)
    cases hr : r2 b with
    | none => rfl
    | some r =>
      rcases h.2 b (by rw [hr]; simp) with h9 | h9
      · exact absurd hn h9
      · omega
  · rcases k.2 b hb with h9 | h9
    · exact h.2 b h9
    · exact .inr (Nat.le_trans h.1.size h9)
theorem PMoved.of_below {r : Nat → Option PRole} {w w' : World} (h : Below w.heap.size w w') : PMoved r r w w' := ⟨Keep.of_below h, fun b h => .inl h⟩
theorem PMoved.obj {r r' : Nat → Option PRole} {w w' : World} (h : PMoved r r' w w') {b : Nat} {o : Obj} (hb : r b = none) (ho : w.heap[b]? = some o) : w'.heap[b]? = some o ∧ r' b = none := by
  refine ⟨h.1.obj hb ho, ?_⟩
  cases hr : r' b with
  | none => rfl
  | some q =>
    rcases h.2 b (by rw [hr]; simp) with h9 | h9
    · exact absurd hb h9
    · have := (Array.getElem?_eq_some_iff.1 ho).1; omega
theorem PMoved.under {r r' : Nat → Option PRole} {w w' : World} {base : Nat} (h : PMoved r r' w w') (hlt : ∀ b, r b ≠ none → base ≤ b) (hb : base ≤ w.heap.size) : Below base w w' :=
  h.1.below (fun b hb' => by
    cases hr : r b with
    | none => rfl
    | some q => have := hlt b (by rw [hr]; simp); omega) hb
def PxOk (w : World) (A : Nat → Prop) (xb rb hb ab : Nat) (X : List (Int × Tm)) (role : Nat → Option PRole) (base : Nat) : Prop := ∃ fr fh fa, PxAt w A xb rb hb ab fr fh fa role X (hasS X) (hasP X) base

set_option maxHeartbeats 1000000 in
set_option maxRecDepth 100000 in
theorem pnew_calls (A : Nat → Prop) (w : World) (hA : ∀ b, A b → b < w.heap.size) : Calls Tryd.prog 10 #[] w fun e w' => ∃ xb rb hb ab role, e = .returned (.pointer (some ⟨xb, 0, none⟩)) ∧ PxOk w' A xb rb hb ab [] role w.heap.size ∧ Below w.heap.size w w' := by
  have hmm := @run_makeMap Tryd.prog
  go_enter Tryd.func10, Tryd.ntmps10
  go_wp2
  go_ret
  have hb0 : Below w.heap.size w (w.alloc (.map #[] 0)) := (Below.refl _ _).alloc (Nat.le_refl _) _
  have hb1 : Below (w.alloc (.map #[] 0)).heap.size (w.alloc (.map #[] 0)) ((w.alloc (.map #[] 0)).alloc (.map #[] 0)) := (Below.refl _ _).alloc (Nat.le_refl _) _
  have hb2 : Below ((w.alloc (.map #[] 0)).alloc (.map #[] 0)).heap.size ((w.alloc (.map #[] 0)).alloc (.map #[] 0)) (((w.alloc (.map #[] 0)).alloc (.map #[] 0)).alloc (.map #[] 0)) := (Below.refl _ _).alloc (Nat.le_refl _) _
  have hb3 : Below (((w.alloc (.map #[] 0)).alloc (.map #[] 0)).alloc (.map #[] 0)).heap.size (((w.alloc (.map #[] 0)).alloc (.map #[] 0)).alloc (.map #[] 0)) ((((w.alloc (.map #[] 0)).alloc (.map #[] 0)).alloc (.map #[] 0)).alloc (.cells #[.map (some w.heap.size), .map (some (w.heap.size + 1)), .map (some (w.heap.size + 1 + 1))] 63)) := (Below.refl _ _).alloc (Nat.le_refl _) _
  refine ⟨w.heap.size + 1 + 1 + 1, w.heap.size, w.heap.size + 1, w.heap.size + 1 + 1, fun b => if b = w.heap.size + 1 + 1 + 1 then some .top else if b = w.heap.size then some .rows else if b = w.heap.size + 1 then some .haves else if b = w.heap.size + 1 + 1 then some .anys else none, by simp, ⟨fun _ => none, fun _ => none, fun _ => none, ?_⟩, more_below (more_below (more_below hb0 hb1) hb2) hb3⟩
  have k3 := World.alloc_heap_new (((w.alloc (.map #[] 0)).alloc (.map #[] 0)).alloc (.map #[] 0)) (.cells #[.map (some w.heap.size), .map (some (w.heap.size + 1)), .map (some (w.heap.size + 1 + 1))] 63)
  simp only [World.size_alloc] at k3
  have m0 := (((MapAt.made w).below hb1).below hb2).below hb3
  have m1 := ((MapV.made Tryd.prog 68 (w.alloc (.map #[] 0))).below hb2).below hb3
  have m2 := (MapV.made Tryd.prog 9 ((w.alloc (.map #[] 0)).alloc (.map #[] 0))).below hb3
  simp only [World.size_alloc] at m1 m2
  exact { x := k3, r := m0, h := m1, a := m2, r1 := fun _ _ h => (by cases h), r2 := fun _ _ h => (by simp at h), nd := by simp, h1 := fun _ _ h => (by cases h), h2 := fun s _ x h => (by obtain ⟨u, h, -⟩ := h; simp at h), a1 := fun _ _ h => (by cases h), a2 := fun s _ x h => (by obtain ⟨u, h, -⟩ := h; simp at h)
          ro := ⟨by simp, by rw [if_neg (by omega)]; simp, by rw [if_neg (by omega), if_neg (by omega)]; simp, by rw [if_neg (by omega), if_neg (by omega), if_neg (by omega)]; simp⟩
          z := fun b hb => by
            have hb' : b = w.heap.size + 1 + 1 + 1 ∨ b = w.heap.size ∨ b = w.heap.size + 1 ∨ b = w.heap.size + 1 + 1 := by
              refine Decidable.byContradiction fun hn => hb ?_
              simp only [not_or] at hn
              rw [if_neg hn.1, if_neg hn.2.1, if_neg hn.2.2.1, if_neg hn.2.2.2]
            refine ⟨by omega, by simp; omega, fun h => by have := hA b h; omega⟩
          la := fun b hb => by have := hA b hb; simp; omega }
end Go.Proofs.YtneecjikdghchaaDoor
