/- path.Index in memory; mark, walked. -/
import Derived.DeepKeys4
import Derived.StringKeys
import Derived.Test.YtneecjikdghchaaDoorPx1
import Derived.Test.YtneecjikdghchaaDoorPxM
import Derived.Test.YtneecjikdghchaaDoorKeyMap2
set_option linter.unusedSimpArgs false
set_option linter.unusedVariables false
namespace Go.Proofs.YtneecjikdghchaaDoor
open Go.RowKit

theorem pxLaid : laidOutB Tryd.prog = true := by kernel_rfl
theorem spotRow : 68 < Tryd.prog.types.size := of_decide_eq_true (by kernel_rfl)
set_option maxRecDepth 100000 in
theorem spotWide : (match Tryd.prog.underlying 68 with | some (.array _ _) | some (.struct _) => true | _ => false) = true := by rw [Tryd.underlying68]
set_option maxRecDepth 100000 in
theorem spotKeyed : Maps.Keyed Tryd.prog 68 := Maps.Keyed.of_law (deep_law_laid pxLaid (m := 2) (by omega) spotRow (by kernel_rfl) spotWide)
theorem spotCells : Tryd.prog.cellsOf 68 = 3 := by kernel_rfl
theorem pcellsInt : Tryd.prog.cellsOf 3 = 1 := by kernel_rfl
theorem pcellsStr : Tryd.prog.cellsOf 9 = 1 := by kernel_rfl
theorem spotKeyType : Tryd.prog.keyType 68 = true := by kernel_rfl
structure SptOk (s : Spt) : Prop where
  p : (dotB s.p).length ≤ 1000000
  h0 : -9223372036854775808 ≤ s.h
  h1 : s.h ≤ 9223372036854775807
  n : s.n ≤ 1000000
theorem plB_size {p : List Nat} : (plB p).size = (dotB p).length := by simp [plB, ByteArray.size]
theorem place_key {p : List Nat} (h : (dotB p).length ≤ 1000000) : keyOf Tryd.prog 9 (placeS p) = some (.string (plB p).data.toList) :=
  WideMaps.keyOf_string_mk Tryd.underlying9 (by rw [plB_size]; unfold maxLen; omega)
theorem pwf {x : Int} (h : -9223372036854775808 ≤ x) (h' : x ≤ 9223372036854775807) : (Lit.int .i64 x).wf = true := wf_i64 h h'
set_option maxRecDepth 100000 in
theorem spot_key {s : Spt} (h : SptOk s) : ∃ l, keyOf Tryd.prog 68 s.key = some l := by
  have hf : s.key.formed Tryd.prog 68 = true := by simp [Value.formed, Spt.key, Tryd.underlying68, spotCells]
  have hl : (Tryd.prog.keyLits (Tryd.prog.types.size + 1) 68 s.key.cells.toList).isSome = true := by
    obtain ⟨n, hn⟩ : ∃ n, Tryd.prog.types.size = n + 1 := ⟨Tryd.prog.types.size - 1, by have := spotRow; omega⟩
    rw [hn]
    have hp : (plB s.p).size ≤ maxLen := by rw [plB_size]; have := h.p; unfold maxLen; omega
    have w1 := pwf h.h0 h.h1
    have w2 := pwf (x := (s.n : Int)) (by omega) (by have := h.n; omega)
    simp [Program.keyLits, Tryd.underlying68, Tryd.underlying3, Tryd.underlying9, spotCells, pcellsInt, pcellsStr, Spt.key, Value.cells, hp, w1, w2]
  obtain ⟨ls, hls⟩ := Option.isSome_iff_exists.1 hl
  refine ⟨.string (keyBytes ls), ?_⟩
  unfold keyOf
  simp only [Tryd.underlying68, spotKeyType, hf, Bool.and_self, if_true, hls, Option.map_some]

/-! ### In memory -/
inductive PRole where
  | top
  | rows
  | haves
  | anys
  | hin (s : Spt)
  | ain (p : List Nat)
/-- A row of spots that is read. -/
def SpotsR (A : Nat → Prop) (w : World) (v : Value) (l : List Spt) : Prop :=
  ∃ a c, v = .slice a l.length c ∧ l.length ≤ c ∧ ∀ j (hj : j < l.length), ∃ b off, a = some ⟨b, off, none⟩ ∧ ¬ A b ∧ w.cell? ⟨b, off + j * 3, none⟩ = some (placeS (l[j]).p) ∧ w.cell? ⟨b, off + j * 3 + 1, none⟩ = some (.int .i64 (l[j]).h) ∧ w.cell? ⟨b, off + j * 3 + 2, none⟩ = some (.int .i64 (l[j]).n)
theorem SpotsR.frame {A B : Nat → Prop} {w w' : World} {v : Value} {l : List Spt} (h : SpotsR A w v l) (hk : ∀ b, ¬ A b → b < w.heap.size → w'.heap[b]? = w.heap[b]?) (hB : ∀ b, b < w.heap.size → B b → A b) : SpotsR B w' v l := by
  obtain ⟨a, c, h1, h2, h3⟩ := h
  refine ⟨a, c, h1, h2, fun j hj => ?_⟩
  obtain ⟨b, off, e1, e2, e3, e4, e5⟩ := h3 j hj
  have hlt : b < w.heap.size := World.block_lt_of_cell? _ _ e3
  have hb := hk b e2 hlt
  have hc : ∀ o, w'.cell? ⟨b, o, none⟩ = w.cell? ⟨b, o, none⟩ := fun o => World.cell?_of_block hb
  exact ⟨b, off, e1, fun h => e2 (hB b hlt h), (hc _).trans e3, (hc _).trans e4, (hc _).trans e5⟩
structure PxAt (w : World) (A : Nat → Prop) (xb rb hb ab : Nat) (fr : Int → Option Value) (fh fa : Value → Option Value) (role : Nat → Option PRole) (X : List (Int × Tm)) (Hs : Spt → Int → Prop) (As : List Nat → Int → Prop) (base : Nat) : Prop where
  x : w.heap[xb]? = some (.cells #[.map (some rb), .map (some hb), .map (some ab)] 63 (0, 0))
  r : MapAt w rb fr
  h : MapV Tryd.prog 68 w hb fh
  a : MapV Tryd.prog 9 w ab fa
  r1 : ∀ id v, fr id = some v → ∃ u, (id, u) ∈ X ∧ SpotsR (fun b => A b ∨ role b ≠ none) w v (psT [] u)
  r2 : ∀ id u, (id, u) ∈ X → ∃ v, fr id = some v
  nd : (X.map (·.1)).Nodup
  h1 : ∀ k v, fh k = some v → ∃ s ib, k = s.key ∧ v = .map (some ib) ∧ role ib = some (.hin s) ∧ MapAt w ib (setF (Hs s))
  h2 : ∀ s, fh s.key = none → ∀ x, ¬ Hs s x
  a1 : ∀ k v, fa k = some v → ∃ p ib, k = placeS p ∧ v = .map (some ib) ∧ role ib = some (.ain p) ∧ MapAt w ib (setF (As p))
  a2 : ∀ p, fa (placeS p) = none → ∀ x, ¬ As p x
  ro : role xb = some .top ∧ role rb = some .rows ∧ role hb = some .haves ∧ role ab = some .anys
  z : ∀ b, role b ≠ none → base ≤ b ∧ b < w.heap.size ∧ ¬ A b
  la : ∀ b, A b → b < w.heap.size
def PMoved (role role' : Nat → Option PRole) (w w' : World) : Prop := Keep (fun b => role b = none) w w' ∧ ∀ b, role' b ≠ none → role b ≠ none ∨ w.heap.size ≤ b
theorem setF_congr {S T : Int → Prop} (h : ∀ x, S x ↔ T x) : setF S = setF T := by
  have : S = T := funext fun x => propext (h x)
  rw [this]
theorem key_inj {s s' : Spt} (h : s.key = s'.key) : s = s' := by
  simp only [Spt.key, Value.agg.injEq, Array.mk.injEq, List.cons.injEq, and_true, Value.int.injEq, true_and] at h
  obtain ⟨h1, h2, h3⟩ := h
  have := placeS_inj h1
  cases s; cases s'
  simp only at this h2 h3
  subst this h2
  simp only [Spt.mk.injEq, true_and]
  omega
section
variable {w w' : World} {A : Nat → Prop} {xb rb hb ab : Nat} {fr : Int → Option Value} {fh fa : Value → Option Value} {role : Nat → Option PRole} {X : List (Int × Tm)} {Hs : Spt → Int → Prop} {As : List Nat → Int → Prop} {base : Nat}
theorem PxAt.below (h : PxAt w A xb rb hb ab fr fh fa role X Hs As base) (hB : Below w.heap.size w w') : PxAt w' A xb rb hb ab fr fh fa role X Hs As base :=
  { h with
    x := (hB.block xb (Array.getElem?_eq_some_iff.1 h.x).1).trans h.x
    r := h.r.below hB
    h := h.h.below hB
    a := h.a.below hB
    r1 := fun id v hv => by
      obtain ⟨u, e1, e2⟩ := h.r1 id v hv
      exact ⟨u, e1, e2.frame (fun b _ hb => hB.block b hb) fun _ _ h => h⟩
    h1 := fun k v hv => by
      obtain ⟨s, ib, e1, e2, e3, e4⟩ := h.h1 k v hv
      exact ⟨s, ib, e1, e2, e3, e4.below hB⟩
    a1 := fun k v hv => by
      obtain ⟨s, ib, e1, e2, e3, e4⟩ := h.a1 k v hv
      exact ⟨s, ib, e1, e2, e3, e4.below hB⟩
    z := fun b hb => by have q := h.z b hb; have := hB.size; exact ⟨q.1, by omega, q.2.2⟩
    la := fun b hb => Nat.lt_of_lt_of_le (h.la b hb) hB.size }
/-- An id more in a spot's set, which was there. -/
theorem PxAt.had (h : PxAt w A xb rb hb ab fr fh fa role X Hs As base) {s : Spt} {ib : Nat} (hs : fh s.key = some (.map (some ib))) {id : Int} (hk : Keep (fun b => b ≠ ib) w w') (hm : MapAt w' ib (fun y => if y = id then some (.bool true) else setF (Hs s) y)) :
    PxAt w' A xb rb hb ab fr fh fa role X (fun s' x => Hs s' x ∨ (s' = s ∧ x = id)) As base ∧ PMoved role role w w' := by
  obtain ⟨s', ib', e1, e2, e3, e4⟩ := h.h1 _ _ hs
  obtain rfl := key_inj e1
  simp only [Value.map.injEq, Option.some.injEq] at e2
  subst e2
  have hne : ∀ b r, role b = some r → r ≠ .hin s → b ≠ ib := fun b r hb hr e => by subst e; rw [e3] at hb; exact hr (Option.some.inj hb).symm
  refine ⟨{ h with
    x := hk.obj (hne _ _ h.ro.1 (by simp)) h.x
    r := h.r.keep hk (hne _ _ h.ro.2.1 (by simp))
    h := h.h.keep hk (hne _ _ h.ro.2.2.1 (by simp))
    a := h.a.keep hk (hne _ _ h.ro.2.2.2 (by simp))
    r1 := fun id v hv => by
      obtain ⟨u, q1, q2⟩ := h.r1 id v hv
      exact ⟨u, q1, q2.frame (fun b hb hlt => hk.block b hlt fun e => hb (.inr (by rw [e, e3]; simp))) fun _ _ h => h⟩
    h1 := fun k v hv => by
      obtain ⟨s', ib', q1, q2, q3, q4⟩ := h.h1 k v hv
      by_cases hss : s' = s
      · subst hss
        subst q1
        rw [hs] at hv
        simp only [Option.some.injEq] at hv
        subst hv
        simp only [Value.map.injEq, Option.some.injEq] at q2
        subst q2
        rw [setF_put] at hm
        exact ⟨s', ib, rfl, rfl, q3, by rw [setF_congr (T := fun x => x = id ∨ Hs s' x) (fun x => by simp [or_comm])]; exact hm⟩
      · exact ⟨s', ib', q1, q2, q3, by rw [setF_congr (T := Hs s') (fun x => by simp [hss])]; exact q4.keep hk (hne _ _ q3 (by simpa using hss))⟩
    h2 := fun s' hn x hx => by
      rcases hx with hx | ⟨rfl, rfl⟩
      · exact h.h2 s' hn x hx
      · rw [hs] at hn; cases hn
    a1 := fun k v hv => by
      obtain ⟨p, ib', q1, q2, q3, q4⟩ := h.a1 k v hv
      exact ⟨p, ib', q1, q2, q3, q4.keep hk (hne _ _ q3 (by simp))⟩
    z := fun b hb => by have q := h.z b hb; have := hk.size; exact ⟨q.1, by omega, q.2.2⟩
    la := fun b hb => Nat.lt_of_lt_of_le (h.la b hb) hk.size }, hk.mono (fun b _ hb e => by rw [e, e3] at hb; cases hb), fun b hb => .inl hb⟩
/-- An id in a spot's set, which is new. -/
theorem PxAt.news (h : PxAt w A xb rb hb ab fr fh fa role X Hs As base) {s : Spt} {ib : Nat} (hs : fh s.key = none) {id : Int} {fh' : Value → Option Value} (f1 : fh' s.key = some (.map (some ib))) (f2 : ∀ y, y ≠ s.key → fh' y = fh y) (hib : w.heap.size ≤ ib) (hibl : ib < w'.heap.size) (hbs : base ≤ w.heap.size)
    (hk : Keep (fun b => b ≠ ib ∧ b ≠ hb) w w') (hv : MapV Tryd.prog 68 w' hb fh') (hm : MapAt w' ib (setF fun x => x = id)) :
    PxAt w' A xb rb hb ab fr fh' fa (fun b => if b = ib then some (.hin s) else role b) X (fun s' x => Hs s' x ∨ (s' = s ∧ x = id)) As base ∧ PMoved role (fun b => if b = ib then some (.hin s) else role b) w w' := by
  have hnone : role ib = none := by
    cases hr : role ib with
    | none => rfl
    | some r => have := h.z ib (by rw [hr]; simp); omega
  have hold : ∀ b r, role b = some r → b ≠ ib := fun b r hb e => by subst e; rw [hnone] at hb; cases hb
  have hhb : ∀ b r, role b = some r → r ≠ .haves → b ≠ hb := fun b r hb hr e => by subst e; rw [h.ro.2.2.1] at hb; exact hr (Option.some.inj hb).symm
  have hif : ∀ b r, role b = some r → (if b = ib then some (PRole.hin s) else role b) = some r := fun b r hb => by rw [if_neg (hold b r hb), hb]
  refine ⟨{
    x := hk.obj ⟨hold _ _ h.ro.1, hhb _ _ h.ro.1 (by simp)⟩ h.x
    r := h.r.keep hk ⟨hold _ _ h.ro.2.1, hhb _ _ h.ro.2.1 (by simp)⟩
    h := hv
    a := h.a.keep hk ⟨hold _ _ h.ro.2.2.2, hhb _ _ h.ro.2.2.2 (by simp)⟩
    r1 := fun id v hv => by
      obtain ⟨u, q1, q2⟩ := h.r1 id v hv
      refine ⟨u, q1, q2.frame (fun b hb hlt => hk.block b hlt ⟨fun e => by omega, fun e => hb (.inr (by rw [e, h.ro.2.2.1]; simp))⟩) fun b hlt hb => ?_⟩
      rcases hb with hb | hb
      · exact .inl hb
      · rw [if_neg (by omega)] at hb; exact .inr hb
    r2 := h.r2
    nd := h.nd
    h1 := fun k v hv => by
      by_cases hkk : k = s.key
      · subst hkk
        rw [f1] at hv
        simp only [Option.some.injEq] at hv
        exact ⟨s, ib, rfl, hv.symm, by simp, by rw [setF_congr (T := fun x => x = id) (fun x => by simp; exact fun hx => absurd hx (h.h2 s hs x))]; exact hm⟩
      · rw [f2 k hkk] at hv
        obtain ⟨s', ib', q1, q2, q3, q4⟩ := h.h1 k v hv
        have hss : s' ≠ s := fun e => hkk (by rw [q1, e])
        exact ⟨s', ib', q1, q2, hif _ _ q3, by rw [setF_congr (T := Hs s') (fun x => by simp [hss])]; exact q4.keep hk ⟨hold _ _ q3, hhb _ _ q3 (by simp)⟩⟩
    h2 := fun s' hn x hx => by
      by_cases hss : s' = s
      · subst hss; rw [f1] at hn; cases hn
      · rcases hx with hx | ⟨e, -⟩
        · exact h.h2 s' (by rw [← f2 _ (fun e => hss (key_inj e))]; exact hn) x hx
        · exact hss e
    a1 := fun k v hv => by
      obtain ⟨p, ib', q1, q2, q3, q4⟩ := h.a1 k v hv
      exact ⟨p, ib', q1, q2, hif _ _ q3, q4.keep hk ⟨hold _ _ q3, hhb _ _ q3 (by simp)⟩⟩
    a2 := h.a2
    ro := ⟨hif _ _ h.ro.1, hif _ _ h.ro.2.1, hif _ _ h.ro.2.2.1, hif _ _ h.ro.2.2.2⟩
    z := fun b hb => by
      by_cases e : b = ib
      · subst e; exact ⟨by omega, hibl, fun hA => by have := h.la b hA; omega⟩
      · rw [if_neg e] at hb
        have q := h.z b hb; have := hk.size; exact ⟨q.1, by omega, q.2.2⟩
    la := fun b hb => Nat.lt_of_lt_of_le (h.la b hb) hk.size }, hk.mono (fun b hlt hb => ⟨fun e => by omega, fun e => by rw [e, h.ro.2.2.1] at hb; cases hb⟩), fun b hb => ?_⟩
  by_cases e : b = ib
  · subst e; exact .inr hib
  · simp only [if_neg e] at hb; exact .inl hb
/-- An id more in a place's set, which was there. -/
theorem PxAt.hadA (h : PxAt w A xb rb hb ab fr fh fa role X Hs As base) {s : List Nat} {ib : Nat} (hs : fa (placeS s) = some (.map (some ib))) {id : Int} (hk : Keep (fun b => b ≠ ib) w w') (hm : MapAt w' ib (fun y => if y = id then some (.bool true) else setF (As s) y)) :
    PxAt w' A xb rb hb ab fr fh fa role X Hs (fun s' x => As s' x ∨ (s' = s ∧ x = id)) base ∧ PMoved role role w w' := by
  obtain ⟨s', ib', e1, e2, e3, e4⟩ := h.a1 _ _ hs
  obtain rfl := placeS_inj e1
  simp only [Value.map.injEq, Option.some.injEq] at e2
  subst e2
  have hne : ∀ b r, role b = some r → r ≠ .ain s → b ≠ ib := fun b r hb hr e => by subst e; rw [e3] at hb; exact hr (Option.some.inj hb).symm
  refine ⟨{ h with
    x := hk.obj (hne _ _ h.ro.1 (by simp)) h.x
    r := h.r.keep hk (hne _ _ h.ro.2.1 (by simp))
    a := h.a.keep hk (hne _ _ h.ro.2.2.2 (by simp))
    h := h.h.keep hk (hne _ _ h.ro.2.2.1 (by simp))
    r1 := fun id v hv => by
      obtain ⟨u, q1, q2⟩ := h.r1 id v hv
      exact ⟨u, q1, q2.frame (fun b hb hlt => hk.block b hlt fun e => hb (.inr (by rw [e, e3]; simp))) fun _ _ h => h⟩
    a1 := fun k v hv => by
      obtain ⟨s', ib', q1, q2, q3, q4⟩ := h.a1 k v hv
      by_cases hss : s' = s
      · subst hss
        subst q1
        rw [hs] at hv
        simp only [Option.some.injEq] at hv
        subst hv
        simp only [Value.map.injEq, Option.some.injEq] at q2
        subst q2
        rw [setF_put] at hm
        exact ⟨s', ib, rfl, rfl, q3, by rw [setF_congr (T := fun x => x = id ∨ As s' x) (fun x => by simp [or_comm])]; exact hm⟩
      · exact ⟨s', ib', q1, q2, q3, by rw [setF_congr (T := As s') (fun x => by simp [hss])]; exact q4.keep hk (hne _ _ q3 (by simpa using hss))⟩
    a2 := fun s' hn x hx => by
      rcases hx with hx | ⟨rfl, rfl⟩
      · exact h.a2 s' hn x hx
      · rw [hs] at hn; cases hn
    h1 := fun k v hv => by
      obtain ⟨p, ib', q1, q2, q3, q4⟩ := h.h1 k v hv
      exact ⟨p, ib', q1, q2, q3, q4.keep hk (hne _ _ q3 (by simp))⟩
    z := fun b hb => by have q := h.z b hb; have := hk.size; exact ⟨q.1, by omega, q.2.2⟩
    la := fun b hb => Nat.lt_of_lt_of_le (h.la b hb) hk.size }, hk.mono (fun b _ hb e => by rw [e, e3] at hb; cases hb), fun b hb => .inl hb⟩
/-- An id in a place's set, which is new. -/
theorem PxAt.newsA (h : PxAt w A xb rb hb ab fr fh fa role X Hs As base) {s : List Nat} {ib : Nat} (hs : fa (placeS s) = none) {id : Int} {fa' : Value → Option Value} (f1 : fa' (placeS s) = some (.map (some ib))) (f2 : ∀ y, y ≠ (placeS s) → fa' y = fa y) (hib : w.heap.size ≤ ib) (hibl : ib < w'.heap.size) (hbs : base ≤ w.heap.size)
    (hk : Keep (fun b => b ≠ ib ∧ b ≠ ab) w w') (hv : MapV Tryd.prog 9 w' ab fa') (hm : MapAt w' ib (setF fun x => x = id)) :
    PxAt w' A xb rb hb ab fr fh fa' (fun b => if b = ib then some (.ain s) else role b) X Hs (fun s' x => As s' x ∨ (s' = s ∧ x = id)) base ∧ PMoved role (fun b => if b = ib then some (.ain s) else role b) w w' := by
  have hnone : role ib = none := by
    cases hr : role ib with
    | none => rfl
    | some r => have := h.z ib (by rw [hr]; simp); omega
  have hold : ∀ b r, role b = some r → b ≠ ib := fun b r hb e => by subst e; rw [hnone] at hb; cases hb
  have hhb : ∀ b r, role b = some r → r ≠ .anys → b ≠ ab := fun b r hb hr e => by subst e; rw [h.ro.2.2.2] at hb; exact hr (Option.some.inj hb).symm
  have hif : ∀ b r, role b = some r → (if b = ib then some (PRole.ain s) else role b) = some r := fun b r hb => by rw [if_neg (hold b r hb), hb]
  refine ⟨{
    x := hk.obj ⟨hold _ _ h.ro.1, hhb _ _ h.ro.1 (by simp)⟩ h.x
    r := h.r.keep hk ⟨hold _ _ h.ro.2.1, hhb _ _ h.ro.2.1 (by simp)⟩
    a := hv
    h := h.h.keep hk ⟨hold _ _ h.ro.2.2.1, hhb _ _ h.ro.2.2.1 (by simp)⟩
    r1 := fun id v hv => by
      obtain ⟨u, q1, q2⟩ := h.r1 id v hv
      refine ⟨u, q1, q2.frame (fun b hb hlt => hk.block b hlt ⟨fun e => by omega, fun e => hb (.inr (by rw [e, h.ro.2.2.2]; simp))⟩) fun b hlt hb => ?_⟩
      rcases hb with hb | hb
      · exact .inl hb
      · rw [if_neg (by omega)] at hb; exact .inr hb
    r2 := h.r2
    nd := h.nd
    a1 := fun k v hv => by
      by_cases hkk : k = (placeS s)
      · subst hkk
        rw [f1] at hv
        simp only [Option.some.injEq] at hv
        exact ⟨s, ib, rfl, hv.symm, by simp, by rw [setF_congr (T := fun x => x = id) (fun x => by simp; exact fun hx => absurd hx (h.a2 s hs x))]; exact hm⟩
      · rw [f2 k hkk] at hv
        obtain ⟨s', ib', q1, q2, q3, q4⟩ := h.a1 k v hv
        have hss : s' ≠ s := fun e => hkk (by rw [q1, e])
        exact ⟨s', ib', q1, q2, hif _ _ q3, by rw [setF_congr (T := As s') (fun x => by simp [hss])]; exact q4.keep hk ⟨hold _ _ q3, hhb _ _ q3 (by simp)⟩⟩
    a2 := fun s' hn x hx => by
      by_cases hss : s' = s
      · subst hss; rw [f1] at hn; cases hn
      · rcases hx with hx | ⟨e, -⟩
        · exact h.a2 s' (by rw [← f2 _ (fun e => hss (placeS_inj e))]; exact hn) x hx
        · exact hss e
    h1 := fun k v hv => by
      obtain ⟨p, ib', q1, q2, q3, q4⟩ := h.h1 k v hv
      exact ⟨p, ib', q1, q2, hif _ _ q3, q4.keep hk ⟨hold _ _ q3, hhb _ _ q3 (by simp)⟩⟩
    h2 := h.h2
    ro := ⟨hif _ _ h.ro.1, hif _ _ h.ro.2.1, hif _ _ h.ro.2.2.1, hif _ _ h.ro.2.2.2⟩
    z := fun b hb => by
      by_cases e : b = ib
      · subst e; exact ⟨by omega, hibl, fun hA => by have := h.la b hA; omega⟩
      · rw [if_neg e] at hb
        have q := h.z b hb; have := hk.size; exact ⟨q.1, by omega, q.2.2⟩
    la := fun b hb => Nat.lt_of_lt_of_le (h.la b hb) hk.size }, hk.mono (fun b hlt hb => ⟨fun e => by omega, fun e => by rw [e, h.ro.2.2.2] at hb; cases hb⟩), fun b hb => ?_⟩
  by_cases e : b = ib
  · subst e; exact .inr hib
  · simp only [if_neg e] at hb; exact .inl hb
end
end Go.Proofs.YtneecjikdghchaaDoor
