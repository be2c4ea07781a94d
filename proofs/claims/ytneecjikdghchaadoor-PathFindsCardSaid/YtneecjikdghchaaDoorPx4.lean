/- path.Index: New, Put, Size. -/
import Derived.Test.YtneecjikdghchaaDoorDelI
import Derived.Test.YtneecjikdghchaaDoorKeyMap
import Derived.DeepKeys4
import Derived.StringKeys
import Derived.Test.YtneecjikdghchaaDoorPx1
import Derived.Test.YtneecjikdghchaaDoorKeyMap2
import Derived.Shelf.SlMaps.Clone
import Derived.Test.YtneecjikdghchaaDoorCheck
set_option linter.unusedSimpArgs false
set_option linter.unusedVariables false
namespace Go.Proofs.YtneecjikdghchaaDoor
section
open Go.RowKit

section
variable {P : Program} {W W' : World} {b : Nat} {f : Int → Option Value} {k e t : TypeId}
open Go.MapKept Go.WideShapes Go.ChangeMaps Go.ChangeShapes
theorem MapAt.look1 (h : MapAt W b f) (hk : P.underlying k = some (.int .i64)) (ht : P.underlying t = some (.map k e)) {z : Value} (hz : (zeroValue e).run P W = .ok z W) {x : Int} (h0 : -9223372036854775808 ≤ x) (h1 : x ≤ 9223372036854775807) :
    (Instr.lookup t (.map (some b)) (.int .i64 x) false).run P W = .ok ((f x).getD z) W := by
  obtain ⟨es, clock, hb, hkeys, huniq, hval, hdom, hst⟩ := h
  have K := Maps.int_keyed (P := P) hk
  have hkey := Maps.keyOf_int_mk hk (wf_i64 h0 h1)
  rcases K.find W hkey es.toList (fun e he => by obtain ⟨y, hy, hy0, hy1⟩ := hkeys e he; rw [hy]; exact ⟨_, Maps.keyOf_int_mk hk (wf_i64 hy0 hy1)⟩) with ⟨g1, g2⟩ | ⟨j, e0, g1, g2, g3⟩
  · have hf : f x = none := by
      cases hfx : f x with
      | none => rfl
      | some v => obtain ⟨e, he, hek⟩ := hdom x v hfx; exact absurd hek (g2 e he)
    simp [Instr.lookup, run_underlying ht, MapKept.run_getObj_map hb, K.check W _ hkey, g1, hz, Result.andThen, hf]
  · have hf := hval e0 (List.mem_of_getElem? g2) x g3
    simp [Instr.lookup, run_underlying ht, MapKept.run_getObj_map hb, K.check W _ hkey, g1, Result.andThen, hf]
end
open Classical in
/-- A set of numbers, as a map of them has it. -/
noncomputable def setF (S : Int → Prop) : Int → Option Value := fun x => if S x then some (.bool true) else none
theorem setF_put (S : Int → Prop) (id : Int) : (fun y => if y = id then some (.bool true) else setF S y) = setF (fun x => x = id ∨ S x) := by
  funext y
  simp only [setF]
  by_cases h : y = id
  · simp [h]
  · by_cases hS : S y <;> simp [h, hS]
theorem setF_del (S : Int → Prop) (id : Int) : (fun y => if y = id then none else setF S y) = setF (fun x => x ≠ id ∧ S x) := by
  funext y
  simp only [setF]
  by_cases h : y = id
  · simp [h]
  · by_cases hS : S y <;> simp [h, hS]
theorem setF_none : setF (fun _ => False) = fun _ => none := by funext y; simp [setF]
theorem setF_iff {S : Int → Prop} {x : Int} : (∃ v, setF S x = some v) ↔ S x := by
  simp only [setF]
  by_cases h : S x <;> simp [h]
theorem setF_val {S : Int → Prop} {x : Int} {v : Value} (h : setF S x = some v) : v = .bool true := by
  simp only [setF] at h
  split at h
  · cases h; rfl
  · cases h
theorem perm_count {α β : Type} {l : List α} {g : α → β} {m : List β} (hl : (l.map g).Nodup) (hm : m.Nodup) (h : ∀ x, x ∈ l.map g ↔ x ∈ m) : l.length = m.length := by
  have := (List.perm_ext_iff_of_nodup hl hm).2 h
  simpa using this.length_eq
theorem MapAt.size {W : World} {b : Nat} {f : Int → Option Value} (h : MapAt W b f) {ids : List Int} (hn : ids.Nodup) (hd : ∀ x, x ∈ ids ↔ ∃ v, f x = some v) : ∃ es clock, W.heap[b]? = some (.map es clock) ∧ es.size = ids.length := by
  obtain ⟨es, clock, hb, hkeys, huniq, hval, hdom, hst⟩ := h
  refine ⟨es, clock, hb, ?_⟩
  have hk : (es.toList.map (·.key)).Nodup := by
    rw [List.Nodup, List.pairwise_map, List.pairwise_iff_getElem]
    intro i j hi hj hij e
    have := huniq i j _ _ (List.getElem?_eq_getElem hi) (List.getElem?_eq_getElem hj) e
    omega
  have hm : (ids.map fun x => Value.int .i64 x).Nodup := by
    rw [List.Nodup, List.pairwise_map]
    exact hn.imp fun h e => h (by cases e; rfl)
  have := perm_count (l := es.toList) (g := (·.key)) hk hm fun v => by
    simp only [List.mem_map]
    constructor
    · rintro ⟨e, he, rfl⟩
      obtain ⟨x, hx, -⟩ := hkeys e he
      exact ⟨x, (hd x).2 ⟨_, hval e he x hx⟩, hx.symm⟩
    · rintro ⟨x, hx, rfl⟩
      obtain ⟨v, hv⟩ := (hd x).1 hx
      obtain ⟨e, he, hk⟩ := hdom x v hv
      exact ⟨e, he, hk⟩
  simpa using this
end
section
open Go.RowKit

theorem pxLaid : laidOutB Tryd.prog = true := by kernel_rfl
theorem spotRow : 68 < Tryd.prog.types.size := of_decide_eq_true (by kernel_rfl)
set_option maxRecDepth 100000 in
theorem spotWide : (match Tryd.prog.underlying 68 with | some (.array _ _) | some (.struct _) => true | _ => false) = true := by rw [Tryd.underlying68]
set_option maxRecDepth 100000 in
theorem spotKeyed : Maps.Keyed Tryd.prog 68 := Maps.Keyed.of_law (deep_law_laid pxLaid (m := 2) (by omega) spotRow (by kernel_rfl) spotWide)
theorem spotCells : Tryd.prog.cellsOf 68 = 3 := by kernel_rfl
theorem pcellsInt : Tryd.prog.cellsOf 3 = 1 := by kernel_rfl
theorem pcellsStr : Tryd.prog.cellsOf 9 = 1 := by kernel_rfl
theorem spotKeyType : Tryd.prog.keyType 68 = true := by kernel_rfl
structure SptOk (s : Spt) : Prop where
  p : (dotB s.p).length ≤ 1000000
  h0 : -9223372036854775808 ≤ s.h
  h1 : s.h ≤ 9223372036854775807
  n : s.n ≤ 1000000
theorem plB_size {p : List Nat} : (plB p).size = (dotB p).length := by simp [plB, ByteArray.size]
theorem place_key {p : List Nat} (h : (dotB p).length ≤ 1000000) : keyOf Tryd.prog 9 (placeS p) = some (.string (plB p).data.toList) :=
  WideMaps.keyOf_string_mk Tryd.underlying9 (by rw [plB_size]; unfold maxLen; omega)
theorem pwf {x : Int} (h : -9223372036854775808 ≤ x) (h' : x ≤ 9223372036854775807) : (Lit.int .i64 x).wf = true := wf_i64 h h'
set_option maxRecDepth 100000 in
theorem spot_key {s : Spt} (h : SptOk s) : ∃ l, keyOf Tryd.prog 68 s.key = some l := by
  have hf : s.key.formed Tryd.prog 68 = true := by simp [Value.formed, Spt.key, Tryd.underlying68, spotCells]
  have hl : (Tryd.prog.keyLits (Tryd.prog.types.size + 1) 68 s.key.cells.toList).isSome = true := by
    obtain ⟨n, hn⟩ : ∃ n, Tryd.prog.types.size = n + 1 := ⟨Tryd.prog.types.size - 1, by have := spotRow; omega⟩
    rw [hn]
    have hp : (plB s.p).size ≤ maxLen := by rw [plB_size]; have := h.p; unfold maxLen; omega
    have w1 := pwf h.h0 h.h1
    have w2 := pwf (x := (s.n : Int)) (by omega) (by have := h.n; omega)
    simp [Program.keyLits, Tryd.underlying68, Tryd.underlying3, Tryd.underlying9, spotCells, pcellsInt, pcellsStr, Spt.key, Value.cells, hp, w1, w2]
  obtain ⟨ls, hls⟩ := Option.isSome_iff_exists.1 hl
  refine ⟨.string (keyBytes ls), ?_⟩
  unfold keyOf
  simp only [Tryd.underlying68, spotKeyType, hf, Bool.and_self, if_true, hls, Option.map_some]

/-! ### In memory -/
inductive PRole where
  | top
  | rows
  | haves
  | anys
  | hin (s : Spt)
  | ain (p : List Nat)
/-- A row of spots that is read. -/
def SpotsR (A : Nat → Prop) (w : World) (v : Value) (l : List Spt) : Prop :=
  ∃ a c, v = .slice a l.length c ∧ l.length ≤ c ∧ ∀ j (hj : j < l.length), ∃ b off, a = some ⟨b, off, none⟩ ∧ ¬ A b ∧ w.cell? ⟨b, off + j * 3, none⟩ = some (placeS (l[j]).p) ∧ w.cell? ⟨b, off + j * 3 + 1, none⟩ = some (.int .i64 (l[j]).h) ∧ w.cell? ⟨b, off + j * 3 + 2, none⟩ = some (.int .i64 (l[j]).n)
theorem SpotsR.frame {A B : Nat → Prop} {w w' : World} {v : Value} {l : List Spt} (h : SpotsR A w v l) (hk : ∀ b, ¬ A b → b < w.heap.size → w'.heap[b]? = w.heap[b]?) (hB : ∀ b, b < w.heap.size → B b → A b) : SpotsR B w' v l := by
  obtain ⟨a, c, h1, h2, h3⟩ := h
  refine ⟨a, c, h1, h2, fun j hj => ?_⟩
  obtain ⟨b, off, e1, e2, e3, e4, e5⟩ := h3 j hj
  have hlt : b < w.heap.size := World.block_lt_of_cell? _ _ e3
  have hb := hk b e2 hlt
  have hc : ∀ o, w'.cell? ⟨b, o, none⟩ = w.cell? ⟨b, o, none⟩ := fun o => World.cell?_of_block hb
  exact ⟨b, off, e1, fun h => e2 (hB b hlt h), (hc _).trans e3, (hc _).trans e4, (hc _).trans e5⟩
structure PxAt (w : World) (A : Nat → Prop) (xb rb hb ab : Nat) (fr : Int → Option Value) (fh fa : Value → Option Value) (role : Nat → Option PRole) (X : List (Int × Tm)) (Hs : Spt → Int → Prop) (As : List Nat → Int → Prop) (base : Nat) : Prop where
  x : w.heap[xb]? = some (.cells #[.map (some rb), .map (some hb), .map (some ab)] 63 (0, 0))
  r : MapAt w rb fr
  h : MapV Tryd.prog 68 w hb fh
  a : MapV Tryd.prog 9 w ab fa
  r1 : ∀ id v, fr id = some v → ∃ u, (id, u) ∈ X ∧ SpotsR (fun b => A b ∨ role b ≠ none) w v (psT [] u)
  r2 : ∀ id u, (id, u) ∈ X → ∃ v, fr id = some v
  nd : (X.map (·.1)).Nodup
  h1 : ∀ k v, fh k = some v → ∃ s ib, k = s.key ∧ v = .map (some ib) ∧ role ib = some (.hin s) ∧ MapAt w ib (setF (Hs s))
  h2 : ∀ s, fh s.key = none → ∀ x, ¬ Hs s x
  a1 : ∀ k v, fa k = some v → ∃ p ib, k = placeS p ∧ v = .map (some ib) ∧ role ib = some (.ain p) ∧ MapAt w ib (setF (As p))
  a2 : ∀ p, fa (placeS p) = none → ∀ x, ¬ As p x
  ro : role xb = some .top ∧ role rb = some .rows ∧ role hb = some .haves ∧ role ab = some .anys
  z : ∀ b, role b ≠ none → base ≤ b ∧ b < w.heap.size ∧ ¬ A b
  la : ∀ b, A b → b < w.heap.size
def PMoved (role role' : Nat → Option PRole) (w w' : World) : Prop := Keep (fun b => role b = none) w w' ∧ ∀ b, role' b ≠ none → role b ≠ none ∨ w.heap.size ≤ b
theorem setF_congr {S T : Int → Prop} (h : ∀ x, S x ↔ T x) : setF S = setF T := by
  have : S = T := funext fun x => propext (h x)
  rw [this]
theorem key_inj {s s' : Spt} (h : s.key = s'.key) : s = s' := by
  simp only [Spt.key, Value.agg.injEq, Array.mk.injEq, List.cons.injEq, and_true, Value.int.injEq, true_and] at h
  obtain ⟨h1, h2, h3⟩ := h
  have := placeS_inj h1
  cases s; cases s'
  simp only at this h2 h3
  subst this h2
  simp only [Spt.mk.injEq, true_and]
  omega
section
variable {w w' : World} {A : Nat → Prop} {xb rb hb ab : Nat} {fr : Int → Option Value} {fh fa : Value → Option Value} {role : Nat → Option PRole} {X : List (Int × Tm)} {Hs : Spt → Int → Prop} {As : List Nat → Int → Prop} {base : Nat}
theorem PxAt.below (h : PxAt w A xb rb hb ab fr fh fa role X Hs As base) (hB : Below w.heap.size w w') : PxAt w' A xb rb hb ab fr fh fa role X Hs As base :=
  { h with
    x := (hB.block xb (Array.getElem?_eq_some_iff.1 h.x).1).trans h.x
    r := h.r.below hB
    h := h.h.below hB
    a := h.a.below hB
    r1 := fun id v hv => by
      obtain ⟨u, e1, e2⟩ := h.r1 id v hv
      exact ⟨u, e1, e2.frame (fun b _ hb => hB.block b hb) fun _ _ h => h⟩
    h1 := fun k v hv => by
      obtain ⟨s, ib, e1, e2, e3, e4⟩ := h.h1 k v hv
      exact ⟨s, ib, e1, e2, e3, e4.below hB⟩
    a1 := fun k v hv => by
      obtain ⟨s, ib, e1, e2, e3, e4⟩ := h.a1 k v hv
      exact ⟨s, ib, e1, e2, e3, e4.below hB⟩
    z := fun b hb => by have q := h.z b hb; have := hB.size; exact ⟨q.1, by omega, q.2.2⟩
    la := fun b hb => Nat.lt_of_lt_of_le (h.la b hb) hB.size }
/-- An id more in a spot's set, which was there. -/
theorem PxAt.had (h : PxAt w A xb rb hb ab fr fh fa role X Hs As base) {s : Spt} {ib : Nat} (hs : fh s.key = some (.map (some ib))) {id : Int} (hk : Keep (fun b => b ≠ ib) w w') (hm : MapAt w' ib (fun y => if y = id then some (.bool true) else setF (Hs s) y)) :
    PxAt w' A xb rb hb ab fr fh fa role X (fun s' x => Hs s' x ∨ (s' = s ∧ x = id)) As base ∧ PMoved role role w w' := by
  obtain ⟨s', ib', e1, e2, e3, e4⟩ := h.h1 _ _ hs
  obtain rfl := key_inj e1
  simp only [Value.map.injEq, Option.some.injEq] at e2
  subst e2
  have hne : ∀ b r, role b = some r → r ≠ .hin s → b ≠ ib := fun b r hb hr e => by subst e; rw [e3] at hb; exact hr (Option.some.inj hb).symm
  refine ⟨{ h with
    x := hk.obj (hne _ _ h.ro.1 (by simp)) h.x
    r := h.r.keep hk (hne _ _ h.ro.2.1 (by simp))
    h := h.h.keep hk (hne _ _ h.ro.2.2.1 (by simp))
    a := h.a.keep hk (hne _ _ h.ro.2.2.2 (by simp))
    r1 := fun id v hv => by
      obtain ⟨u, q1, q2⟩ := h.r1 id v hv
      exact ⟨u, q1, q2.frame (fun b hb hlt => hk.block b hlt fun e => hb (.inr (by rw [e, e3]; simp))) fun _ _ h => h⟩
    h1 := fun k v hv => by
      obtain ⟨s', ib', q1, q2, q3, q4⟩ := h.h1 k v hv
      by_cases hss : s' = s
      · subst hss
        subst q1
        rw [hs] at hv
        simp only [Option.some.injEq] at hv
        subst hv
        simp only [Value.map.injEq, Option.some.injEq] at q2
        subst q2
        rw [setF_put] at hm
        exact ⟨s', ib, rfl, rfl, q3, by rw [setF_congr (T := fun x => x = id ∨ Hs s' x) (fun x => by simp [or_comm])]; exact hm⟩
      · exact ⟨s', ib', q1, q2, q3, by rw [setF_congr (T := Hs s') (fun x => by simp [hss])]; exact q4.keep hk (hne _ _ q3 (by simpa using hss))⟩
    h2 := fun s' hn x hx => by
      rcases hx with hx | ⟨rfl, rfl⟩
      · exact h.h2 s' hn x hx
      · rw [hs] at hn; cases hn
    a1 := fun k v hv => by
      obtain ⟨p, ib', q1, q2, q3, q4⟩ := h.a1 k v hv
      exact ⟨p, ib', q1, q2, q3, q4.keep hk (hne _ _ q3 (by simp))⟩
    z := fun b hb => by have q := h.z b hb; have := hk.size; exact ⟨q.1, by omega, q.2.2⟩
    la := fun b hb => Nat.lt_of_lt_of_le (h.la b hb) hk.size }, hk.mono (fun b _ hb e => by rw [e, e3] at hb; cases hb), fun b hb => .inl hb⟩
/-- An id in a spot's set, which is new. -/
theorem PxAt.news (h : PxAt w A xb rb hb ab fr fh fa role X Hs As base) {s : Spt} {ib : Nat} (hs : fh s.key = none) {id : Int} {fh' : Value → Option Value} (f1 : fh' s.key = some (.map (some ib))) (f2 : ∀ y, y ≠ s.key → fh' y = fh y) (hib : w.heap.size ≤ ib) (hibl : ib < w'.heap.size) (hbs : base ≤ w.heap.size)
    (hk : Keep (fun b => b ≠ ib ∧ b ≠ hb) w w') (hv : MapV Tryd.prog 68 w' hb fh') (hm : MapAt w' ib (setF fun x => x = id)) :
    PxAt w' A xb rb hb ab fr fh' fa (fun b => if b = ib then some (.hin s) else role b) X (fun s' x => Hs s' x ∨ (s' = s ∧ x = id)) As base ∧ PMoved role (fun b => if b = ib then some (.hin s) else role b) w w' := by
  have hnone : role ib = none := by
    cases hr : role ib with
    | none => rfl
    | some r => have := h.z ib (by rw [hr]; simp); omega
  have hold : ∀ b r, role b = some r → b ≠ ib := fun b r hb e => by subst e; rw [hnone] at hb; cases hb
  have hhb : ∀ b r, role b = some r → r ≠ .haves → b ≠ hb := fun b r hb hr e => by subst e; rw [h.ro.2.2.1] at hb; exact hr (Option.some.inj hb).symm
  have hif : ∀ b r, role b = some r → (if b = ib then some (PRole.hin s) else role b) = some r := fun b r hb => by rw [if_neg (hold b r hb), hb]
  refine ⟨{
    x := hk.obj ⟨hold _ _ h.ro.1, hhb _ _ h.ro.1 (by simp)⟩ h.x
    r := h.r.keep hk ⟨hold _ _ h.ro.2.1, hhb _ _ h.ro.2.1 (by simp)⟩
    h := hv
    a := h.a.keep hk ⟨hold _ _ h.ro.2.2.2, hhb _ _ h.ro.2.2.2 (by simp)⟩
    r1 := fun id v hv => by
      obtain ⟨u, q1, q2⟩ := h.r1 id v hv
      refine ⟨u, q1, q2.frame (fun b hb hlt => hk.block b hlt ⟨fun e => by omega, fun e => hb (.inr (by rw [e, h.ro.2.2.1]; simp))⟩) fun b hlt hb => ?_⟩
      rcases hb with hb | hb
      · exact .inl hb
      · rw [if_neg (by omega)] at hb; exact .inr hb
    r2 := h.r2
    nd := h.nd
    h1 := fun k v hv => by
      by_cases hkk : k = s.key
      · subst hkk
        rw [f1] at hv
        simp only [Option.some.injEq] at hv
        exact ⟨s, ib, rfl, hv.symm, by simp, by rw [setF_congr (T := fun x => x = id) (fun x => by simp; exact fun hx => absurd hx (h.h2 s hs x))]; exact hm⟩
      · rw [f2 k hkk] at hv
        obtain ⟨s', ib', q1, q2, q3, q4⟩ := h.h1 k v hv
        have hss : s' ≠ s := fun e => hkk (by rw [q1, e])
        exact ⟨s', ib', q1, q2, hif _ _ q3, by rw [setF_congr (T := Hs s') (fun x => by simp [hss])]; exact q4.keep hk ⟨hold _ _ q3, hhb _ _ q3 (by simp)⟩⟩
    h2 := fun s' hn x hx => by
      by_cases hss : s' = s
      · subst hss; rw [f1] at hn; cases hn
      · rcases hx with hx | ⟨e, -⟩
        · exact h.h2 s' (by rw [← f2 _ (fun e => hss (key_inj e))]; exact hn) x hx
        · exact hss e
    a1 := fun k v hv => by
      obtain ⟨p, ib', q1, q2, q3, q4⟩ := h.a1 k v hv
      exact ⟨p, ib', q1, q2, hif _ _ q3, q4.keep hk ⟨hold _ _ q3, hhb _ _ q3 (by simp)⟩⟩
    a2 := h.a2
    ro := ⟨hif _ _ h.ro.1, hif _ _ h.ro.2.1, hif _ _ h.ro.2.2.1, hif _ _ h.ro.2.2.2⟩
    z := fun b hb => by
      by_cases e : b = ib
      · subst e; exact ⟨by omega, hibl, fun hA => by have := h.la b hA; omega⟩
      · rw [if_neg e] at hb
        have q := h.z b hb; have := hk.size; exact ⟨q.1, by omega, q.2.2⟩
    la := fun b hb => Nat.lt_of_lt_of_le (h.la b hb) hk.size }, hk.mono (fun b hlt hb => ⟨fun e => by omega, fun e => by rw [e, h.ro.2.2.1] at hb; cases hb⟩), fun b hb => ?_⟩
  by_cases e : b = ib
  · subst e; exact .inr hib
  · simp only [if_neg e] at hb; exact .inl hb
/-- An id more in a place's set, which was there. -/
theorem PxAt.hadA (h : PxAt w A xb rb hb ab fr fh fa role X Hs As base) {s : List Nat} {ib : Nat} (hs : fa (placeS s) = some (.map (some ib))) {id : Int} (hk : Keep (fun b => b ≠ ib) w w') (hm : MapAt w' ib (fun y => if y = id then some (.bool true) else setF (As s) y)) :
    PxAt w' A xb rb hb ab fr fh fa role X Hs (fun s' x => As s' x ∨ (s' = s ∧ x = id)) base ∧ PMoved role role w w' := by
  obtain ⟨s', ib', e1, e2, e3, e4⟩ := h.a1 _ _ hs
  obtain rfl := placeS_inj e1
  simp only [Value.map.injEq, Option.some.injEq] at e2
  subst e2
  have hne : ∀ b r, role b = some r → r ≠ .ain s → b ≠ ib := fun b r hb hr e => by subst e; rw [e3] at hb; exact hr (Option.some.inj hb).symm
  refine ⟨{ h with
    x := hk.obj (hne _ _ h.ro.1 (by simp)) h.x
    r := h.r.keep hk (hne _ _ h.ro.2.1 (by simp))
    a := h.a.keep hk (hne _ _ h.ro.2.2.2 (by simp))
    h := h.h.keep hk (hne _ _ h.ro.2.2.1 (by simp))
    r1 := fun id v hv => by
      obtain ⟨u, q1, q2⟩ := h.r1 id v hv
      exact ⟨u, q1, q2.frame (fun b hb hlt => hk.block b hlt fun e => hb (.inr (by rw [e, e3]; simp))) fun _ _ h => h⟩
    a1 := fun k v hv => by
      obtain ⟨s', ib', q1, q2, q3, q4⟩ := h.a1 k v hv
      by_cases hss : s' = s
      · subst hss
        subst q1
        rw [hs] at hv
        simp only [Option.some.injEq] at hv
        subst hv
        simp only [Value.map.injEq, Option.some.injEq] at q2
        subst q2
        rw [setF_put] at hm
        exact ⟨s', ib, rfl, rfl, q3, by rw [setF_congr (T := fun x => x = id ∨ As s' x) (fun x => by simp [or_comm])]; exact hm⟩
      · exact ⟨s', ib', q1, q2, q3, by rw [setF_congr (T := As s') (fun x => by simp [hss])]; exact q4.keep hk (hne _ _ q3 (by simpa using hss))⟩
    a2 := fun s' hn x hx => by
      rcases hx with hx | ⟨rfl, rfl⟩
      · exact h.a2 s' hn x hx
      · rw [hs] at hn; cases hn
    h1 := fun k v hv => by
      obtain ⟨p, ib', q1, q2, q3, q4⟩ := h.h1 k v hv
      exact ⟨p, ib', q1, q2, q3, q4.keep hk (hne _ _ q3 (by simp))⟩
    z := fun b hb => by have q := h.z b hb; have := hk.size; exact ⟨q.1, by omega, q.2.2⟩
    la := fun b hb => Nat.lt_of_lt_of_le (h.la b hb) hk.size }, hk.mono (fun b _ hb e => by rw [e, e3] at hb; cases hb), fun b hb => .inl hb⟩
/-- An id in a place's set, which is new. -/
theorem PxAt.newsA (h : PxAt w A xb rb hb ab fr fh fa role X Hs As base) {s : List Nat} {ib : Nat} (hs : fa (placeS s) = none) {id : Int} {fa' : Value → Option Value} (f1 : fa' (placeS s) = some (.map (some ib))) (f2 : ∀ y, y ≠ (placeS s) → fa' y = fa y) (hib : w.heap.size ≤ ib) (hibl : ib < w'.heap.size) (hbs : base ≤ w.heap.size)
    (hk : Keep (fun b => b ≠ ib ∧ b ≠ ab) w w') (hv : MapV Tryd.prog 9 w' ab fa') (hm : MapAt w' ib (setF fun x => x = id)) :
    PxAt w' A xb rb hb ab fr fh fa' (fun b => if b = ib then some (.ain s) else role b) X Hs (fun s' x => As s' x ∨ (s' = s ∧ x = id)) base ∧ PMoved role (fun b => if b = ib then some (.ain s) else role b) w w' := by
  have hnone : role ib = none := by
    cases hr : role ib with
    | none => rfl
    | some r => have := h.z ib (by rw [hr]; simp); omega
  have hold : ∀ b r, role b = some r → b ≠ ib := fun b r hb e => by subst e; rw [hnone] at hb; cases hb
  have hhb : ∀ b r, role b = some r → r ≠ .anys → b ≠ ab := fun b r hb hr e => by subst e; rw [h.ro.2.2.2] at hb; exact hr (Option.some.inj hb).symm
  have hif : ∀ b r, role b = some r → (if b = ib then some (PRole.ain s) else role b) = some r := fun b r hb => by rw [if_neg (hold b r hb), hb]
  refine ⟨{
    x := hk.obj ⟨hold _ _ h.ro.1, hhb _ _ h.ro.1 (by simp)⟩ h.x
    r := h.r.keep hk ⟨hold _ _ h.ro.2.1, hhb _ _ h.ro.2.1 (by simp)⟩
    a := hv
    h := h.h.keep hk ⟨hold _ _ h.ro.2.2.1, hhb _ _ h.ro.2.2.1 (by simp)⟩
    r1 := fun id v hv => by
      obtain ⟨u, q1, q2⟩ := h.r1 id v hv
      refine ⟨u, q1, q2.frame (fun b hb hlt => hk.block b hlt ⟨fun e => by omega, fun e => hb (.inr (by rw [e, h.ro.2.2.2]; simp))⟩) fun b hlt hb => ?_⟩
      rcases hb with hb | hb
      · exact .inl hb
      · rw [if_neg (by omega)] at hb; exact .inr hb
    r2 := h.r2
    nd := h.nd
    a1 := fun k v hv => by
      by_cases hkk : k = (placeS s)
      · subst hkk
        rw [f1] at hv
        simp only [Option.some.injEq] at hv
        exact ⟨s, ib, rfl, hv.symm, by simp, by rw [setF_congr (T := fun x => x = id) (fun x => by simp; exact fun hx => absurd hx (h.a2 s hs x))]; exact hm⟩
      · rw [f2 k hkk] at hv
        obtain ⟨s', ib', q1, q2, q3, q4⟩ := h.a1 k v hv
        have hss : s' ≠ s := fun e => hkk (by rw [q1, e])
        exact ⟨s', ib', q1, q2, hif _ _ q3, by rw [setF_congr (T := As s') (fun x => by simp [hss])]; exact q4.keep hk ⟨hold _ _ q3, hhb _ _ q3 (by simp)⟩⟩
    a2 := fun s' hn x hx => by
      by_cases hss : s' = s
      · subst hss; rw [f1] at hn; cases hn
      · rcases hx with hx | ⟨e, -⟩
        · exact h.a2 s' (by rw [← f2 _ (fun e => hss (placeS_inj e))]; exact hn) x hx
        · exact hss e
    h1 := fun k v hv => by
      obtain ⟨p, ib', q1, q2, q3, q4⟩ := h.h1 k v hv
      exact ⟨p, ib', q1, q2, hif _ _ q3, q4.keep hk ⟨hold _ _ q3, hhb _ _ q3 (by simp)⟩⟩
    h2 := h.h2
    ro := ⟨hif _ _ h.ro.1, hif _ _ h.ro.2.1, hif _ _ h.ro.2.2.1, hif _ _ h.ro.2.2.2⟩
    z := fun b hb => by
      by_cases e : b = ib
      · subst e; exact ⟨by omega, hibl, fun hA => by have := h.la b hA; omega⟩
      · rw [if_neg e] at hb
        have q := h.z b hb; have := hk.size; exact ⟨q.1, by omega, q.2.2⟩
    la := fun b hb => Nat.lt_of_lt_of_le (h.la b hb) hk.size }, hk.mono (fun b hlt hb => ⟨fun e => by omega, fun e => by rw [e, h.ro.2.2.2] at hb; cases hb⟩), fun b hb => ?_⟩
  by_cases e : b = ib
  · subst e; exact .inr hib
  · simp only [if_neg e] at hb; exact .inl hb
end
end
section
open Go.RowKit

theorem zeroSet (W : World) : (zeroValue 78).run Tryd.prog W = .ok (.map none) W := by kernel_rfl
open Classical in
noncomputable def pputF (f : Value → Option Value) (k v : Value) : Value → Option Value := fun y => if y = k then some v else f y
theorem setF_single (id : Int) : (fun y => if y = id then some (Value.bool true) else none) = setF (fun x => x = id) := by
  funext y
  simp [setF]
theorem pbox3 {w : World} {b : Nat} {x y z : Value} {t : TypeId} (h : w.heap[b]? = some (.cells #[x, y, z] t (0, 0))) : w.cell? ⟨b, 0, none⟩ = some x ∧ w.cell? ⟨b, 1, none⟩ = some y ∧ w.cell? ⟨b, 2, none⟩ = some z :=
  ⟨by simp [World.cell?, h], by simp [World.cell?, h], by simp [World.cell?, h]⟩
theorem pputF_same (f : Value → Option Value) (k v : Value) : pputF f k v k = some v := by simp [pputF]
theorem pputF_other (f : Value → Option Value) {k y : Value} (h : y ≠ k) (v : Value) : pputF f k v y = f y := by simp [pputF, h]

set_option maxHeartbeats 4000000 in
set_option maxRecDepth 100000 in
theorem markH_calls {A : Nat → Prop} {xb rb hb ab : Nat} {fr : Int → Option Value} {fh fa : Value → Option Value} {role : Nat → Option PRole} {X : List (Int × Tm)} {Hs : Spt → Int → Prop} {As : List Nat → Int → Prop} {base : Nat} (s : Spt) (id : Int) (w : World) (hs : SptOk s) (h0 : -9223372036854775808 ≤ id) (h1 : id ≤ 9223372036854775807) (hbs : base ≤ w.heap.size)
    (hx : PxAt w A xb rb hb ab fr fh fa role X Hs As base) :
    Calls Tryd.prog 30 #[.map (some hb), .agg #[.string (plB s.p), .int .i64 s.h, .int .i64 s.n], .int .i64 id] w fun e w' => e = .returned (.tuple #[]) ∧
      ∃ fh' role', PxAt w' A xb rb hb ab fr fh' fa role' X (fun s' x => Hs s' x ∨ (s' = s ∧ x = id)) As base ∧ PMoved role role' w w' := by
  obtain ⟨kl, hkey⟩ := spot_key hs
  have hb0 : Below w.heap.size w (w.alloc (.cells #[.string (plB s.p), .int .i64 s.h, .int .i64 s.n] 68)) := (Below.refl _ _).alloc (Nat.le_refl _) _
  have HX := hide (hx.below hb0)
  have HB := hide hb0
  have hlook := HX.out.h.look spotKeyed Tryd.underlying60 (zeroSet _) hkey false
  simp only [Bool.false_eq_true, if_false, Spt.key, placeS] at hlook
  clear hb0
  go_enter Tryd.func30, Tryd.ntmps30
  cases hf : fh s.key with
  | some v =>
    obtain ⟨s', ib, e1, rfl, e3, e4⟩ := HX.out.h1 _ _ hf
    obtain rfl := key_inj e1
    have heq := run_eql_map_nil_sl (P := Tryd.prog) (w.alloc (.cells #[.string (plB s.p), .int .i64 s.h, .int .i64 s.n] 68)) 78 _ _ (some ib) Tryd.underlying78
    obtain ⟨W', hup, hm, hk⟩ := e4.store (P := Tryd.prog) (k := 3) (t := 78) (e := 4) Tryd.underlying3 Tryd.underlying78 h0 h1 (.bool true)
    have HP := hide (HX.out.had (s := s) hf hk hm)
    simp only [Spt.key, placeS] at hf
    rw [hf] at hlook
    simp only [Option.getD_some] at hlook
    clear e4 hm hk HX hf e1 hx
    go_wp2
    go_end0
    exact ⟨rfl, _, _, HP.out.1, ⟨(Keep.of_below HB.out).trans HP.out.2.1, fun b hb => by
      rcases HP.out.2.2 b hb with h | h
      · exact .inl h
      · have := HB.out.size; exact .inr (by omega)⟩⟩
  | none =>
    have hmm := @run_makeMap Tryd.prog
    have heq := run_eql_map_nil_sl (P := Tryd.prog) (w.alloc (.cells #[.string (plB s.p), .int .i64 s.h, .int .i64 s.n] 68)) 78 _ _ none Tryd.underlying78
    have hb1 : Below (w.alloc (.cells #[.string (plB s.p), .int .i64 s.h, .int .i64 s.n] 68)).heap.size (w.alloc (.cells #[.string (plB s.p), .int .i64 s.h, .int .i64 s.n] 68)) ((w.alloc (.cells #[.string (plB s.p), .int .i64 s.h, .int .i64 s.n] 68)).alloc (.map #[] 0)) := (Below.refl _ _).alloc (Nat.le_refl _) _
    obtain ⟨W2, hup2, hv2, hk2⟩ := (HX.out.h.below hb1).store spotKeyed Tryd.underlying60 hkey (.map (some (w.alloc (.cells #[.string (plB s.p), .int .i64 s.h, .int .i64 s.n] 68)).heap.size)) (pputF fh s.key (.map (some (w.alloc (.cells #[.string (plB s.p), .int .i64 s.h, .int .i64 s.n] 68)).heap.size))) (pputF_same _ _ _) (fun y hy => pputF_other _ hy _)
    have hne : hb ≠ (w.alloc (.cells #[.string (plB s.p), .int .i64 s.h, .int .i64 s.n] 68)).heap.size := fun e => by have := HX.out.h.lt; omega
    obtain ⟨c0, c1, c2⟩ := pbox3 (hk2.obj (show w.heap.size ≠ hb from fun e => by have := hx.h.lt; omega) (hb1.block _ (by simp) |>.trans (World.alloc_heap_new w (.cells #[.string (plB s.p), .int .i64 s.h, .int .i64 s.n] 68))))
    have hm2 := (MapAt.made (w.alloc (.cells #[.string (plB s.p), .int .i64 s.h, .int .i64 s.n] 68))).keep hk2 (fun e => hne e.symm)
    have hlook2 := hv2.look spotKeyed Tryd.underlying60 (zeroSet _) hkey false
    rw [pputF_same] at hlook2
    simp only [Bool.false_eq_true, if_false, Spt.key, placeS, Option.getD_some] at hlook2
    obtain ⟨W3, hup3, hm3, hk3⟩ := hm2.store (P := Tryd.prog) (k := 3) (t := 78) (e := 4) Tryd.underlying3 Tryd.underlying78 h0 h1 (.bool true)
    have hk13 : Keep (fun b => b ≠ (w.alloc (.cells #[.string (plB s.p), .int .i64 s.h, .int .i64 s.n] 68)).heap.size ∧ b ≠ hb) (w.alloc (.cells #[.string (plB s.p), .int .i64 s.h, .int .i64 s.n] 68)) W3 := ((Keep.of_below (S := fun b => b ≠ (w.alloc (.cells #[.string (plB s.p), .int .i64 s.h, .int .i64 s.n] 68)).heap.size ∧ b ≠ hb) hb1).trans (hk2.mono fun b _ h => h.2)).trans (hk3.mono fun b _ h => h.1)
    have hs13 : (w.alloc (.cells #[.string (plB s.p), .int .i64 s.h, .int .i64 s.n] 68)).heap.size < W3.heap.size := by have := hb1.size; have := hk2.size; have := hk3.size; have := hm3.lt; omega
    have HP := hide (HX.out.news (s := s) (ib := (w.alloc (.cells #[.string (plB s.p), .int .i64 s.h, .int .i64 s.n] 68)).heap.size) (id := id) hf (pputF_same _ _ _) (fun y hy => pputF_other _ hy _) (Nat.le_refl _) hs13 (Nat.le_trans hbs HB.out.size) hk13 (hv2.keep hk3 hne) (by rw [← setF_single]; exact hm3))
    simp only [Spt.key, placeS] at hf hup2
    rw [hf] at hlook
    simp only [Option.getD_none] at hlook
    rw [World.size_alloc] at hup2 hlook2 hup3
    clear hx hm3 hk3 HX hf hk13 hm2 hv2 hk2 hb1 hs13 hne hbs
    go_wp2
    go_end0
    exact ⟨rfl, _, _, HP.out.1, ⟨(Keep.of_below HB.out).trans HP.out.2.1, fun b hb => by
      rcases HP.out.2.2 b hb with h | h
      · exact .inl h
      · have := HB.out.size; exact .inr (by omega)⟩⟩

set_option maxHeartbeats 4000000 in
set_option maxRecDepth 100000 in
theorem markA_calls {A : Nat → Prop} {xb rb hb ab : Nat} {fr : Int → Option Value} {fh fa : Value → Option Value} {role : Nat → Option PRole} {X : List (Int × Tm)} {Hs : Spt → Int → Prop} {As : List Nat → Int → Prop} {base : Nat} (s : List Nat) (id : Int) (w : World) (hs : (dotB s).length ≤ 1000000) (h0 : -9223372036854775808 ≤ id) (h1 : id ≤ 9223372036854775807) (hbs : base ≤ w.heap.size)
    (hx : PxAt w A xb rb hb ab fr fh fa role X Hs As base) :
    Calls Tryd.prog 31 #[.map (some ab), .string (plB s), .int .i64 id] w fun e w' => e = .returned (.tuple #[]) ∧
      ∃ fa' role', PxAt w' A xb rb hb ab fr fh fa' role' X Hs (fun s' x => As s' x ∨ (s' = s ∧ x = id)) base ∧ PMoved role role' w w' := by
  have hkey := place_key hs
  have hb0 : Below w.heap.size w (w) := Below.refl _ _
  have HX := hide (hx.below hb0)
  have HB := hide hb0
  have hlook := HX.out.a.look (Maps.string_keyed Tryd.underlying9) Tryd.underlying61 (zeroSet _) hkey false
  simp only [Bool.false_eq_true, if_false, placeS] at hlook
  clear hb0
  go_enter Tryd.func31, Tryd.ntmps31
  cases hf : fa (placeS s) with
  | some v =>
    obtain ⟨s', ib, e1, rfl, e3, e4⟩ := HX.out.a1 _ _ hf
    obtain rfl := placeS_inj e1
    have heq := run_eql_map_nil_sl (P := Tryd.prog) (w) 78 _ _ (some ib) Tryd.underlying78
    obtain ⟨W', hup, hm, hk⟩ := e4.store (P := Tryd.prog) (k := 3) (t := 78) (e := 4) Tryd.underlying3 Tryd.underlying78 h0 h1 (.bool true)
    have HP := hide (HX.out.hadA (s := s) hf hk hm)
    simp only [placeS] at hf
    rw [hf] at hlook
    simp only [Option.getD_some] at hlook
    clear e4 hm hk HX hf e1 hx
    go_wp2
    go_end0
    exact ⟨rfl, _, _, HP.out.1, ⟨(Keep.of_below HB.out).trans HP.out.2.1, fun b hb => by
      rcases HP.out.2.2 b hb with h | h
      · exact .inl h
      · have := HB.out.size; exact .inr (by omega)⟩⟩
  | none =>
    have hmm := @run_makeMap Tryd.prog
    have heq := run_eql_map_nil_sl (P := Tryd.prog) (w) 78 _ _ none Tryd.underlying78
    have hb1 : Below (w).heap.size (w) ((w).alloc (.map #[] 0)) := (Below.refl _ _).alloc (Nat.le_refl _) _
    obtain ⟨W2, hup2, hv2, hk2⟩ := (HX.out.a.below hb1).store (Maps.string_keyed Tryd.underlying9) Tryd.underlying61 hkey (.map (some (w).heap.size)) (pputF fa (placeS s) (.map (some (w).heap.size))) (pputF_same _ _ _) (fun y hy => pputF_other _ hy _)
    have hne : ab ≠ (w).heap.size := fun e => by have := HX.out.a.lt; omega
    have hm2 := (MapAt.made (w)).keep hk2 (fun e => hne e.symm)
    have hlook2 := hv2.look (Maps.string_keyed Tryd.underlying9) Tryd.underlying61 (zeroSet _) hkey false
    rw [pputF_same] at hlook2
    simp only [Bool.false_eq_true, if_false, placeS, Option.getD_some] at hlook2
    obtain ⟨W3, hup3, hm3, hk3⟩ := hm2.store (P := Tryd.prog) (k := 3) (t := 78) (e := 4) Tryd.underlying3 Tryd.underlying78 h0 h1 (.bool true)
    have hk13 : Keep (fun b => b ≠ (w).heap.size ∧ b ≠ ab) (w) W3 := ((Keep.of_below (S := fun b => b ≠ (w).heap.size ∧ b ≠ ab) hb1).trans (hk2.mono fun b _ h => h.2)).trans (hk3.mono fun b _ h => h.1)
    have hs13 : (w).heap.size < W3.heap.size := by have := hb1.size; have := hk2.size; have := hk3.size; have := hm3.lt; omega
    have HP := hide (HX.out.newsA (s := s) (ib := (w).heap.size) (id := id) hf (pputF_same _ _ _) (fun y hy => pputF_other _ hy _) (Nat.le_refl _) hs13 (Nat.le_trans hbs HB.out.size) hk13 (hv2.keep hk3 hne) (by rw [← setF_single]; exact hm3))
    simp only [placeS] at hf hup2
    rw [hf] at hlook
    simp only [Option.getD_none] at hlook
    clear hx hm3 hk3 HX hf hk13 hm2 hv2 hk2 hb1 hs13 hne hbs
    go_wp2
    go_end0
    exact ⟨rfl, _, _, HP.out.1, ⟨(Keep.of_below HB.out).trans HP.out.2.1, fun b hb => by
      rcases HP.out.2.2 b hb with h | h
      · exact .inl h
      · have := HB.out.size; exact .inr (by omega)⟩⟩
end
open Go.RowKit

def hasS (X : List (Int × Tm)) (s : Spt) (x : Int) : Prop := ∃ u, (x, u) ∈ X ∧ s ∈ psT [] u
def hasP (X : List (Int × Tm)) (p : List Nat) (x : Int) : Prop := ∃ u, (x, u) ∈ X ∧ ∃ s, s ∈ psT [] u ∧ s.p = p
theorem spC_get : ∀ (l : List Spt) (j i : Nat) (hj : j < l.length), i < 3 → (spC l)[j * 3 + i]? = (l[j]).cells[i]?
  | s :: l, 0, i, _, hi => by
    simp only [spC, List.map_cons, List.flatten_cons, Nat.zero_mul, Nat.zero_add, List.getElem_cons_zero]
    rw [List.getElem?_append_left (by simp [Spt.cells]; omega)]
  | s :: l, j + 1, i, hj, hi => by
    have := spC_get l j i (by simpa using hj) hi
    simp only [spC, List.map_cons, List.flatten_cons, List.getElem_cons_succ] at this ⊢
    rw [List.getElem?_append_right (by simp [Spt.cells]; omega), ← this]
    congr 1
    simp [Spt.cells]; omega
theorem SpotsR.of_own {A : Nat → Prop} {w : World} {base e : Nat} {v : Value} {l : List Spt} (h : w.ownsRow base e 3 v l.length (spC l)) (hA : ∀ b, v.ownBlock = some b → ¬ A b) : SpotsR A w v l := by
  have h' := h
  rcases h.2 with ⟨h1, h2⟩ | ⟨g, cap, cur, h1, hg, hh, hn, hm, hs, ht⟩
  · exact ⟨none, 0, by rw [h1, h2], by omega, fun j hj => by omega⟩
  · refine ⟨_, _, h1, hn, fun j hj => ⟨g, 0, rfl, hA g (by rw [h1]; rfl), ?_, ?_, ?_⟩⟩
    · have := h'.cells (g := g) (by rw [h1]; rfl) (j * 3 + 0) _ ((spC_get l j 0 hj (by omega)).trans rfl)
      rw [add_plain] at this; simpa using this
    · have := h'.cells (g := g) (by rw [h1]; rfl) (j * 3 + 1) _ ((spC_get l j 1 hj (by omega)).trans rfl)
      rw [add_plain] at this; simpa [Nat.add_assoc] using this
    · have := h'.cells (g := g) (by rw [h1]; rfl) (j * 3 + 2) _ ((spC_get l j 2 hj (by omega)).trans rfl)
      rw [add_plain] at this; simpa [Nat.add_assoc] using this
section
variable {w w' : World} {A : Nat → Prop} {xb rb hb ab : Nat} {fr : Int → Option Value} {fh fa : Value → Option Value} {role : Nat → Option PRole} {X : List (Int × Tm)} {Hs : Spt → Int → Prop} {As : List Nat → Int → Prop} {base : Nat}
theorem PxAt.congr (h : PxAt w A xb rb hb ab fr fh fa role X Hs As base) {Hs' : Spt → Int → Prop} {As' : List Nat → Int → Prop} (e1 : ∀ s x, Hs s x ↔ Hs' s x) (e2 : ∀ s x, As s x ↔ As' s x) : PxAt w A xb rb hb ab fr fh fa role X Hs' As' base := by
  have h1 : Hs = Hs' := funext fun s => funext fun x => propext (e1 s x)
  have h2 : As = As' := funext fun s => funext fun x => propext (e2 s x)
  rw [← h1, ← h2]; exact h
theorem PxAt.put (h : PxAt w A xb rb hb ab fr fh fa role X Hs As base) {id : Int} {t : Tm} {v : Value} (hn : fr id = none) (hk : Keep (fun b => b ≠ rb) w w') (hm : MapAt w' rb (fun y => if y = id then some v else fr y)) (hv : SpotsR (fun b => A b ∨ role b ≠ none) w' v (psT [] t)) :
    PxAt w' A xb rb hb ab (fun y => if y = id then some v else fr y) fh fa role (X ++ [(id, t)]) Hs As base ∧ PMoved role role w w' := by
  have hne : ∀ b r, role b = some r → r ≠ .rows → b ≠ rb := fun b r hb hr e => by subst e; rw [h.ro.2.1] at hb; exact hr (Option.some.inj hb).symm
  have hid : ∀ u, (id, u) ∉ X := fun u hu => by obtain ⟨v, hv⟩ := h.r2 id u hu; rw [hn] at hv; cases hv
  refine ⟨{ h with
    x := hk.obj (hne _ _ h.ro.1 (by simp)) h.x
    r := hm
    h := h.h.keep hk (hne _ _ h.ro.2.2.1 (by simp))
    a := h.a.keep hk (hne _ _ h.ro.2.2.2 (by simp))
    r1 := fun y u hu => by
      by_cases e : y = id
      · subst e
        rw [if_pos rfl] at hu
        simp only [Option.some.injEq] at hu
        subst hu
        exact ⟨t, by simp, hv⟩
      · rw [if_neg e] at hu
        obtain ⟨q, q1, q2⟩ := h.r1 y u hu
        exact ⟨q, by simp [q1], q2.frame (fun b hb hlt => hk.block b hlt fun e => hb (.inr (by rw [e, h.ro.2.1]; simp))) fun _ _ h => h⟩
    r2 := fun y u hu => by
      by_cases e : y = id
      · exact ⟨v, by rw [if_pos e]⟩
      · rcases List.mem_append.1 hu with hu | hu
        · obtain ⟨v', hv'⟩ := h.r2 y u hu
          exact ⟨v', by rw [if_neg e]; exact hv'⟩
        · simp at hu; exact absurd hu.1 e
    nd := by
      rw [List.map_append, List.nodup_append]
      refine ⟨h.nd, by simp, fun a ha b hb e => ?_⟩
      obtain ⟨q, hq, rfl⟩ := List.mem_map.1 ha
      simp at hb
      exact hid q.2 (by rw [← hb, ← e]; exact hq)
    h1 := fun k v hv => by
      obtain ⟨s, ib, q1, q2, q3, q4⟩ := h.h1 k v hv
      exact ⟨s, ib, q1, q2, q3, q4.keep hk (hne _ _ q3 (by simp))⟩
    a1 := fun k v hv => by
      obtain ⟨s, ib, q1, q2, q3, q4⟩ := h.a1 k v hv
      exact ⟨s, ib, q1, q2, q3, q4.keep hk (hne _ _ q3 (by simp))⟩
    z := fun b hb => by have q := h.z b hb; have := hk.size; exact ⟨q.1, by omega, q.2.2⟩
    la := fun b hb => Nat.lt_of_lt_of_le (h.la b hb) hk.size }, hk.mono (fun b _ hb e => by rw [e, h.ro.2.1] at hb; cases hb), fun b hb => .inl hb⟩
end
theorem PMoved.trans {r1 r2 r3 : Nat → Option PRole} {w1 w2 w3 : World} (h : PMoved r1 r2 w1 w2) (k : PMoved r2 r3 w2 w3) : PMoved r1 r3 w1 w3 := by
  refine ⟨⟨k.1.os.trans h.1.os, k.1.tape.trans h.1.tape, k.1.output.trans h.1.output, Nat.le_trans h.1.size k.1.size, fun b hb hn => ?_⟩, fun b hb => ?_⟩
  · refine (k.1.block b (Nat.lt_of_lt_of_le hb h.1.size) ?_).trans (h.1.block b hb hn)
    cases hr : r2 b with
    | none => rfl
    | some r =>
      rcases h.2 b (by rw [hr]; simp) with h9 | h9
      · exact absurd hn h9
      · omega
  · rcases k.2 b hb with h9 | h9
    · exact h.2 b h9
    · exact .inr (Nat.le_trans h.1.size h9)
theorem PMoved.of_below {r : Nat → Option PRole} {w w' : World} (h : Below w.heap.size w w') : PMoved r r w w' := ⟨Keep.of_below h, fun b h => .inl h⟩
theorem PMoved.obj {r r' : Nat → Option PRole} {w w' : World} (h : PMoved r r' w w') {b : Nat} {o : Obj} (hb : r b = none) (ho : w.heap[b]? = some o) : w'.heap[b]? = some o ∧ r' b = none := by
  refine ⟨h.1.obj hb ho, ?_⟩
  cases hr : r' b with
  | none => rfl
  | some q =>
    rcases h.2 b (by rw [hr]; simp) with h9 | h9
    · exact absurd hb h9
    · have := (Array.getElem?_eq_some_iff.1 ho).1; omega
theorem PMoved.under {r r' : Nat → Option PRole} {w w' : World} {base : Nat} (h : PMoved r r' w w') (hlt : ∀ b, r b ≠ none → base ≤ b) (hb : base ≤ w.heap.size) : Below base w w' :=
  h.1.below (fun b hb' => by
    cases hr : r b with
    | none => rfl
    | some q => have := hlt b (by rw [hr]; simp); omega) hb
def PxOk (w : World) (A : Nat → Prop) (xb rb hb ab : Nat) (X : List (Int × Tm)) (role : Nat → Option PRole) (base : Nat) : Prop := ∃ fr fh fa, PxAt w A xb rb hb ab fr fh fa role X (hasS X) (hasP X) base

set_option maxHeartbeats 1000000 in
set_option maxRecDepth 100000 in
theorem pnew_calls (A : Nat → Prop) (w : World) (hA : ∀ b, A b → b < w.heap.size) : Calls Tryd.prog 10 #[] w fun e w' => ∃ xb rb hb ab role, e = .returned (.pointer (some ⟨xb, 0, none⟩)) ∧ PxOk w' A xb rb hb ab [] role w.heap.size ∧ Below w.heap.size w w' := by
  have hmm := @run_makeMap Tryd.prog
  go_enter Tryd.func10, Tryd.ntmps10
  go_wp2
  go_ret
  have hb0 : Below w.heap.size w (w.alloc (.map #[] 0)) := (Below.refl _ _).alloc (Nat.le_refl _) _
  have hb1 : Below (w.alloc (.map #[] 0)).heap.size (w.alloc (.map #[] 0)) ((w.alloc (.map #[] 0)).alloc (.map #[] 0)) := (Below.refl _ _).alloc (Nat.le_refl _) _
  have hb2 : Below ((w.alloc (.map #[] 0)).alloc (.map #[] 0)).heap.size ((w.alloc (.map #[] 0)).alloc (.map #[] 0)) (((w.alloc (.map #[] 0)).alloc (.map #[] 0)).alloc (.map #[] 0)) := (Below.refl _ _).alloc (Nat.le_refl _) _
  have hb3 : Below (((w.alloc (.map #[] 0)).alloc (.map #[] 0)).alloc (.map #[] 0)).heap.size (((w.alloc (.map #[] 0)).alloc (.map #[] 0)).alloc (.map #[] 0)) ((((w.alloc (.map #[] 0)).alloc (.map #[] 0)).alloc (.map #[] 0)).alloc (.cells #[.map (some w.heap.size), .map (some (w.heap.size + 1)), .map (some (w.heap.size + 1 + 1))] 63)) := (Below.refl _ _).alloc (Nat.le_refl _) _
  refine ⟨w.heap.size + 1 + 1 + 1, w.heap.size, w.heap.size + 1, w.heap.size + 1 + 1, fun b => if b = w.heap.size + 1 + 1 + 1 then some .top else if b = w.heap.size then some .rows else if b = w.heap.size + 1 then some .haves else if b = w.heap.size + 1 + 1 then some .anys else none, by simp, ⟨fun _ => none, fun _ => none, fun _ => none, ?_⟩, more_below (more_below (more_below hb0 hb1) hb2) hb3⟩
  have k3 := World.alloc_heap_new (((w.alloc (.map #[] 0)).alloc (.map #[] 0)).alloc (.map #[] 0)) (.cells #[.map (some w.heap.size), .map (some (w.heap.size + 1)), .map (some (w.heap.size + 1 + 1))] 63)
  simp only [World.size_alloc] at k3
  have m0 := (((MapAt.made w).below hb1).below hb2).below hb3
  have m1 := ((MapV.made Tryd.prog 68 (w.alloc (.map #[] 0))).below hb2).below hb3
  have m2 := (MapV.made Tryd.prog 9 ((w.alloc (.map #[] 0)).alloc (.map #[] 0))).below hb3
  simp only [World.size_alloc] at m1 m2
  exact { x := k3, r := m0, h := m1, a := m2, r1 := fun _ _ h => (by cases h), r2 := fun _ _ h => (by simp at h), nd := by simp, h1 := fun _ _ h => (by cases h), h2 := fun s _ x h => (by obtain ⟨u, h, -⟩ := h; simp at h), a1 := fun _ _ h => (by cases h), a2 := fun s _ x h => (by obtain ⟨u, h, -⟩ := h; simp at h)
          ro := ⟨by simp, by rw [if_neg (by omega)]; simp, by rw [if_neg (by omega), if_neg (by omega)]; simp, by rw [if_neg (by omega), if_neg (by omega), if_neg (by omega)]; simp⟩
          z := fun b hb => by
            have hb' : b = w.heap.size + 1 + 1 + 1 ∨ b = w.heap.size ∨ b = w.heap.size + 1 ∨ b = w.heap.size + 1 + 1 := by
              refine Decidable.byContradiction fun hn => hb ?_
              simp only [not_or] at hn
              rw [if_neg hn.1, if_neg hn.2.1, if_neg hn.2.2.1, if_neg hn.2.2.2]
            refine ⟨by omega, by simp; omega, fun h => by have := hA b h; omega⟩
          la := fun b hb => by have := hA b hb; simp; omega }
end Go.Proofs.YtneecjikdghchaaDoor
