/- What the proof of the law rests on: contracts of the functions, plain laws, and words. -/
import Derived.Deep.AppendLies
import Derived.Test.YthplndalbfcbbaaKMatchUnifiesG0
import Derived.Test.YthplndalbfcbbaaKMatchUnifiesG1
set_option linter.unusedSimpArgs false
set_option linter.unusedVariables false
namespace Go.Proofs.Ythplndalbfcbbaa
open Go.RowKit
theorem RepR.of {A : Nat → Prop} {w : World} {b k : Nat} : ∀ (css : List (List Value)) (ds : List D) (off : Nat), (∀ cs, cs ∈ css → cs.length = k) → (∀ j, j < css.flatten.length → w.cell? ⟨b, off + j, none⟩ = css.flatten[j]?) →
    All2 (fun cs d => RepD A w d cs) css ds → RepR A w b k off ds
  | _, _, off, _, _, .nil => by simp only [RepR]
  | cs :: css, d :: ds, off, hl, hc, .cons h hr => by
    have hk : cs.length = k := hl cs (by simp)
    simp only [RepR]
    refine ⟨⟨cs, hk, fun i hi => ?_, h⟩, RepR.of css ds (off + k) (fun c hc' => hl c (by simp [hc'])) (fun j hj => ?_) hr⟩
    · have := hc i (by simp; omega)
      rw [this]; simp [List.getElem?_append, hk, hi]
    · have := hc (k + j) (by rw [List.flatten_cons, List.length_append, hk]; omega)
      rw [show off + k + j = off + (k + j) by omega, this, List.flatten_cons, List.getElem?_append_right (by omega)]
      congr 1; omega
def OwnD (A : Nat → Prop) (w : World) (base e k : Nat) (v : Value) (ds : List D) : Prop :=
  ∃ css : List (List Value), w.ownsRow base e k v ds.length css.flatten ∧ (∀ cs, cs ∈ css → cs.length = k) ∧ All2 (fun cs d => RepD (fun b => A b ∨ v.ownBlock = some b) w d cs) css ds
theorem All2.imp {β γ : Type} {R R' : β → γ → Prop} (hr : ∀ x y, R x y → R' x y) {a : List β} {c : List γ} (h : All2 R a c) : All2 R' a c := by
  induction h with
  | nil => exact .nil
  | cons h _ ih => exact .cons (hr _ _ h) ih
theorem OwnD.nil (A : Nat → Prop) (w : World) (base e k : Nat) : OwnD A w base e k (.slice none 0 0) [] := ⟨[], World.ownsRow_nil _ _ _ _, by simp, .nil⟩
theorem OwnD.shape {A : Nat → Prop} {w : World} {base e k : Nat} {v : Value} {ds : List D} (h : OwnD A w base e k v ds) : ∃ ad c, v = .slice ad ds.length c := by
  obtain ⟨css, h1, _⟩ := h
  rcases h1.2 with ⟨h, h'⟩ | ⟨g, cap, cur, h, _⟩
  · exact ⟨none, 0, by rw [h, h']⟩
  · exact ⟨_, _, h⟩
theorem OwnD.lt {A : Nat → Prop} {w : World} {base e k : Nat} {v : Value} {ds : List D} (h : OwnD A w base e k v ds) : ∀ b, v.ownBlock = some b → base ≤ b ∧ b < w.heap.size := by
  obtain ⟨css, h1, _⟩ := h
  exact h1.lt
theorem OwnD.keep {A S : Nat → Prop} {w w' : World} {base e k : Nat} {v : Value} {ds : List D} (h : OwnD A w base e k v ds) (hk : Keep S w w') (hS : ∀ b, b < w.heap.size → ¬ A b → S b) (hv : ∀ b, v.ownBlock = some b → S b) : OwnD A w' base e k v ds := by
  obtain ⟨css, h1, h2, h3⟩ := h
  exact ⟨css, ownsRow_keep h1 hk hv, h2, h3.imp fun cs d hd => hd.frame (fun b hb hlt => hk.block b hlt (hS b hlt (fun h => hb (.inl h)))) (fun _ _ h => h)⟩
theorem OwnD.below {A : Nat → Prop} {w w' : World} {base e k : Nat} {v : Value} {ds : List D} (h : OwnD A w base e k v ds) (hb : Below w.heap.size w w') : OwnD A w' base e k v ds :=
  h.keep (S := fun _ => True) (.of_below hb) (fun _ _ _ => trivial) (fun _ _ => trivial)
theorem OwnD.rep {A : Nat → Prop} {w : World} {base e k : Nat} {v : Value} {ds : List D} (h : OwnD A w base e k v ds) (hA : ∀ b, A b → b < base) : RepD A w (.row k ds) [v] := by
  obtain ⟨css, h1, h2, h3⟩ := h
  simp only [RepD]
  rcases h1.2 with ⟨h, h'⟩ | ⟨g, cap, cur, h, hg, hh, hn, hm, hs, ht⟩
  · exact ⟨none, 0, 0, by rw [h], h'.symm, by omega, by omega, by omega⟩
  · refine ⟨_, _, _, by rw [h], rfl, hn, Nat.le_trans hn (by simpa [maxLen] using hm), fun h0 => ⟨g, 0, rfl, (Array.getElem?_eq_some_iff.1 hh).1, fun ha => by have := hA g ha; omega, ?_⟩⟩
    refine RepR.of css ds 0 h2 (fun j hj => ?_) (h3.imp fun cs d hd => hd.bar fun b _ h => .inl h)
    have := h1.cells (g := g) (by rw [h]; rfl) j (css.flatten[j]) (by simp)
    rw [add_plain] at this
    rw [Nat.zero_add, this]; simp
theorem OwnD.terms {A : Nat → Prop} {w : World} {base e : Nat} {v : Value} {ts : List Tm} (h : OwnD A w base e 2 v (ts.map Tm.d)) (hA : ∀ b, A b → b < base) : Terms A w v ts := by
  rw [Terms, Tm.ds_eq]; exact h.rep hA
structure Bd where
  v : Int
  t : Tm
def Bd.d (b : Bd) : D := .agg [.lit (.int .i64 b.v), b.t.d]
def Binds (A : Nat → Prop) (w : World) (s : Value) (bs : List Bd) : Prop := RepD A w (.row 3 (bs.map Bd.d)) [s]
theorem repBd {A : Nat → Prop} {w : World} {b : Bd} {cs : List Value} : RepD A w b.d cs ↔ ∃ s, cs = [.int .i64 b.v, .int .i64 b.t.h, s] ∧ Terms A w s b.t.args := by
  simp only [Bd.d, RepD, RepL]
  constructor
  · rintro ⟨c1, c2, rfl, rfl, c3, c4, rfl, h, rfl⟩
    obtain ⟨s, rfl, h9⟩ := repTm.1 h
    exact ⟨s, by simp, h9⟩
  · rintro ⟨s, rfl, h⟩
    exact ⟨[_], [_, _], rfl, rfl, [_, _], [], by simp, repTm.2 ⟨s, rfl, h⟩, rfl⟩
theorem Binds.shape {A : Nat → Prop} {w : World} {s : Value} {bs : List Bd} (h : Binds A w s bs) : ∃ a c, s = .slice a bs.length c ∧ bs.length ≤ c ∧ bs.length ≤ 9223372036854775807 := by
  simp only [Binds, RepD] at h
  obtain ⟨a, n, c, h1, h2, h3, h4, h5⟩ := h
  simp only [List.length_map] at h2
  subst h2
  simp only [List.cons.injEq, and_true] at h1
  exact ⟨a, c, h1, h3, h4⟩
theorem Binds.get {A : Nat → Prop} {w : World} {a : Option Addr} {n c : Nat} {bs : List Bd} (h : Binds A w (.slice a n c) bs) (i : Nat) (hi : i < bs.length) :
    ∃ b off a' c', a = some ⟨b, off, none⟩ ∧ b < w.heap.size ∧ ¬ A b ∧ w.cell? ⟨b, off + i * 3, none⟩ = some (.int .i64 bs[i].v) ∧ w.cell? ⟨b, off + i * 3 + 1, none⟩ = some (.int .i64 bs[i].t.h) ∧ w.cell? ⟨b, off + i * 3 + 2, none⟩ = some (.slice a' bs[i].t.args.length c') ∧ Terms A w (.slice a' bs[i].t.args.length c') bs[i].t.args := by
  simp only [Binds, RepD] at h
  obtain ⟨a, n, c, h1, h2, h3, h4, h5⟩ := h
  simp only [List.cons.injEq, and_true, Value.slice.injEq] at h1
  obtain ⟨rfl, rfl, rfl⟩ := h1
  simp only [List.length_map] at h2
  obtain ⟨b, off, ha, hs, hb, hr⟩ := h5 (by omega)
  obtain ⟨cs, e1, e2, e3⟩ := hr.at i (by simpa using hi)
  simp only [List.getElem_map] at e3
  obtain ⟨s', rfl, e4⟩ := repBd.1 e3
  obtain ⟨a', c', rfl, _⟩ := e4.shape
  exact ⟨b, off, a', c', ha, hs, hb, by simpa using e2 0 (by omega), by simpa using e2 1 (by omega), by simpa using e2 2 (by omega), e4⟩
theorem Binds.getW {A : Nat → Prop} {w w' : World} {a : Option Addr} {n c : Nat} {bs : List Bd} (h : Binds A w (.slice a n c) bs) (hb : Below w.heap.size w w') (i : Nat) (hi : i < bs.length) :
    ∃ b off a' c', a = some ⟨b, off, none⟩ ∧ w'.cell? ⟨b, off + i * 3, none⟩ = some (.int .i64 bs[i].v) ∧ w'.cell? ⟨b, off + i * 3 + 1, none⟩ = some (.int .i64 bs[i].t.h) ∧ w'.cell? ⟨b, off + i * 3 + 2, none⟩ = some (.slice a' bs[i].t.args.length c') ∧ IsTm A w' bs[i].t.h (.slice a' bs[i].t.args.length c') bs[i].t := by
  obtain ⟨b, off, a', c', h1, h2, h3, h4, h5, h6, h7⟩ := h.get i hi
  exact ⟨b, off, a', c', h1, (hb.cell (p := ⟨b, off + i * 3, none⟩) h2).trans h4, (hb.cell (p := ⟨b, off + i * 3 + 1, none⟩) h2).trans h5, (hb.cell (p := ⟨b, off + i * 3 + 2, none⟩) h2).trans h6, rfl, h7.below hb⟩
theorem Binds.below {A : Nat → Prop} {w w' : World} {s : Value} {bs : List Bd} (h : Binds A w s bs) (hb : Below w.heap.size w w') : Binds A w' s bs := RepD.below h hb
end Go.Proofs.Ythplndalbfcbbaa
set_option linter.unusedSimpArgs false
set_option linter.unusedVariables false
namespace Go.Proofs.Ythplndalbfcbbaa
open Go.RowKit
mutual
def cmpT : Tm → Tm → Int
  | .node h l, u => if (Tm.node h l).size ≠ u.size then ordI (Tm.node h l).size u.size else if h ≠ u.h then ordI h u.h else if l.length ≠ u.args.length then ordI l.length u.args.length else cmpL l u.args
def cmpL : List Tm → List Tm → Int
  | [], _ => 0
  | _ :: _, [] => 0
  | t :: ts, us => match us with | [] => 0 | u :: us => if cmpT t u ≠ 0 then cmpT t u else cmpL ts us
end
theorem cmpT_eq (t u : Tm) : cmpT t u = if t.size ≠ u.size then ordI t.size u.size else if t.h ≠ u.h then ordI t.h u.h else if t.args.length ≠ u.args.length then ordI t.args.length u.args.length else cmpL t.args u.args := by
  cases t; simp only [cmpT]; rfl
theorem cmpL_drop (l m : List Tm) (k : Nat) (h : k < l.length) (h2 : k < m.length) : cmpL (l.drop k) (m.drop k) = if cmpT l[k] m[k] ≠ 0 then cmpT l[k] m[k] else cmpL (l.drop (k + 1)) (m.drop (k + 1)) := by
  rw [List.drop_eq_getElem_cons h, List.drop_eq_getElem_cons h2]; simp only [cmpL]
theorem ordI_zero {a b : Int} (h : ordI a b = 0) : a = b := by
  unfold ordI at h
  by_cases h1 : a < b
  · rw [if_pos h1] at h; omega
  · by_cases h2 : b < a
    · rw [if_neg h1, if_pos h2] at h; omega
    · omega
mutual
theorem cmpT_zero : ∀ (t u : Tm), cmpT t u = 0 ↔ t = u
  | .node h l, .node h' l' => by
    have hl := cmpL_zero l l'
    have e0 : cmpT (.node h l) (.node h' l') = if (Tm.node h l).size ≠ (Tm.node h' l').size then ordI (Tm.node h l).size (Tm.node h' l').size else if h ≠ h' then ordI h h' else if l.length ≠ l'.length then ordI l.length l'.length else cmpL l l' := by
      simp only [cmpT]; rfl
    rw [e0]
    by_cases h1 : (Tm.node h l).size ≠ (Tm.node h' l').size
    · rw [if_pos h1]
      constructor
      · intro e; have := ordI_zero e; omega
      · intro e; rw [e] at h1; exact absurd rfl h1
    · rw [if_neg h1]
      by_cases h2 : h ≠ h'
      · rw [if_pos h2]
        constructor
        · intro e; exact absurd (ordI_zero e) h2
        · intro e; cases e; exact absurd rfl h2
      · rw [if_neg h2]
        by_cases h3 : l.length ≠ l'.length
        · rw [if_pos h3]
          constructor
          · intro e; have := ordI_zero e; omega
          · intro e; cases e; exact absurd rfl h3
        · rw [if_neg h3]
          simp only [ne_eq, Decidable.not_not] at h2 h3
          rw [hl h3, h2]; simp
theorem cmpL_zero : ∀ (l m : List Tm), l.length = m.length → (cmpL l m = 0 ↔ l = m)
  | [], [], _ => by simp [cmpL]
  | [], _ :: _, h => by simp at h
  | _ :: _, [], h => by simp at h
  | t :: ts, u :: us, h => by
    have h1 := cmpT_zero t u
    have h2 := cmpL_zero ts us (by simpa using h)
    simp only [cmpL]
    split
    · rename_i hne
      constructor
      · intro e; exact absurd e hne
      · rintro ⟨⟩; exact h1.2 rfl
    · rename_i hne
      simp only [ne_eq, Decidable.not_not] at hne
      rw [h2, h1.1 hne]; simp
end
def sameB (t u : Tm) : Bool := cmpT t u == 0
theorem sameB_iff {t u : Tm} : sameB t u = true ↔ t = u := by simp [sameB, cmpT_zero]
theorem sameB_self (t : Tm) : sameB t t = true := sameB_iff.2 rfl
set_option maxHeartbeats 4000000 in
set_option maxRecDepth 100000 in
theorem compare_calls (n0 : Nat) : ∀ (t u : Tm) (A A2 : Nat → Prop) (h h2 : Int) (s s2 : Value) (w : World), t.size ≤ n0 → t.size ≤ 9000000000000000000 → u.size ≤ 9000000000000000000 → IsTm A w h s t → IsTm A2 w h2 s2 u →
    Calls Try.prog 93 #[.agg #[.int .i64 h, s], .agg #[.int .i64 h2, s2]] w fun e w' => e = .returned (.int .i64 (cmpT t u)) ∧ Below w.heap.size w w' := by
  induction n0 with
  | zero => intro t; cases t; intro u A A2 h h2 s s2 w ht; simp [Tm.size] at ht
  | succ n0 ih =>
    rintro t u A A2 h h2 s s2 w ht hn1 hn2 hs hu
    obtain ⟨rfl, a, c, rfl, hlc, hc⟩ := hs.shape
    obtain ⟨rfl, a2, c2, rfl, hlc2, hc2⟩ := hu.shape
    have hsz := hide t.size_eq
    have hce := hide (cmpT_eq t u)
    have hl : t.args.length ≤ 9223372036854775807 := by omega
    have hl2 : u.args.length ≤ 9223372036854775807 := by omega
    have hsl : Tm.sizes t.args ≤ n0 := by have := hsz.out; omega
    go_enter Try.func93, Try.ntmps93
    refine seq_cut (fun a' w' => a' = { tmps := #[.agg #[.int .i64 t.h, .slice a t.args.length c], .agg #[.int .i64 u.h, .slice a2 u.args.length c2], .pointer (some ⟨w.heap.size, 0, none⟩), .pointer (some ⟨w.heap.size + 1, 0, none⟩), .int .i64 0, undef, undef, undef, undef, undef, undef, undef, undef, undef, undef, undef, undef, undef, undef, undef, undef, undef, undef, undef, undef, undef, undef, undef, undef, undef, undef, undef, undef, undef, undef, undef, undef, undef, undef, undef, undef, undef, undef, undef, undef, undef, undef, undef, undef, undef, undef, undef, undef, undef, undef, undef, undef, undef, undef, undef, undef, undef], defers := [] } ∧ w' = (w.alloc (.cells #[.int .i64 t.h, .slice a t.args.length c] 25)).alloc (.cells #[.int .i64 u.h, .slice a2 u.args.length c2] 25)) ?_ ?_
    · go_wp2
      first | done | exact ⟨rfl, rfl⟩ | exact ⟨trivial, trivial⟩
    rintro _ W ⟨rfl, HW⟩
    have hWa : W = allocs w [.cells #[.int .i64 t.h, .slice a t.args.length c] 25, .cells #[.int .i64 u.h, .slice a2 u.args.length c2] 25] := HW
    have hB : Below w.heap.size w W := by rw [hWa]; exact allocs_below _ _
    have b0 : W.heap[w.heap.size]? = some (.cells #[.int .i64 t.h, .slice a t.args.length c] 25 (0, 0)) := by rw [hWa]; exact allocs_get _ _ 0 _ rfl
    have b1 : W.heap[w.heap.size + 1]? = some (.cells #[.int .i64 u.h, .slice a2 u.args.length c2] 25 (0, 0)) := by rw [hWa]; exact allocs_get _ _ 1 _ rfl
    clear HW hWa
    -- what holds in each later world
    have Later : ∀ W', Below W.heap.size W W' → Below w.heap.size w W' ∧ W'.cell? ⟨w.heap.size, 0, none⟩ = some (.int .i64 t.h) ∧ W'.cell? ⟨w.heap.size, 1, none⟩ = some (.slice a t.args.length c) ∧ W'.cell? ⟨w.heap.size + 1, 0, none⟩ = some (.int .i64 u.h) ∧ W'.cell? ⟨w.heap.size + 1, 1, none⟩ = some (.slice a2 u.args.length c2) := by
      intro W' hb
      have l0 := (Array.getElem?_eq_some_iff.1 b0).1
      have l1 := (Array.getElem?_eq_some_iff.1 b1).1
      have q0 := (hb.block _ l0).trans b0
      have q1 := (hb.block _ l1).trans b1
      exact ⟨hB.trans (hb.mono hB.size), by simp [World.cell?, q0], by simp [World.cell?, q0], by simp [World.cell?, q1], by simp [World.cell?, q1]⟩
    clear b0 b1
    -- the sizes
    obtain ⟨hBW, e0, e1, e2, e3⟩ := Later W (Below.refl _ _)
    refine seq_cut (fun a' w' => t.size = u.size ∧ Below W.heap.size W w' ∧ ∃ u7 u8 u9 u10 u11 : Value, a' = { tmps := #[.agg #[.int .i64 t.h, .slice a t.args.length c], .agg #[.int .i64 u.h, .slice a2 u.args.length c2], .pointer (some ⟨w.heap.size, 0, none⟩), .pointer (some ⟨w.heap.size + 1, 0, none⟩), .int .i64 0, undef, undef, u7, u8, u9, u10, u11, undef, undef, undef, undef, undef, undef, undef, undef, undef, undef, undef, undef, undef, undef, undef, undef, undef, undef, undef, undef, undef, undef, undef, undef, undef, undef, undef, undef, undef, undef, undef, undef, undef, undef, undef, undef, undef, undef, undef, undef, undef, undef, undef, undef, undef, undef, undef, undef, undef, undef], defers := [] }) ?_ ?_
    · go_wp2
      refine cut_plq (fun a' w' => Below W.heap.size W w' ∧ ∃ u7 u8 u9 u10 : Value, a' = { tmps := #[.agg #[.int .i64 t.h, .slice a t.args.length c], .agg #[.int .i64 u.h, .slice a2 u.args.length c2], .pointer (some ⟨w.heap.size, 0, none⟩), .pointer (some ⟨w.heap.size + 1, 0, none⟩), .int .i64 0, undef, undef, u7, u8, u9, u10, .bool ((t.size : Int) != u.size), undef, undef, undef, undef, undef, undef, undef, undef, undef, undef, undef, undef, undef, undef, undef, undef, undef, undef, undef, undef, undef, undef, undef, undef, undef, undef, undef, undef, undef, undef, undef, undef, undef, undef, undef, undef, undef, undef, undef, undef, undef, undef, undef, undef, undef, undef, undef, undef, undef, undef], defers := [] }) ?_ ?_
      · go_region_with (go_at_call 77; first | ((with_reducible refine (size_calls _ t A t.h (.slice a t.args.length c) _ hn1 (Nat.le_refl _) (hs.below (by first | assumption | exact Below.drew (by assumption)))).mono ?_); rintro e wn ⟨rfl, hbn⟩; have hcn := more_below (w := W) (by first | assumption | exact Below.drew (Below.refl _ _) | exact Below.drew (by assumption)) hbn; clear hbn; obtain ⟨_, _, _, _, _⟩ := Later wn hcn) | ((with_reducible refine (size_calls _ u A2 u.h (.slice a2 u.args.length c2) _ hn2 (Nat.le_refl _) (hu.below (by first | assumption | exact Below.drew (by assumption)))).mono ?_); rintro e wn ⟨rfl, hbn⟩; have hcn := more_below (w := W) (by first | assumption | exact Below.drew (Below.refl _ _) | exact Below.drew (by assumption)) hbn; clear hbn; obtain ⟨_, _, _, _, _⟩ := Later wn hcn))
        all_goals exact ⟨by assumption, _, _, _, _, rfl⟩
      rintro _ W1 ⟨hb1, u7, u8, u9, u10, rfl⟩
      obtain ⟨hBW1, f0, f1, f2, f3⟩ := Later W1 hb1
      by_cases k1 : t.size = u.size
      · have k1' : ((t.size : Int) != u.size) = false := by simp [k1]
        rw [k1']
        clear k1'
        have K1 := hide k1
        clear k1
        go_wp2
        exact ⟨K1.out, hb1, _, _, _, _, _, rfl⟩
      · have k1' : ((t.size : Int) != u.size) = true := by rw [bne_iff_ne]; omega
        rw [k1']
        have K1 := hide (show ordI t.size u.size = cmpT t u by rw [hce.out, if_pos k1])
        clear k1 k1'
        go_wp2
        refine cut_plq (fun a' w' => Below W.heap.size W w' ∧ ∃ V5 V6 V12 V13 V14 V15 V16 : Value, a' = { tmps := #[.agg #[.int .i64 t.h, .slice a t.args.length c], .agg #[.int .i64 u.h, .slice a2 u.args.length c2], .pointer (some ⟨w.heap.size, 0, none⟩), .pointer (some ⟨w.heap.size + 1, 0, none⟩), .int .i64 (ordI t.size u.size), V5, V6, u7, u8, u9, u10, .bool true, V12, V13, V14, V15, V16, undef, undef, undef, undef, undef, undef, undef, undef, undef, undef, undef, undef, undef, undef, undef, undef, undef, undef, undef, undef, undef, undef, undef, undef, undef, undef, undef, undef, undef, undef, undef, undef, undef, undef, undef, undef, undef, undef, undef, undef, undef, undef, undef, undef, undef], defers := [] }) ?_ ?_
        · go_region_with (first | (go_at_call 77; first | ((with_reducible refine (size_calls _ t A t.h (.slice a t.args.length c) _ hn1 (Nat.le_refl _) (hs.below (by first | assumption | exact Below.drew (by assumption)))).mono ?_); rintro e wn ⟨rfl, hbn⟩; have hcn := more_below (w := W) (by first | assumption | exact Below.drew (Below.refl _ _) | exact Below.drew (by assumption)) hbn; clear hbn; obtain ⟨_, _, _, _, _⟩ := Later wn hcn) | ((with_reducible refine (size_calls _ u A2 u.h (.slice a2 u.args.length c2) _ hn2 (Nat.le_refl _) (hu.below (by first | assumption | exact Below.drew (by assumption)))).mono ?_); rintro e wn ⟨rfl, hbn⟩; have hcn := more_below (w := W) (by first | assumption | exact Below.drew (Below.refl _ _) | exact Below.drew (by assumption)) hbn; clear hbn; obtain ⟨_, _, _, _, _⟩ := Later wn hcn)) | (go_at_call 137; refine (order_calls _ _ _).mono ?_; rintro e wn ⟨rfl, rfl⟩))
          all_goals exact ⟨by assumption, _, _, _, _, _, _, _, rfl⟩
        rintro _ W2 ⟨hb2, V5, V6, V12, V13, V14, V15, V16, rfl⟩
        obtain ⟨hBW2, -, -, -, -⟩ := Later W2 hb2
        go_wp2
        go_ret
        exact ⟨ret_int K1.out, hBW2⟩
    rintro _ W1 ⟨k1, hb1, u7, u8, u9, u10, u11, rfl⟩
    obtain ⟨hBW1, f0, f1, f2, f3⟩ := Later W1 hb1
    have hce2 := hide (show cmpT t u = if t.h ≠ u.h then ordI t.h u.h else if t.args.length ≠ u.args.length then ordI t.args.length u.args.length else cmpL t.args u.args by rw [hce.out, if_neg (by omega)])
    clear k1 hce e0 e1 e2 e3
    by_cases k2 : t.h = u.h
    · by_cases k3 : t.args.length = u.args.length
      · have HG := hide (show cmpL (t.args.drop 0) (u.args.drop 0) = cmpT t u by rw [hce2.out, if_neg (by simp [k2]), if_neg (by simp [k3])]; rfl)
        have k2' : (t.h != u.h) = false := by simp [k2]
        have k3' : ((t.args.length : Int) != u.args.length) = false := by simp [k3]
        have k3a : t.args.length ≤ u.args.length := by omega
        clear k2 k3 hce2
        go_wp2
        go_loopw [5] (fun i wr => ∃ k : Nat, k ≤ t.args.length ∧ i = .int .i64 k ∧ Hid (cmpL (t.args.drop k) (u.args.drop k) = cmpT t u) ∧ Below W.heap.size W wr) (fun i _ => t.args.length - (intOf i).toNat)
        case atStart => exact ⟨0, by omega, rfl, HG, hb1⟩
        case round =>
          obtain ⟨k, hk, rfl, hG, hbr⟩ := hrel
          obtain ⟨hBr, g0, g1, g2, g3⟩ := Later wr hbr
          by_cases hlt : k < t.args.length
          · have hlt2 : k < u.args.length := by omega
            obtain ⟨b, off, a', c', rfl, hc1, hc2, hs'⟩ := hs.2.getW hBr k hlt
            obtain ⟨b2, off2, a2', c2', rfl, hd1, hd2, hu'⟩ := hu.2.getW hBr k hlt2
            have hk2 := Tm.size_get t.args k hlt
            have hk3 := Tm.size_get u.args k hlt2
            have husz := u.size_eq
            have htsz := hsz.out
            have hr1 : t.args[k].size ≤ n0 := by omega
            have hr2 : t.args[k].size ≤ 9000000000000000000 := by omega
            have hr3 : u.args[k].size ≤ 9000000000000000000 := by omega
            have hG1 := hG.out
            rw [cmpL_drop _ _ k hlt hlt2] at hG1
            have HG1 := hide hG1
            clear hG1 hG husz htsz hk2 hk3
            go_wp2
            refine cut_plq (fun a' w' => Below W.heap.size W w' ∧ ∃ V48 V49 V50 V51 V52 V53 V54 V55 V56 V57 V58 : Value, a' = { tmps := #[.agg #[.int .i64 t.h, .slice (some ⟨b, off, none⟩) t.args.length c], .agg #[.int .i64 u.h, .slice (some ⟨b2, off2, none⟩) u.args.length c2], .pointer (some ⟨w.heap.size, 0, none⟩), .pointer (some ⟨w.heap.size + 1, 0, none⟩), u4, .int .i64 k, .int .i64 (cmpT t.args[k] u.args[k]), u7, u8, u9, u10, u11, undef, undef, undef, undef, undef, .pointer (some ⟨w.heap.size, 0, none⟩), .int .i64 t.h, .pointer (some ⟨w.heap.size + 1, 0, none⟩), .int .i64 u.h, .bool false, undef, undef, undef, undef, undef, .pointer (some ⟨w.heap.size, 1, none⟩), .slice (some ⟨b, off, none⟩) t.args.length c, .int .i64 t.args.length, .pointer (some ⟨w.heap.size + 1, 1, none⟩), .slice (some ⟨b2, off2, none⟩) u.args.length c2, .int .i64 u.args.length, .bool false, undef, undef, undef, undef, undef, undef, undef, .int .i64 k, .pointer (some ⟨w.heap.size, 1, none⟩), .slice (some ⟨b, off, none⟩) t.args.length c, .int .i64 t.args.length, .bool true, u46, u47, V48, V49, V50, V51, V52, V53, V54, V55, V56, V57, V58, u59, u60, u61], defers := [] }) ?_ ?_
            · go_region_with (go_at_call 93; refine (ih t.args[k] u.args[k] A A2 _ _ _ _ _ hr1 hr2 hr3 (hs'.below (Below.refl _ _).drew) (hu'.below (Below.refl _ _).drew)).mono ?_; rintro e wn ⟨rfl, hbn⟩; have hcn := more_below hbr.drew hbn)
              all_goals exact ⟨by assumption, _, _, _, _, _, _, _, _, _, _, _, rfl⟩
            rintro _ W3 ⟨hb3, V48, V49, V50, V51, V52, V53, V54, V55, V56, V57, V58, rfl⟩
            obtain ⟨hB3, -, -, -, -⟩ := Later W3 hb3
            by_cases hz : cmpT t.args[k] u.args[k] = 0
            · have HZ := hide (show cmpL (t.args.drop (k + 1)) (u.args.drop (k + 1)) = cmpT t u by rw [← HG1.out, if_neg (by simp [hz])])
              have hz' : (cmpT t.args[k] u.args[k] != 0) = false := by simp [hz]
              clear hz
              go_wp2
              go_roundw
              case rel => exact ⟨k + 1, by omega, by go_num, HZ, hb3⟩
              case measure => simp [intOf]; omega
            · have HZ := hide (show cmpT t.args[k] u.args[k] = cmpT t u by rw [← HG1.out, if_pos hz])
              have hz' : (cmpT t.args[k] u.args[k] != 0) = true := by rw [bne_iff_ne]; exact hz
              clear hz
              go_wp2
              go_ret
              exact ⟨ret_int HZ.out, hB3⟩
          · have HG2 := hide (show (0 : Int) = cmpT t u by rw [← hG.out, List.drop_of_length_le (by omega)]; simp [cmpL])
            go_wp2
            go_ret
            exact ⟨ret_int HG2.out, hBr⟩
      · have HG := hide (show ordI t.args.length u.args.length = cmpT t u by rw [hce2.out, if_neg (by simp [k2]), if_pos k3])
        have k2' : (t.h != u.h) = false := by simp [k2]
        have k3' : ((t.args.length : Int) != u.args.length) = true := by rw [bne_iff_ne]; omega
        clear k2 k3 hce2
        go_wp2_with (go_at_call 137; refine (order_calls _ _ _).mono ?_; rintro e wn ⟨rfl, rfl⟩)
        go_ret
        exact ⟨ret_int HG.out, hBW1⟩
    · have HG := hide (show ordI t.h u.h = cmpT t u by rw [hce2.out, if_pos k2])
      have k2' : (t.h != u.h) = true := by rw [bne_iff_ne]; exact k2
      clear k2 hce2
      go_wp2_with (go_at_call 137; refine (order_calls _ _ _).mono ?_; rintro e wn ⟨rfl, rfl⟩)
      go_ret
      exact ⟨ret_int HG.out, hBW1⟩
theorem same_callsG (t u : Tm) (A A2 : Nat → Prop) (h h2 : Int) (s s2 : Value) (w : World) (ht : t.size ≤ 9000000000000000000) (hu1 : u.size ≤ 9000000000000000000) (hs : IsTm A w h s t) (hu : IsTm A2 w h2 s2 u) :
    Calls Try.prog 34 #[.agg #[.int .i64 h, s], .agg #[.int .i64 h2, s2]] w fun e w' => e = .returned (.bool (sameB t u)) ∧ Below w.heap.size w w' := by
  obtain ⟨rfl, a, c, rfl, hlc, hc⟩ := hs.shape
  obtain ⟨rfl, a2, c2, rfl, hlc2, hc2⟩ := hu.shape
  have hb0 : Below w.heap.size w ((w.alloc (.cells #[.int .i64 t.h, .slice a t.args.length c] 25)).alloc (.cells #[.int .i64 u.h, .slice a2 u.args.length c2] 25)) := allocs_below w [_, _]
  go_enter Try.func34, Try.ntmps34
  go_wp2_with fail
  refine (compare_calls _ t u A A2 _ _ _ _ _ (Nat.le_refl _) ht hu1 (hs.below hb0) (hu.below hb0)).mono ?_
  rintro e w1 ⟨rfl, h1⟩
  have hb1 := more_below hb0 h1
  clear h1 hb0
  go_wp2
  go_ret
  exact ⟨rfl, hb1⟩
theorem same_calls (t u : Tm) (A A2 : Nat → Prop) (h h2 : Int) (s s2 : Value) (w : World) (ht : t.size ≤ 1000000000) (hu1 : u.size ≤ 1000000000) (hs : IsTm A w h s t) (hu : IsTm A2 w h2 s2 u) :
    Calls Try.prog 34 #[.agg #[.int .i64 h, s], .agg #[.int .i64 h2, s2]] w fun e w' => e = .returned (.bool (sameB t u)) ∧ Below w.heap.size w w' :=
  same_callsG t u A A2 h h2 s s2 w (by omega) (by omega) hs hu
end Go.Proofs.Ythplndalbfcbbaa
set_option linter.unusedSimpArgs false
set_option linter.unusedVariables false
namespace Go.Proofs.Ythplndalbfcbbaa
open Go.RowKit
theorem box2 {w : World} {b : Nat} {x y : Value} {t : TypeId} (h : w.heap[b]? = some (.cells #[x, y] t (0, 0))) :
    b < w.heap.size ∧ w.cell? ⟨b, 0, none⟩ = some x ∧ w.cell? ⟨b, 1, none⟩ = some y ∧ w.frozen? ⟨b, 0, none⟩ = false ∧ w.frozen? ⟨b, 1, none⟩ = false :=
  ⟨(Array.getElem?_eq_some_iff.1 h).1, by simp [World.cell?, h], by simp [World.cell?, h], by simp [World.frozen?, h], by simp [World.frozen?, h]⟩
theorem box2_set {w : World} {b : Nat} {x y : Value} {t : TypeId} (h : w.heap[b]? = some (.cells #[x, y] t (0, 0))) (u v : Value) : ((w.setCell ⟨b, 0, none⟩ u).setCell ⟨b, 1, none⟩ v).heap[b]? = some (.cells #[u, v] t (0, 0)) := by
  simp [World.setCell, Array.getElem?_modify, h]
theorem box2_set1 {w : World} {b : Nat} {x y : Value} {t : TypeId} (h : w.heap[b]? = some (.cells #[x, y] t (0, 0))) (v : Value) : (w.setCell ⟨b, 1, none⟩ v).heap[b]? = some (.cells #[x, v] t (0, 0)) := by
  simp [World.setCell, Array.getElem?_modify, h]
theorem set2_below {n : Nat} {a w : World} {b : Nat} (h : Below n a w) (hb : n ≤ b) (u v : Value) : Below n a ((w.setCell ⟨b, 0, none⟩ u).setCell ⟨b, 1, none⟩ v) :=
  (h.setCell (p := ⟨b, 0, none⟩) hb u).setCell (p := ⟨b, 1, none⟩) hb v
theorem Terms.nil (A : Nat → Prop) (w : World) : Terms A w (.slice none 0 0) [] := by
  simp only [Terms, RepD, Tm.ds]
  exact ⟨none, 0, 0, rfl, rfl, by omega, by omega, by omega⟩
end Go.Proofs.Ythplndalbfcbbaa
set_option linter.unusedSimpArgs false
set_option linter.unusedVariables false
namespace Go.Proofs.Ythplndalbfcbbaa
open Go.RowKit
def ofBs (v : Int) : List Bd → Tm
  | [] => .node (-1 - v) []
  | b :: bs => if b.v = v then b.t else ofBs v bs
end Go.Proofs.Ythplndalbfcbbaa
set_option linter.unusedSimpArgs false
set_option linter.unusedVariables false
namespace Go.Proofs.Ythplndalbfcbbaa
open Go.RowKit
theorem Terms.bar {A B : Nat → Prop} {w : World} {s : Value} {ts : List Tm} (h : Terms A w s ts) (hB : ∀ b, b < w.heap.size → B b → A b) : Terms B w s ts := RepD.bar h hB
section
variable {P : Program} {W : World} {o : Oper} {a : Act} {K : Act → World → Prop} {Q : Exit → Act → World → Prop} {A : Nat → Prop}
theorem app_op (s x : Operand) (t : TypeId) (ho : o.op = .call { callee := .builtin .append, args := #[s, x], argTypes := #[t, t] }) (base : Nat) (e : TypeId) (z : Value) (bytes : Nat)
    (ht : P.underlying t = some (.slice e)) (hinfo : (P.info? e).map (fun i => (i.zero, i.size, i.bytes)) = some (some z, 2, bytes)) (hzs : z.cells.size = 2)
    {v : Value} {ds : List D} {d : D} {c1 c2 : Value} (hs : a.eval s = v) (hx : a.eval x = .slice (some ⟨W.heap.size, 0, none⟩) 1 1) (hown : OwnD A W base e 2 v ds) (hd : RepD (fun b => A b ∨ v.ownBlock = some b) W d [c1, c2])
    (h1 : c1.oneCell' = true) (h2 : c2.oneCell' = true) (hn : ds.length + 1 ≤ maxLen) (hbytes : (ds.length + 1) * bytes ≤ 140737488355328) (hbase : base ≤ W.heap.size)
    (h : ∀ v' w', OwnD A w' base e 2 v' (ds ++ [d]) → Keep (fun b => v.ownBlock ≠ some b) W w' → (∃ ad cap, v' = .slice ad (ds.length + 1) cap) → K (a.put o.dst v') w') :
    Oper.wp P o a (W.alloc (.cells #[c1, c2] e)) K Q := by
  obtain ⟨i, hi, hz⟩ := Option.map_eq_some_iff.1 hinfo
  simp only [Prod.mk.injEq] at hz
  obtain ⟨hz0, hz1, hz2⟩ := hz
  obtain ⟨css, g1, g2, g3⟩ := hown
  refine wp_append_lies _ s x t ho base e i z 2 bytes ht hi hz0 hz1 hz2 hzs (by omega) v ds.length css.flatten hs (g1.alloc _) ⟨W.heap.size, 0, none⟩ 1 1 [c1, c2] hx rfl
    (World.news_of_block (cs := #[c1, c2]) (World.alloc_heap_new _ _)) (by simp [h1, h2]) (by omega) hn hbytes (by simp; omega) (W.heap.size + 1) (by simp) ?_
  intro g cap w' r1 r2 r3 r4
  have hk : Keep (fun b => v.ownBlock ≠ some b) W w' := ((Keep.refl _ _).alloc _).grown r2 (fun k hk h => h hk)
  have hf : ∀ c d, RepD (fun b => A b ∨ v.ownBlock = some b) W d c → RepD (fun b => A b ∨ (Value.slice (some ⟨g, 0, none⟩) (ds.length + 1) cap).ownBlock = some b) w' d c := fun c d h => h.frame (fun b hb hlt => hk.block b hlt (fun h => hb (.inr h))) (fun b hb h => by
    rcases h with h | h
    · exact .inl h
    · have e1 : g = b := by simpa [Value.ownBlock] using h
      rcases r3 with r3 | r3
      · exact .inr (by rw [r3, e1])
      · omega)
  refine h _ w' ⟨css ++ [[c1, c2]], by simpa using r1, fun c hc => ?_, (g3.imp hf).append (.cons (hf _ _ hd) .nil)⟩ hk ⟨_, _, rfl⟩
  rcases List.mem_append.1 hc with h | h
  · exact g2 c h
  · simp at h; rw [h]; rfl
end
structure Build (A : Nat → Prop) (w W : World) (bo base e : Nat) (bt : TypeId) (h : Int) (v : Value) (ds : List D) : Prop where
  below : Below w.heap.size w W
  box : W.heap[bo]? = some (.cells #[.int .i64 h, v] bt (0, 0))
  own : OwnD (fun b => A b ∨ b = bo) W base e 2 v ds
  old : w.heap.size ≤ bo
  lt : bo < base
  base : base ≤ W.heap.size
section
variable {A : Nat → Prop} {w W W' : World} {bo base e : Nat} {bt : TypeId} {h : Int} {v : Value} {ds : List D}
theorem Build.ownlt (hb : Build A w W bo base e bt h v ds) : ∀ b, v.ownBlock = some b → base ≤ b ∧ b < W.heap.size := hb.own.lt
theorem Build.later (hb : Build A w W bo base e bt h v ds) (hB : Below W.heap.size W W') : Build A w W' bo base e bt h v ds :=
  ⟨more_below hb.below hB, (hB.block bo (Array.getElem?_eq_some_iff.1 hb.box).1).trans hb.box, hb.own.below hB, hb.old, hb.lt, Nat.le_trans hb.base hB.size⟩
theorem Build.step {v' : Value} {d : D} (hb : Build A w W bo base e bt h v ds) (hk : Keep (fun b => v.ownBlock ≠ some b) W W') (ho : OwnD (fun b => A b ∨ b = bo) W' base e 2 v' (ds ++ [d])) :
    Build A w (W'.setCell ⟨bo, 1, none⟩ v') bo base e bt h v' (ds ++ [d]) := by
  have hbo : v.ownBlock ≠ some bo := fun e => by have := hb.ownlt bo e; have := hb.lt; omega
  have hlt := hb.lt
  have hold := hb.old
  refine ⟨?_, box2_set1 (hk.obj hbo hb.box) v', ?_, hb.old, hb.lt, Nat.le_trans hb.base (by simpa [World.setCell] using hk.size)⟩
  · refine (hb.below.trans (hk.below (fun b hb' e => ?_) hb.below.size)).setCell (p := ⟨bo, 1, none⟩) hb.old v'
    have := hb.ownlt b e
    omega
  · refine ho.keep (S := fun b => b ≠ bo) ((Keep.refl _ _).setCell (p := ⟨bo, 1, none⟩) (by simp) v') (fun b _ hb' e => hb' (.inr e)) (fun b hb' e => ?_)
    have := ho.lt b hb'
    omega
theorem Build.grow (hb : Build A w W bo base e bt h v ds) (hk : Keep (fun b => v.ownBlock ≠ some b) W W') : Below base W W' :=
  hk.below (fun b hb' e => by have := hb.ownlt b e; omega) hb.base
theorem Build.terms {ts : List Tm} (hb : Build A w W bo base e bt h v (ts.map Tm.d)) (hA : ∀ b, A b → b < base) : Terms A W v ts := by
  have h1 := hb.lt
  refine (hb.own.terms (fun b h => ?_)).bar fun b _ h => .inl h
  rcases h with h | h
  · exact hA b h
  · omega
end
end Go.Proofs.Ythplndalbfcbbaa
set_option linter.unusedSimpArgs false
set_option linter.unusedVariables false
namespace Go.Proofs.Ythplndalbfcbbaa
open Go.RowKit
def Gives (A : Nat → Prop) (w : World) (t : Tm) (e : Ending) (w' : World) : Prop := ∃ s, e = .returned (.agg #[.int .i64 t.h, s]) ∧ Terms A w' s t.args ∧ Below w.heap.size w w'
mutual
def putT (bs : List Bd) : Tm → Tm
  | .node h l => if h < 0 then ofBs (-1 - h) bs else .node h (putL bs l)
def putL (bs : List Bd) : List Tm → List Tm
  | [] => []
  | t :: ts => putT bs t :: putL bs ts
end
theorem good_args {t : Tm} (h : t.good = true) : -256 ≤ t.h ∧ t.args.length ≤ 8 ∧ (∀ k (hk : k < t.args.length), t.args[k].good = true) := by
  rw [Tm.good_eq, Bool.and_eq_true] at h
  have h1 : ¬ okP t = false := by simp [h.1]
  rw [okP_iff] at h1
  refine ⟨by omega, by omega, ?_⟩
  have : ∀ l : List Tm, Tm.goods l = true → ∀ k (hk : k < l.length), l[k].good = true := by
    intro l
    induction l with
    | nil => simp
    | cons t ts ih =>
      intro hl k hk
      simp only [Tm.goods, Bool.and_eq_true] at hl
      cases k with
      | zero => exact hl.1
      | succ k => exact ih hl.2 k (by simpa using hk)
  exact this _ h.2
end Go.Proofs.Ythplndalbfcbbaa
