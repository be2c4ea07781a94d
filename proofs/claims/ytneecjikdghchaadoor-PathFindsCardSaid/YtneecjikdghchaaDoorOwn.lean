/- Rows that a call builds by append, told as data; binds. -/
import Derived.Test.YtneecjikdghchaaDoorApp
import Derived.Test.YtneecjikdghchaaDoorParts
set_option linter.unusedSimpArgs false
set_option linter.unusedVariables false
namespace Go.Proofs.YtneecjikdghchaaDoor
open Go.RowKit

theorem RepR.of {A : Nat → Prop} {w : World} {b k : Nat} : ∀ (css : List (List Value)) (ds : List D) (off : Nat), (∀ cs, cs ∈ css → cs.length = k) → (∀ j, j < css.flatten.length → w.cell? ⟨b, off + j, none⟩ = css.flatten[j]?) →
    All2 (fun cs d => RepD A w d cs) css ds → RepR A w b k off ds
  | _, _, off, _, _, .nil => by simp only [RepR]
  | cs :: css, d :: ds, off, hl, hc, .cons h hr => by
    have hk : cs.length = k := hl cs (by simp)
    simp only [RepR]
    refine ⟨⟨cs, hk, fun i hi => ?_, h⟩, RepR.of css ds (off + k) (fun c hc' => hl c (by simp [hc'])) (fun j hj => ?_) hr⟩
    · have := hc i (by simp; omega)
      rw [this]; simp [List.getElem?_append, hk, hi]
    · have := hc (k + j) (by rw [List.flatten_cons, List.length_append, hk]; omega)
      rw [show off + k + j = off + (k + j) by omega, this, List.flatten_cons, List.getElem?_append_right (by omega)]
      congr 1; omega

/-- A row of the call's own that holds the data; no part of an element is the row itself, or barred. -/
def OwnD (A : Nat → Prop) (w : World) (base e k : Nat) (v : Value) (ds : List D) : Prop :=
  ∃ css : List (List Value), w.ownsRow base e k v ds.length css.flatten ∧ (∀ cs, cs ∈ css → cs.length = k) ∧ All2 (fun cs d => RepD (fun b => A b ∨ v.ownBlock = some b) w d cs) css ds
theorem All2.imp {β γ : Type} {R R' : β → γ → Prop} (hr : ∀ x y, R x y → R' x y) {a : List β} {c : List γ} (h : All2 R a c) : All2 R' a c := by
  induction h with
  | nil => exact .nil
  | cons h _ ih => exact .cons (hr _ _ h) ih
theorem OwnD.nil (A : Nat → Prop) (w : World) (base e k : Nat) : OwnD A w base e k (.slice none 0 0) [] := ⟨[], World.ownsRow_nil _ _ _ _, by simp, .nil⟩
theorem OwnD.shape {A : Nat → Prop} {w : World} {base e k : Nat} {v : Value} {ds : List D} (h : OwnD A w base e k v ds) : ∃ ad c, v = .slice ad ds.length c := by
  obtain ⟨css, h1, _⟩ := h
  rcases h1.2 with ⟨h, h'⟩ | ⟨g, cap, cur, h, _⟩
  · exact ⟨none, 0, by rw [h, h']⟩
  · exact ⟨_, _, h⟩
theorem OwnD.lt {A : Nat → Prop} {w : World} {base e k : Nat} {v : Value} {ds : List D} (h : OwnD A w base e k v ds) : ∀ b, v.ownBlock = some b → base ≤ b ∧ b < w.heap.size := by
  obtain ⟨css, h1, _⟩ := h
  exact h1.lt
theorem OwnD.keep {A S : Nat → Prop} {w w' : World} {base e k : Nat} {v : Value} {ds : List D} (h : OwnD A w base e k v ds) (hk : Keep S w w') (hS : ∀ b, b < w.heap.size → ¬ A b → S b) (hv : ∀ b, v.ownBlock = some b → S b) : OwnD A w' base e k v ds := by
  obtain ⟨css, h1, h2, h3⟩ := h
  exact ⟨css, ownsRow_keep h1 hk hv, h2, h3.imp fun cs d hd => hd.frame (fun b hb hlt => hk.block b hlt (hS b hlt (fun h => hb (.inl h)))) (fun _ _ h => h)⟩
theorem OwnD.below {A : Nat → Prop} {w w' : World} {base e k : Nat} {v : Value} {ds : List D} (h : OwnD A w base e k v ds) (hb : Below w.heap.size w w') : OwnD A w' base e k v ds :=
  h.keep (S := fun _ => True) (.of_below hb) (fun _ _ _ => trivial) (fun _ _ => trivial)
/-- One more behind an append. -/
theorem OwnD.snoc {A : Nat → Prop} {W w' : World} {base e k : Nat} {v v' : Value} {ds : List D} {d : D} {cs : List Value} (h : OwnD A W base e k v ds) (hcs : cs.length = k) (hd : RepD (fun b => A b ∨ v.ownBlock = some b) W d cs)
    (r1 : ∀ xs, W.ownsRow base e k v ds.length xs → w'.ownsRow base e k v' (ds.length + 1) (xs ++ cs)) (r2 : Keep (fun b => v.ownBlock ≠ some b) W w') (r3 : ∀ b, v'.ownBlock = some b → v.ownBlock = some b ∨ W.heap.size < b) : OwnD A w' base e k v' (ds ++ [d]) := by
  obtain ⟨css, h1, h2, h3⟩ := h
  have hf : ∀ c d, RepD (fun b => A b ∨ v.ownBlock = some b) W d c → RepD (fun b => A b ∨ v'.ownBlock = some b) w' d c := fun c d h => h.frame (fun b hb hlt => r2.block b hlt (fun h => hb (.inr h))) (fun b hb h => by
    rcases h with h | h
    · exact .inl h
    · rcases r3 b h with h | h
      · exact .inr h
      · omega)
  refine ⟨css ++ [cs], by simpa using r1 _ h1, fun c hc => ?_, (h3.imp hf).append (.cons (hf _ _ hd) .nil)⟩
  rcases List.mem_append.1 hc with h | h
  · exact h2 c h
  · simp at h; rw [h]; exact hcs
/-- Built, it reads as a slice. -/
theorem OwnD.rep {A : Nat → Prop} {w : World} {base e k : Nat} {v : Value} {ds : List D} (h : OwnD A w base e k v ds) (hA : ∀ b, A b → b < base) : RepD A w (.row k ds) [v] := by
  obtain ⟨css, h1, h2, h3⟩ := h
  simp only [RepD]
  rcases h1.2 with ⟨h, h'⟩ | ⟨g, cap, cur, h, hg, hh, hn, hm, hs, ht⟩
  · exact ⟨none, 0, 0, by rw [h], h'.symm, by omega, by omega, by omega⟩
  · refine ⟨_, _, _, by rw [h], rfl, hn, Nat.le_trans hn (by simpa [maxLen] using hm), fun h0 => ⟨g, 0, rfl, (Array.getElem?_eq_some_iff.1 hh).1, fun ha => by have := hA g ha; omega, ?_⟩⟩
    refine RepR.of css ds 0 h2 (fun j hj => ?_) (h3.imp fun cs d hd => hd.bar fun b _ h => .inl h)
    have := h1.cells (g := g) (by rw [h]; rfl) j (css.flatten[j]) (by simp)
    rw [add_plain] at this
    rw [Nat.zero_add, this]; simp
theorem OwnD.terms {A : Nat → Prop} {w : World} {base e : Nat} {v : Value} {ts : List Tm} (h : OwnD A w base e 2 v (ts.map Tm.d)) (hA : ∀ b, A b → b < base) : Terms A w v ts := by
  rw [Terms, Tm.ds_eq]; exact h.rep hA

/-! ### Binds -/
structure Bd where
  v : Int
  t : Tm
def Bd.d (b : Bd) : D := .agg [.lit (.int .i64 b.v), b.t.d]
def Binds (A : Nat → Prop) (w : World) (s : Value) (bs : List Bd) : Prop := RepD A w (.row 3 (bs.map Bd.d)) [s]
theorem repBd {A : Nat → Prop} {w : World} {b : Bd} {cs : List Value} : RepD A w b.d cs ↔ ∃ s, cs = [.int .i64 b.v, .int .i64 b.t.h, s] ∧ Terms A w s b.t.args := by
  simp only [Bd.d, RepD, RepL]
  constructor
  · rintro ⟨c1, c2, rfl, rfl, c3, c4, rfl, h, rfl⟩
    obtain ⟨s, rfl, h9⟩ := repTm.1 h
    exact ⟨s, by simp, h9⟩
  · rintro ⟨s, rfl, h⟩
    exact ⟨[_], [_, _], rfl, rfl, [_, _], [], by simp, repTm.2 ⟨s, rfl, h⟩, rfl⟩
theorem Binds.shape {A : Nat → Prop} {w : World} {s : Value} {bs : List Bd} (h : Binds A w s bs) : ∃ a c, s = .slice a bs.length c ∧ bs.length ≤ c ∧ bs.length ≤ 9223372036854775807 := by
  simp only [Binds, RepD] at h
  obtain ⟨a, n, c, h1, h2, h3, h4, h5⟩ := h
  simp only [List.length_map] at h2
  subst h2
  simp only [List.cons.injEq, and_true] at h1
  exact ⟨a, c, h1, h3, h4⟩
theorem Binds.get {A : Nat → Prop} {w : World} {a : Option Addr} {n c : Nat} {bs : List Bd} (h : Binds A w (.slice a n c) bs) (i : Nat) (hi : i < bs.length) :
    ∃ b off a' c', a = some ⟨b, off, none⟩ ∧ b < w.heap.size ∧ ¬ A b ∧ w.cell? ⟨b, off + i * 3, none⟩ = some (.int .i64 bs[i].v) ∧ w.cell? ⟨b, off + i * 3 + 1, none⟩ = some (.int .i64 bs[i].t.h) ∧ w.cell? ⟨b, off + i * 3 + 2, none⟩ = some (.slice a' bs[i].t.args.length c') ∧ Terms A w (.slice a' bs[i].t.args.length c') bs[i].t.args := by
  simp only [Binds, RepD] at h
  obtain ⟨a, n, c, h1, h2, h3, h4, h5⟩ := h
  simp only [List.cons.injEq, and_true, Value.slice.injEq] at h1
  obtain ⟨rfl, rfl, rfl⟩ := h1
  simp only [List.length_map] at h2
  obtain ⟨b, off, ha, hs, hb, hr⟩ := h5 (by omega)
  obtain ⟨cs, e1, e2, e3⟩ := hr.at i (by simpa using hi)
  simp only [List.getElem_map] at e3
  obtain ⟨s', rfl, e4⟩ := repBd.1 e3
  obtain ⟨a', c', rfl, _⟩ := e4.shape
  exact ⟨b, off, a', c', ha, hs, hb, by simpa using e2 0 (by omega), by simpa using e2 1 (by omega), by simpa using e2 2 (by omega), e4⟩
theorem Binds.getW {A : Nat → Prop} {w w' : World} {a : Option Addr} {n c : Nat} {bs : List Bd} (h : Binds A w (.slice a n c) bs) (hb : Below w.heap.size w w') (i : Nat) (hi : i < bs.length) :
    ∃ b off a' c', a = some ⟨b, off, none⟩ ∧ w'.cell? ⟨b, off + i * 3, none⟩ = some (.int .i64 bs[i].v) ∧ w'.cell? ⟨b, off + i * 3 + 1, none⟩ = some (.int .i64 bs[i].t.h) ∧ w'.cell? ⟨b, off + i * 3 + 2, none⟩ = some (.slice a' bs[i].t.args.length c') ∧ IsTm A w' bs[i].t.h (.slice a' bs[i].t.args.length c') bs[i].t := by
  obtain ⟨b, off, a', c', h1, h2, h3, h4, h5, h6, h7⟩ := h.get i hi
  exact ⟨b, off, a', c', h1, (hb.cell (p := ⟨b, off + i * 3, none⟩) h2).trans h4, (hb.cell (p := ⟨b, off + i * 3 + 1, none⟩) h2).trans h5, (hb.cell (p := ⟨b, off + i * 3 + 2, none⟩) h2).trans h6, rfl, h7.below hb⟩
theorem Binds.below {A : Nat → Prop} {w w' : World} {s : Value} {bs : List Bd} (h : Binds A w s bs) (hb : Below w.heap.size w w') : Binds A w' s bs := RepD.below h hb
end Go.Proofs.YtneecjikdghchaaDoor
