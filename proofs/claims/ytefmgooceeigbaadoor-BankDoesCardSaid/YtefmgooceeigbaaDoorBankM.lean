/- bank.Bank in memory. -/
import Derived.StringKeys
import Derived.Test.YtefmgooceeigbaaDoorBankP
import Derived.Test.YtefmgooceeigbaaDoorKeyMap
import Derived.Test.YtefmgooceeigbaaDoorJoin
import Derived.Test.YtefmgooceeigbaaDoorTSame
set_option linter.unusedSimpArgs false
set_option linter.unusedVariables false
namespace Go.Proofs.YtefmgooceeigbaaDoor
open Go.RowKit

theorem OwnD.bar {A B : Nat → Prop} {w : World} {base e k : Nat} {v : Value} {ds : List D} (h : OwnD A w base e k v ds) (hB : ∀ b, b < w.heap.size → B b → A b) : OwnD B w base e k v ds := by
  obtain ⟨css, h1, h2, h3⟩ := h
  exact ⟨css, h1, h2, h3.imp fun cs d hd => RepD.bar hd fun b hlt hb => by
    rcases hb with hb | hb
    · exact .inl (hB b hlt hb)
    · exact .inr hb⟩
theorem OwnD.snoc1 {A : Nat → Prop} {W w' : World} {base e k : Nat} {v v' : Value} {ds : List D} {d : D} {cs : List Value} {css : List (List Value)} (h1 : W.ownsRow base e k v ds.length css.flatten) (h2 : ∀ cs, cs ∈ css → cs.length = k) (h3 : All2 (fun cs d => RepD (fun b => A b ∨ v.ownBlock = some b) W d cs) css ds) (hcs : cs.length = k) (hd : RepD (fun b => A b ∨ v.ownBlock = some b) W d cs)
    (r1 : w'.ownsRow base e k v' (ds.length + 1) (css.flatten ++ cs)) (r2 : Keep (fun b => v.ownBlock ≠ some b) W w') (r3 : ∀ b, v'.ownBlock = some b → v.ownBlock = some b ∨ W.heap.size < b) : OwnD A w' base e k v' (ds ++ [d]) := by
  have hf : ∀ c d, RepD (fun b => A b ∨ v.ownBlock = some b) W d c → RepD (fun b => A b ∨ v'.ownBlock = some b) w' d c := fun c d h => h.frame (fun b hb hlt => r2.block b hlt (fun h => hb (.inr h))) (fun b hb h => by
    rcases h with h | h
    · exact .inl h
    · rcases r3 b h with h | h
      · exact .inr h
      · omega)
  refine ⟨css ++ [cs], by simpa using r1, fun c hc => ?_, (h3.imp hf).append (.cons (hf _ _ hd) .nil)⟩
  rcases List.mem_append.1 hc with h | h
  · exact h2 c h
  · simp at h; rw [h]; exact hcs
/-- Kept in a later world, barred otherwise. -/
theorem OwnD.step {A B S : Nat → Prop} {w w' : World} {base e k : Nat} {v : Value} {ds : List D} (h : OwnD A w base e k v ds) (hk : Keep S w w') (hS : ∀ b, b < w.heap.size → ¬ A b → S b) (hv : ∀ b, v.ownBlock = some b → S b) (hB : ∀ b, b < w.heap.size → B b → A b) : OwnD B w' base e k v ds := by
  obtain ⟨css, h1, h2, h3⟩ := h
  exact ⟨css, ownsRow_keep h1 hk hv, h2, h3.imp fun cs d hd => hd.frame (fun b hb hlt => hk.block b hlt (hS b hlt (fun h => hb (.inl h)))) (fun b hlt hb => by
    rcases hb with hb | hb
    · exact .inl (hB b hlt hb)
    · exact .inr hb)⟩
theorem size_set (w : World) (a : Addr) (v : Value) : (w.setCell a v).heap.size = w.heap.size := by simp [World.setCell]

/-! ### Rows -/
def zs (ns : List Nat) : List Int := ns.map Int.ofNat
theorem zs_length (ns : List Nat) : (zs ns).length = ns.length := by simp [zs]
theorem zs_append (a b : List Nat) : zs (a ++ b) = zs a ++ zs b := by simp [zs]
def rwD (r : Rw) : D := .agg [.lit (.int .i64 r.1), .row 1 ((zs r.2).map intD)]
theorem repRw {A : Nat → Prop} {w : World} {r : Rw} {cs : List Value} : RepD A w (rwD r) cs ↔ ∃ s, cs = [.int .i64 r.1, s] ∧ Ints A w s (zs r.2) := by
  simp only [rwD, RepD, RepL, Ints]
  constructor
  · rintro ⟨c1, c2, rfl, rfl, c3, c4, rfl, ⟨a, n, c, rfl, h2⟩, rfl⟩
    exact ⟨.slice a n c, by simp, a, n, c, rfl, h2⟩
  · rintro ⟨s, rfl, a, n, c, h1, h2⟩
    exact ⟨_, _, rfl, rfl, [s], [], by simp, ⟨a, n, c, h1, h2⟩, rfl⟩
def keyV (r : Rw) : Value := .string ⟨(keyL r).toArray⟩
theorem keyV_inj {r q : Rw} (h : keyV r = keyV q) : r = q := by
  refine keyL_inj ?_
  simp only [keyV, Value.string.injEq, ByteArray.mk.injEq] at h
  have := congrArg Array.toList h
  simpa using this

/-- A step: what was written is of Z, or new. -/
def Moved (Z Z' : Nat → Prop) (w w' : World) : Prop := Keep (fun b => ¬ Z b) w w' ∧ ∀ b, Z' b → Z b ∨ w.heap.size ≤ b
section
variable {w w' : World} {Z Z' : Nat → Prop}
theorem Moved.of_below (h : Below w.heap.size w w') : Moved Z Z w w' := ⟨Keep.of_below h, fun b h => .inl h⟩
theorem Moved.refl (Z : Nat → Prop) (w : World) : Moved Z Z w w := ⟨Keep.refl _ _, fun b h => .inl h⟩
theorem Moved.trans {Z1 Z2 Z3 : Nat → Prop} {w1 w2 w3 : World} (h : Moved Z1 Z2 w1 w2) (k : Moved Z2 Z3 w2 w3) : Moved Z1 Z3 w1 w3 := by
  refine ⟨⟨k.1.os.trans h.1.os, k.1.tape.trans h.1.tape, k.1.output.trans h.1.output, Nat.le_trans h.1.size k.1.size, fun b hb hn => ?_⟩, fun b hb => ?_⟩
  · refine (k.1.block b (Nat.lt_of_lt_of_le hb h.1.size) fun h9 => ?_).trans (h.1.block b hb hn)
    rcases h.2 b h9 with h9 | h9
    · exact hn h9
    · omega
  · rcases k.2 b hb with h9 | h9
    · exact h.2 b h9
    · exact .inr (Nat.le_trans h.1.size h9)
theorem Moved.rep (h : Moved Z Z' w w') {d : D} {cs : List Value} (hd : RepD Z w d cs) : RepD Z' w' d cs :=
  hd.frame (fun b hb hlt => h.1.block b hlt hb) (fun b hlt hb => by
    rcases h.2 b hb with h9 | h9
    · exact h9
    · omega)
theorem Moved.terms (h : Moved Z Z' w w') {s : Value} {ts : List Tm} (hd : Terms Z w s ts) : Terms Z' w' s ts := h.rep hd
theorem Moved.under {base : Nat} (h : Moved Z Z' w w') (hlt : ∀ b, Z b → base ≤ b) (hb : base ≤ w.heap.size) : Below base w w' :=
  h.1.below (fun b hb' hz => by have := hlt b hz; omega) hb
theorem Moved.obj (h : Moved Z Z' w w') {b : Nat} {o : Obj} (hb : ¬ Z b) (ho : w.heap[b]? = some o) : w'.heap[b]? = some o ∧ ¬ Z' b := by
  refine ⟨h.1.obj hb ho, fun hz => ?_⟩
  rcases h.2 b hz with h9 | h9
  · exact hb h9
  · have := (Array.getElem?_eq_some_iff.1 ho).1; omega
end

/-- The blocks that a bank is written in. -/
def BZ (xb mb : Nat) (rv : Value) : Nat → Prop := fun b => b = xb ∨ b = mb ∨ rv.ownBlock = some b
structure BankAt (w : World) (A : Nat → Prop) (xb mb : Nat) (R : List Rw) (rv : Value) (f : Value → Option Value) (base : Nat) : Prop where
  x : w.heap[xb]? = some (.cells #[rv, .map (some mb)] 62 (0, 0))
  m : MapV Tryd.prog 9 w mb f
  r : OwnD (fun b => A b ∨ b = xb ∨ b = mb) w base 64 2 rv (R.map rwD)
  f1 : ∀ (i : Nat) (r : Rw), R[i]? = some r → f (keyV r) = some (.int .i64 (i : Int))
  f2 : ∀ k v, f k = some v → ∃ (i : Nat) (r : Rw), R[i]? = some r ∧ k = keyV r
  g : Good R
  fit : R.length ≤ 4096
  xb0 : base ≤ xb
  mb0 : base ≤ mb
  ne1 : rv.ownBlock ≠ some xb
  ne2 : rv.ownBlock ≠ some mb
  ne3 : xb ≠ mb
  na : ∀ b, BZ xb mb rv b → ¬ A b
  la : ∀ b, A b → b < w.heap.size
section
variable {w w' : World} {A A' : Nat → Prop} {xb mb : Nat} {R : List Rw} {rv : Value} {f : Value → Option Value} {base : Nat}
theorem BankAt.lt (h : BankAt w A xb mb R rv f base) : ∀ b, BZ xb mb rv b → base ≤ b ∧ b < w.heap.size := by
  rintro b (rfl | rfl | hb)
  · exact ⟨h.xb0, (Array.getElem?_eq_some_iff.1 h.x).1⟩
  · exact ⟨h.mb0, h.m.lt⟩
  · exact h.r.lt b hb
theorem BankAt.below (h : BankAt w A xb mb R rv f base) (hB : Below w.heap.size w w') : BankAt w' A xb mb R rv f base :=
  { h with
    x := (hB.block xb (Array.getElem?_eq_some_iff.1 h.x).1).trans h.x
    m := h.m.below hB
    r := h.r.below hB
    la := fun b hb => Nat.lt_of_lt_of_le (h.la b hb) hB.size }
/-- It lives on where another structure is written. -/
theorem BankAt.step (h : BankAt w A xb mb R rv f base) (hs : Moved A A' w w') (la : ∀ b, A' b → b < w'.heap.size) : BankAt w' A' xb mb R rv f base :=
  { h with
    x := hs.1.obj (h.na xb (.inl rfl)) h.x
    m := h.m.keep hs.1 (h.na mb (.inr (.inl rfl)))
    r := h.r.step hs.1 (fun b _ hb hz => hb (.inl hz)) (fun b hb => h.na b (.inr (.inr hb))) fun b hlt hb => by
      rcases hb with hb | hb
      · rcases hs.2 b hb with h9 | h9
        · exact .inl h9
        · omega
      · exact .inr hb
    na := fun b hb hz => by
      rcases hs.2 b hz with h9 | h9
      · exact h.na b hb h9
      · have := (h.lt b hb).2; omega
    la := la }
theorem BankAt.get (h : BankAt w A xb mb R rv f base) (r : Rw) : f (keyV r) = (idx R r).map fun i => .int .i64 (i : Int) := by
  cases hi : idx R r with
  | some i => exact h.f1 i r (idx_some hi)
  | none =>
    cases hf : f (keyV r) with
    | none => rfl
    | some v =>
      obtain ⟨i, q, h1, h2⟩ := h.f2 _ _ hf
      rw [← keyV_inj h2] at h1
      exact absurd h1 (idx_none hi i)
/-- Row i as it lies in memory. -/
theorem BankAt.row (h : BankAt w A xb mb R rv f base) : ∃ a c, rv = .slice a R.length c ∧ ∀ i (hi : i < R.length), ∃ b s, a = some ⟨b, 0, none⟩ ∧ w.cell? ⟨b, i * 2, none⟩ = some (.int .i64 (R[i]).1) ∧ w.cell? ⟨b, i * 2 + 1, none⟩ = some s ∧ Ints (fun b => A b ∨ BZ xb mb rv b) w s (zs (R[i]).2) := by
  obtain ⟨a, c, hv⟩ := h.r.shape
  rw [List.length_map] at hv
  refine ⟨a, c, hv, fun i hi => ?_⟩
  obtain ⟨css, h1, h2, h3⟩ := h.r
  rcases h1.2 with ⟨h0, h0'⟩ | ⟨g, cap, cur, q1, hg, hh, hn, hm, hs, ht⟩
  · rw [List.length_map] at h0'; omega
  · rw [q1] at hv
    simp only [Value.slice.injEq] at hv
    have hR : RepR (fun b => (A b ∨ b = xb ∨ b = mb) ∨ rv.ownBlock = some b) w g 2 0 (R.map rwD) := RepR.of css (R.map rwD) 0 h2 (fun j hj => by
      have := h1.cells (g := g) (by rw [q1]; rfl) j (css.flatten[j]) (by simp)
      rw [add_plain] at this
      rw [Nat.zero_add, this]; simp) h3
    obtain ⟨cs, e1, e2, e3⟩ := hR.at i (by simpa using hi)
    simp only [List.getElem_map] at e3
    obtain ⟨s, rfl, e4⟩ := repRw.1 e3
    refine ⟨g, s, hv.1.symm, by simpa using e2 0 (by omega), by simpa using e2 1 (by omega), e4.bar fun b _ hb => ?_⟩
    rcases hb with hb | hb | hb | hb
    · exact .inl (.inl hb)
    · exact .inl (.inr (.inl hb))
    · exact .inl (.inr (.inr hb))
    · exact .inr hb
end
end Go.Proofs.YtefmgooceeigbaaDoor
