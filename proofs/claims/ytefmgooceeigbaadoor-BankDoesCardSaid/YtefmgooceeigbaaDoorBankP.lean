/- bank, purely: a table of rows; what it finds and keeps; a row of terms beside it. -/
import Derived.Lib.ItoaNum
import Derived.Test.YtefmgooceeigbaaDoorRef1d
set_option linter.unusedSimpArgs false
set_option linter.unusedVariables false
namespace Go.Proofs.YtefmgooceeigbaaDoor
open Go.RowKit

/-! ### Keys -/
theorem dig_toNat {k : Nat} (h : k < 10) : (UInt8.ofNat (48 + k)).toNat = 48 + k := by
  rw [UInt8.toNat_ofNat']; omega
theorem dec_range (u : Nat) : ∀ c, c ∈ Lib.decDigits u → 48 ≤ c.toNat ∧ c.toNat ≤ 57 := by
  induction u using Nat.strongRecOn with
  | _ u ih =>
    intro c hc
    rw [Lib.decDigits] at hc
    split at hc
    · next h =>
      simp only [List.mem_singleton] at hc; subst hc; rw [dig_toNat h]; omega
    · rcases List.mem_append.1 hc with h | h
      · exact ih _ (by omega) c h
      · simp only [List.mem_singleton] at h; subst h; rw [dig_toNat (by omega)]; omega
def valD (l : List UInt8) : Nat := l.foldl (fun a c => 10 * a + (c.toNat - 48)) 0
theorem valD_dec (u : Nat) : valD (Lib.decDigits u) = u := by
  induction u using Nat.strongRecOn with
  | _ u ih =>
    rw [Lib.decDigits]
    split
    · next h => simp [valD]; have := dig_toNat h; simp at this; omega
    · have := ih (u / 10) (by omega)
      have hd := dig_toNat (k := u % 10) (by omega)
      simp only [valD, List.foldl_append, List.foldl_cons, List.foldl_nil] at this ⊢
      rw [this, hd]; omega
theorem dec_inj {u v : Nat} (h : Lib.decDigits u = Lib.decDigits v) : u = v := by rw [← valD_dec u, h, valD_dec]
theorem dec_ne (u : Nat) : Lib.decDigits u ≠ [] := by
  rw [Lib.decDigits]; split <;> simp
theorem itoa_inj {m n : Int} (h : Lib.itoa m = Lib.itoa n) : m = n := by
  have hx : ∀ (a b : Nat), 45 :: Lib.decDigits a ≠ Lib.decDigits b := fun a b h => by
    have := dec_range b 45 (by rw [← h]; simp)
    simp at this
  unfold Lib.itoa at h
  split at h <;> split at h
  · have := dec_inj (List.cons.inj h).2; omega
  · exact absurd h (hx _ _)
  · exact absurd h.symm (hx _ _)
  · have := dec_inj h; omega
theorem itoa_nc (n : Int) : ∀ c, c ∈ Lib.itoa n → c ≠ 44 := by
  intro c hc e
  subst e
  unfold Lib.itoa at hc
  split at hc
  · rcases List.mem_cons.1 hc with h | h
    · simp at h
    · have := dec_range _ _ h; simp at this
  · have := dec_range _ _ hc; simp at this
theorem comma_split : ∀ (a b x y : List UInt8), (∀ c, c ∈ a → c ≠ 44) → (∀ c, c ∈ b → c ≠ 44) → (x = [] ∨ x.head? = some 44) → (y = [] ∨ y.head? = some 44) → a ++ x = b ++ y → a = b ∧ x = y
  | [], [], x, y, _, _, _, _, h => ⟨rfl, h⟩
  | [], d :: b, x, y, _, hb, hx, _, h => by
    rcases hx with rfl | hx
    · simp at h
    · simp only [List.nil_append] at h
      subst h
      simp at hx
      exact absurd hx (hb d (by simp))
  | c :: a, [], x, y, ha, _, _, hy, h => by
    rcases hy with rfl | hy
    · simp at h
    · simp only [List.nil_append] at h
      subst h
      simp at hy
      exact absurd hy (ha c (by simp))
  | c :: a, d :: b, x, y, ha, hb, hx, hy, h => by
    simp only [List.cons_append, List.cons.injEq] at h
    obtain ⟨rfl, h⟩ := h
    obtain ⟨rfl, rfl⟩ := comma_split a b x y (fun c hc => ha c (by simp [hc])) (fun c hc => hb c (by simp [hc])) hx hy h
    exact ⟨rfl, rfl⟩
abbrev Rw := Int × List Nat
def tailK : List Nat → List UInt8
  | [] => []
  | n :: ns => 44 :: (Lib.itoa (n : Int) ++ tailK ns)
def keyL (r : Rw) : List UInt8 := Lib.itoa r.1 ++ tailK r.2
theorem tailK_head (ns : List Nat) : tailK ns = [] ∨ (tailK ns).head? = some 44 := by cases ns <;> simp [tailK]
theorem tailK_append (a b : List Nat) : tailK (a ++ b) = tailK a ++ tailK b := by
  induction a with
  | nil => rfl
  | cons n a ih => simp [tailK, ih]
theorem tailK_inj : ∀ (a b : List Nat), tailK a = tailK b → a = b
  | [], [], _ => rfl
  | [], _ :: _, h => by simp [tailK] at h
  | _ :: _, [], h => by simp [tailK] at h
  | n :: a, m :: b, h => by
    simp only [tailK, List.cons.injEq, true_and] at h
    obtain ⟨h1, h2⟩ := comma_split _ _ _ _ (itoa_nc _) (itoa_nc _) (tailK_head a) (tailK_head b) h
    have := itoa_inj h1
    rw [tailK_inj a b h2]
    congr 1; omega
theorem keyL_inj {r q : Rw} (h : keyL r = keyL q) : r = q := by
  obtain ⟨h1, h2⟩ := comma_split _ _ _ _ (itoa_nc _) (itoa_nc _) (tailK_head r.2) (tailK_head q.2) h
  exact Prod.ext (itoa_inj h1) (tailK_inj _ _ h2)

/-! ### Where a term stands -/
mutual
def IsAt (R : List Rw) : Tm → Nat → Prop
  | .node h l, i => ∃ ns, R[i]? = some (h, ns) ∧ AreAt R l ns
def AreAt (R : List Rw) : List Tm → List Nat → Prop
  | [], ns => ns = []
  | t :: ts, ns => ∃ n m, ns = n :: m ∧ IsAt R t n ∧ AreAt R ts m
end
/-- No row twice; a row's numbers are lesser ones. -/
structure Good (R : List Rw) : Prop where
  nd : ∀ (i j : Nat) (r : Rw), R[i]? = some r → R[j]? = some r → i = j
  ok : ∀ (i : Nat) (h : Int) (ns : List Nat), R[i]? = some (h, ns) → ∀ n, n ∈ ns → n < i
theorem Good.nil : Good [] := ⟨by simp, by simp⟩
mutual
theorem IsAt.mono {R R' : List Rw} (hm : ∀ (i : Nat) r, R[i]? = some r → R'[i]? = some r) : ∀ (t : Tm) (i : Nat), IsAt R t i → IsAt R' t i
  | .node h l, i, hi => by
    simp only [IsAt] at hi ⊢
    obtain ⟨ns, h1, h2⟩ := hi
    exact ⟨ns, hm _ _ h1, AreAt.mono hm l ns h2⟩
theorem AreAt.mono {R R' : List Rw} (hm : ∀ (i : Nat) r, R[i]? = some r → R'[i]? = some r) : ∀ (ts : List Tm) (ns : List Nat), AreAt R ts ns → AreAt R' ts ns
  | [], ns, h => by simpa only [AreAt] using h
  | t :: ts, ns, h => by
    simp only [AreAt] at h ⊢
    obtain ⟨n, m, rfl, h1, h2⟩ := h
    exact ⟨n, m, rfl, IsAt.mono hm t n h1, AreAt.mono hm ts m h2⟩
end
theorem IsAt.lt {R : List Rw} {t : Tm} {i : Nat} (h : IsAt R t i) : i < R.length := by
  cases t with
  | node hd l =>
    simp only [IsAt] at h
    obtain ⟨ns, h1, -⟩ := h
    exact (List.getElem?_eq_some_iff.1 h1).1
mutual
theorem IsAt.inj {R : List Rw} (hg : Good R) : ∀ (t : Tm) (i j : Nat), IsAt R t i → IsAt R t j → i = j
  | .node h l, i, j, hi, hj => by
    simp only [IsAt] at hi hj
    obtain ⟨ns, h1, h2⟩ := hi
    obtain ⟨ms, h3, h4⟩ := hj
    rw [AreAt.inj hg l ns ms h2 h4] at h1
    exact hg.nd _ _ _ h1 h3
theorem AreAt.inj {R : List Rw} (hg : Good R) : ∀ (ts : List Tm) (ns ms : List Nat), AreAt R ts ns → AreAt R ts ms → ns = ms
  | [], ns, ms, h, h' => by
    simp only [AreAt] at h h'
    rw [h, h']
  | t :: ts, ns, ms, h, h' => by
    simp only [AreAt] at h h'
    obtain ⟨n, a, rfl, h1, h2⟩ := h
    obtain ⟨m, b, rfl, h3, h4⟩ := h'
    rw [IsAt.inj hg t n m h1 h3, AreAt.inj hg ts a b h2 h4]
end
mutual
theorem IsAt.one {R : List Rw} : ∀ (t u : Tm) (i : Nat), IsAt R t i → IsAt R u i → t = u
  | .node h l, .node h' l', i, hi, hj => by
    simp only [IsAt] at hi hj
    obtain ⟨ns, h1, h2⟩ := hi
    obtain ⟨ms, h3, h4⟩ := hj
    rw [h1] at h3
    simp only [Option.some.injEq, Prod.mk.injEq] at h3
    obtain ⟨rfl, rfl⟩ := h3
    rw [AreAt.one l l' ns h2 h4]
theorem AreAt.one {R : List Rw} : ∀ (ts us : List Tm) (ns : List Nat), AreAt R ts ns → AreAt R us ns → ts = us
  | [], [], _, _, _ => rfl
  | [], u :: us, ns, h, h' => by
    simp only [AreAt] at h h'
    obtain ⟨n, m, rfl, _⟩ := h'
    cases h
  | t :: ts, [], ns, h, h' => by
    simp only [AreAt] at h h'
    obtain ⟨n, m, rfl, _⟩ := h
    cases h'
  | t :: ts, u :: us, ns, h, h' => by
    simp only [AreAt] at h h'
    obtain ⟨n, a, rfl, h1, h2⟩ := h
    obtain ⟨m, b, e, h3, h4⟩ := h'
    cases e
    rw [IsAt.one t u n h1 h3, AreAt.one ts us a h2 h4]
end
theorem AreAt.length {R : List Rw} : ∀ (ts : List Tm) (ns : List Nat), AreAt R ts ns → ts.length = ns.length
  | [], ns, h => by simp only [AreAt] at h; simp [h]
  | t :: ts, ns, h => by
    simp only [AreAt] at h
    obtain ⟨n, m, rfl, _, h2⟩ := h
    simp [AreAt.length ts m h2]
theorem AreAt.get {R : List Rw} : ∀ (ts : List Tm) (ns : List Nat), AreAt R ts ns → ∀ (k : Nat) (h : k < ts.length) (h' : k < ns.length), IsAt R ts[k] ns[k]
  | t :: ts, ns, h, k, hk, hk' => by
    simp only [AreAt] at h
    obtain ⟨n, m, rfl, h1, h2⟩ := h
    cases k with
    | zero => exact h1
    | succ k => exact AreAt.get ts m h2 k (by simpa using hk) (by simpa using hk')
theorem AreAt.mk {R : List Rw} (f : ∀ n, ∃ t, n < R.length → IsAt R t n) : ∀ (ns : List Nat), (∀ n, n ∈ ns → n < R.length) → ∃ ts, AreAt R ts ns
  | [], _ => ⟨[], by simp only [AreAt]⟩
  | n :: ns, h => by
    obtain ⟨t, ht⟩ := f n
    obtain ⟨ts, h2⟩ := AreAt.mk f ns fun m hm => h m (by simp [hm])
    exact ⟨t :: ts, by simp only [AreAt]; exact ⟨n, ns, rfl, ht (h n (by simp)), h2⟩⟩
theorem AreAt.mk' {R : List Rw} : ∀ (ns : List Nat), (∀ n, n ∈ ns → ∃ t, IsAt R t n) → ∃ ts, AreAt R ts ns
  | [], _ => ⟨[], by simp only [AreAt]⟩
  | n :: ns, h => by
    obtain ⟨t, ht⟩ := h n (by simp)
    obtain ⟨ts, h2⟩ := AreAt.mk' ns fun m hm => h m (by simp [hm])
    exact ⟨t :: ts, by simp only [AreAt]; exact ⟨n, ns, rfl, ht, h2⟩⟩
theorem IsAt.ex {R : List Rw} (hg : Good R) : ∀ (i : Nat), i < R.length → ∃ t, IsAt R t i := by
  intro i
  induction i using Nat.strongRecOn with
  | _ i ih =>
    intro hi
    obtain ⟨ts, hts⟩ := AreAt.mk' (R := R) (R[i]).2 fun n hn => by
      have := hg.ok i (R[i]).1 (R[i]).2 (by rw [List.getElem?_eq_getElem hi]) n hn
      exact ih n this (by omega)
    exact ⟨.node (R[i]).1 ts, by simp only [IsAt]; exact ⟨(R[i]).2, by rw [List.getElem?_eq_getElem hi], hts⟩⟩

/-! ### Finding and keeping -/
def idx (R : List Rw) (r : Rw) : Option Nat := R.findIdx? (· == r)
theorem idx_some {R : List Rw} {r : Rw} {i : Nat} (h : idx R r = some i) : R[i]? = some r := by
  simp only [idx, List.findIdx?_eq_some_iff_getElem] at h
  obtain ⟨h1, h2, _⟩ := h
  rw [List.getElem?_eq_getElem h1]
  simpa using h2
theorem idx_none {R : List Rw} {r : Rw} (h : idx R r = none) (i : Nat) : R[i]? ≠ some r := by
  intro hi
  simp only [idx, List.findIdx?_eq_none_iff] at h
  have := h r (List.mem_of_getElem? hi)
  simp at this
theorem idx_iff {R : List Rw} (hg : Good R) {r : Rw} {i : Nat} : idx R r = some i ↔ R[i]? = some r := by
  refine ⟨idx_some, fun h => ?_⟩
  cases hx : idx R r with
  | none => exact absurd h (idx_none hx i)
  | some j => rw [hg.nd _ _ _ (idx_some hx) h]
mutual
def findT (R : List Rw) : Tm → Option Nat
  | .node h l => match findL R l with
    | none => none
    | some ns => idx R (h, ns)
def findL (R : List Rw) : List Tm → Option (List Nat)
  | [] => some []
  | t :: ts => match findT R t with
    | none => none
    | some n => match findL R ts with
      | none => none
      | some ns => some (n :: ns)
end
mutual
theorem findT_iff {R : List Rw} (hg : Good R) : ∀ (t : Tm) (i : Nat), findT R t = some i ↔ IsAt R t i
  | .node h l, i => by
    simp only [findT, IsAt]
    cases hl : findL R l with
    | none =>
      simp only [reduceCtorEq, false_iff, not_exists, not_and]
      intro ns _ h2
      rw [(findL_iff hg l ns).2 h2] at hl
      cases hl
    | some ns =>
      have hns := (findL_iff hg l ns).1 hl
      simp only [idx_iff hg]
      exact ⟨fun h => ⟨ns, h, hns⟩, fun ⟨ms, h1, h2⟩ => by rw [AreAt.inj hg l _ _ hns h2]; exact h1⟩
theorem findL_iff {R : List Rw} (hg : Good R) : ∀ (ts : List Tm) (ns : List Nat), findL R ts = some ns ↔ AreAt R ts ns
  | [], ns => by simp only [findL, AreAt, Option.some.injEq]; exact eq_comm
  | t :: ts, ns => by
    simp only [findL, AreAt]
    constructor
    · intro h
      split at h
      · cases h
      · next n hn =>
        split at h
        · cases h
        · next ms hms =>
          cases h
          exact ⟨n, ms, rfl, (findT_iff hg t n).1 hn, (findL_iff hg ts ms).1 hms⟩
    · rintro ⟨n, m, rfl, h1, h2⟩
      rw [(findT_iff hg t n).2 h1, (findL_iff hg ts m).2 h2]
end
mutual
def putT (R : List Rw) : Tm → List Rw × Option Nat
  | .node h l => match putL R l with
    | (R1, none) => (R1, none)
    | (R1, some ns) => match idx R1 (h, ns) with
      | some i => (R1, some i)
      | none => if 4096 ≤ R1.length then (R1, none) else (R1 ++ [(h, ns)], some R1.length)
def putL (R : List Rw) : List Tm → List Rw × Option (List Nat)
  | [] => (R, some [])
  | t :: ts => match putT R t with
    | (R1, none) => (R1, none)
    | (R1, some n) => match putL R1 ts with
      | (R2, none) => (R2, none)
      | (R2, some ns) => (R2, some (n :: ns))
end
/-- What keeping brings about. -/
structure Kept (R R' : List Rw) (m : Nat) : Prop where
  good : Good R'
  pre : ∀ (i : Nat) r, R[i]? = some r → R'[i]? = some r
  len : R.length ≤ R'.length
  fit : R'.length ≤ max R.length 4096
  few : R'.length ≤ R.length + m
  new : ∀ (i : Nat), R.length ≤ i → i < R'.length → ∃ u, IsAt R' u i ∧ u.size ≤ m
theorem Kept.refl {R : List Rw} (hg : Good R) (m : Nat) : Kept R R m := ⟨hg, fun _ _ h => h, Nat.le_refl _, Nat.le_max_left _ _, by omega, fun i h h' => by omega⟩
theorem Kept.trans {R S T : List Rw} {m n k : Nat} (h : Kept R S m) (h' : Kept S T n) (hk : m + n ≤ k) : Kept R T k := by
  refine ⟨h'.good, fun i r hi => h'.pre i r (h.pre i r hi), Nat.le_trans h.len h'.len, ?_, ?_, fun i hi hi' => ?_⟩
  · have := h.fit; have := h'.fit; omega
  · have := h.few; have := h'.few; omega
  · by_cases hs : i < S.length
    · obtain ⟨u, h1, h2⟩ := h.new i hi hs
      exact ⟨u, h1.mono h'.pre _ _, by omega⟩
    · obtain ⟨u, h1, h2⟩ := h'.new i (by omega) hi'
      exact ⟨u, h1, by omega⟩
theorem Good.snoc {R : List Rw} {h : Int} {ns : List Nat} (hg : Good R) (hn : idx R (h, ns) = none) (hl : ∀ n, n ∈ ns → n < R.length) : Good (R ++ [(h, ns)]) := by
  refine ⟨fun i j r hi hj => ?_, fun i k ms hi n hm => ?_⟩
  · rw [List.getElem?_append] at hi hj
    split at hi <;> split at hj
    · exact hg.nd i j r hi hj
    · have : r = (h, ns) := by
        rw [List.getElem?_singleton] at hj
        split at hj
        · exact (Option.some.inj hj).symm
        · cases hj
      subst this
      exact absurd hi (idx_none hn i)
    · have : r = (h, ns) := by
        rw [List.getElem?_singleton] at hi
        split at hi
        · exact (Option.some.inj hi).symm
        · cases hi
      subst this
      exact absurd hj (idx_none hn j)
    · rw [List.getElem?_singleton] at hi hj
      split at hi
      · split at hj
        · omega
        · cases hj
      · cases hi
  · rw [List.getElem?_append] at hi
    split at hi
    · exact hg.ok i k ms hi n hm
    · rw [List.getElem?_singleton] at hi
      split at hi
      · have e := Option.some.inj hi
        simp only [Prod.mk.injEq] at e
        obtain ⟨-, rfl⟩ := e
        have := hl n hm
        omega
      · cases hi
theorem AreAt.ltAll {R : List Rw} : ∀ (ts : List Tm) (ns : List Nat), AreAt R ts ns → ∀ n, n ∈ ns → n < R.length
  | [], ns, h, n, hn => by simp only [AreAt] at h; subst h; cases hn
  | t :: ts, ns, h, n, hn => by
    simp only [AreAt] at h
    obtain ⟨m, ms, rfl, h1, h2⟩ := h
    rcases List.mem_cons.1 hn with rfl | hn
    · exact h1.lt
    · exact AreAt.ltAll ts ms h2 n hn
mutual
theorem putT_kept : ∀ (t : Tm) (R : List Rw), Good R → Kept R (putT R t).1 t.size ∧ (∀ i, (putT R t).2 = some i → IsAt (putT R t).1 t i) ∧ ((putT R t).2 = none → 4096 ≤ (putT R t).1.length)
  | .node h l, R, hg => by
    obtain ⟨k1, k2, k3⟩ := putL_kept l R hg
    simp only [putT, Tm.size]
    rcases hp : putL R l with ⟨R1, o⟩
    rw [hp] at k1 k2 k3
    simp only at k1 k2 k3
    cases o with
    | none =>
      simp only
      exact ⟨k1.trans (Kept.refl k1.good 1) (by omega), by simp, fun _ => k3 rfl⟩
    | some ns =>
      have k4 := k2 ns rfl
      simp only
      cases hi : idx R1 (h, ns) with
      | some i =>
        simp only
        refine ⟨k1.trans (Kept.refl k1.good 1) (by omega), fun j hj => ?_, by simp⟩
        cases hj
        simp only [IsAt]
        exact ⟨ns, idx_some hi, k4⟩
      | none =>
        simp only
        split
        · next hm => exact ⟨k1.trans (Kept.refl k1.good 1) (by omega), by simp, fun _ => hm⟩
        · next hm =>
          have hgs := k1.good.snoc hi (AreAt.ltAll l ns k4)
          have hpre : ∀ (i : Nat) r, R1[i]? = some r → (R1 ++ [(h, ns)])[i]? = some r := fun i r hr => by
            rw [List.getElem?_append_left (List.getElem?_eq_some_iff.1 hr).1]; exact hr
          have hat : IsAt (R1 ++ [(h, ns)]) (.node h l) R1.length := by
            simp only [IsAt]
            exact ⟨ns, by simp, k4.mono hpre _ _⟩
          refine ⟨⟨hgs, fun i r hr => hpre i r (k1.pre i r hr), ?_, ?_, ?_, fun i hi hi' => ?_⟩, fun j hj => ?_, by simp⟩
          · have := k1.len; simp; omega
          · have := k1.fit; simp; omega
          · have := k1.few; simp; omega
          · by_cases h9 : i < R1.length
            · obtain ⟨u, h1, h2⟩ := k1.new i hi h9
              exact ⟨u, h1.mono hpre _ _, by omega⟩
            · have : i = R1.length := by simp at hi'; omega
              subst this
              exact ⟨_, hat, by simp [Tm.size]⟩
          · cases hj; exact hat
theorem putL_kept : ∀ (ts : List Tm) (R : List Rw), Good R → Kept R (putL R ts).1 (Tm.sizes ts) ∧ (∀ ns, (putL R ts).2 = some ns → AreAt (putL R ts).1 ts ns) ∧ ((putL R ts).2 = none → 4096 ≤ (putL R ts).1.length)
  | [], R, hg => by
    simp only [putL, Tm.sizes]
    exact ⟨Kept.refl hg 0, by simp [AreAt], by simp⟩
  | t :: ts, R, hg => by
    obtain ⟨k1, k2, k3⟩ := putT_kept t R hg
    simp only [putL, Tm.sizes]
    rcases hp : putT R t with ⟨R1, o⟩
    rw [hp] at k1 k2 k3
    simp only at k1 k2 k3
    cases o with
    | none =>
      simp only
      exact ⟨k1.trans (Kept.refl k1.good _) (Nat.le_refl _), by simp, fun _ => k3 rfl⟩
    | some n =>
      obtain ⟨j1, j2, j3⟩ := putL_kept ts R1 k1.good
      simp only
      rcases hq : putL R1 ts with ⟨R2, o2⟩
      rw [hq] at j1 j2 j3
      simp only at j1 j2 j3
      cases o2 with
      | none =>
        simp only
        exact ⟨k1.trans j1 (Nat.le_refl _), by simp, fun _ => j3 rfl⟩
      | some ns =>
        simp only
        refine ⟨k1.trans j1 (Nat.le_refl _), fun ms hms => ?_, by simp⟩
        cases hms
        simp only [AreAt]
        exact ⟨n, ns, rfl, (k2 n rfl).mono j1.pre _ _, j2 ns rfl⟩
end
mutual
/-- What is there is found by keeping; nothing is kept more. -/
theorem putT_there : ∀ (t : Tm) (R : List Rw) (i : Nat), Good R → IsAt R t i → putT R t = (R, some i)
  | .node h l, R, i, hg, hi => by
    simp only [IsAt] at hi
    obtain ⟨ns, h1, h2⟩ := hi
    simp only [putT, putL_there l R ns hg h2, (idx_iff hg).2 h1]
theorem putL_there : ∀ (ts : List Tm) (R : List Rw) (ns : List Nat), Good R → AreAt R ts ns → putL R ts = (R, some ns)
  | [], R, ns, hg, h => by simp only [AreAt] at h; simp [putL, h]
  | t :: ts, R, ns, hg, h => by
    simp only [AreAt] at h
    obtain ⟨n, m, rfl, h1, h2⟩ := h
    simp only [putL, putT_there t R n hg h1, putL_there ts R m hg h2]
end

theorem putL_snoc : ∀ (a : List Tm) (R : List Rw) (t : Tm), putL R (a ++ [t]) = match putL R a with
    | (R1, none) => (R1, none)
    | (R1, some ns) => match putT R1 t with
      | (R2, none) => (R2, none)
      | (R2, some n) => (R2, some (ns ++ [n]))
  | [], R, t => by
    simp only [List.nil_append, putL]
  | u :: a, R, t => by
    simp only [List.cons_append, putL]
    rcases putT R u with ⟨R1, _ | n⟩
    · rfl
    · simp only [putL_snoc a R1 t]
      rcases putL R1 a with ⟨R2, _ | ns⟩
      · rfl
      · simp only
        rcases putT R2 t with ⟨R3, _ | m⟩ <;> rfl
theorem putL_stop : ∀ (a b : List Tm) (R R1 : List Rw), putL R a = (R1, none) → putL R (a ++ b) = (R1, none)
  | [], b, R, R1, h => by simp [putL] at h
  | u :: a, b, R, R1, h => by
    simp only [List.cons_append, putL] at h ⊢
    rcases hp : putT R u with ⟨R2, _ | n⟩
    · rw [hp] at h; exact h
    · rw [hp] at h
      simp only at h ⊢
      rcases hq : putL R2 a with ⟨R3, _ | ns⟩
      · rw [hq] at h
        simp only [Prod.mk.injEq, and_true] at h
        rw [putL_stop a b R2 R3 hq, h]
      · rw [hq] at h; simp at h
theorem findL_snoc : ∀ (a : List Tm) (R : List Rw) (t : Tm), findL R (a ++ [t]) = match findL R a with
    | none => none
    | some ns => match findT R t with
      | none => none
      | some n => some (ns ++ [n])
  | [], R, t => by
    simp only [List.nil_append, findL]
  | u :: a, R, t => by
    simp only [List.cons_append, findL, findL_snoc a R t]
    rcases findT R u with _ | n
    · cases findL R a <;> rfl
    · rcases findL R a with _ | ns
      · rfl
      · simp only
        rcases findT R t with _ | m <;> rfl
theorem findL_stop : ∀ (a b : List Tm) (R : List Rw), findL R a = none → findL R (a ++ b) = none
  | [], b, R, h => by simp [findL] at h
  | u :: a, b, R, h => by
    simp only [List.cons_append, findL] at h ⊢
    rcases hp : findT R u with _ | n
    · rfl
    · rw [hp] at h
      simp only at h ⊢
      rcases hq : findL R a with _ | ns
      · rw [findL_stop a b R hq]
      · rw [hq] at h; simp at h

/-! ### A row of terms -/
def rfind (L : List Tm) (t : Tm) : Option Nat := L.findIdx? fun u => sameB u t
theorem rfind_some {L : List Tm} {t : Tm} {i : Nat} (h : rfind L t = some i) : L[i]? = some t := by
  simp only [rfind, List.findIdx?_eq_some_iff_getElem] at h
  obtain ⟨h1, h2, _⟩ := h
  rw [List.getElem?_eq_getElem h1, sameB_iff.1 h2]
theorem rfind_none {L : List Tm} {t : Tm} (h : rfind L t = none) (i : Nat) : L[i]? ≠ some t := by
  intro hi
  simp only [rfind, List.findIdx?_eq_none_iff] at h
  have := h t (List.mem_of_getElem? hi)
  rw [sameB_self] at this
  cases this
mutual
def rputT (L : List Tm) : Tm → List Tm × Option Nat
  | .node h l => match rfind L (.node h l) with
    | some i => (L, some i)
    | none => match rputL L l with
      | (L1, false) => (L1, none)
      | (L1, true) => if 4096 ≤ L1.length then (L1, none) else (L1 ++ [.node h l], some L1.length)
def rputL (L : List Tm) : List Tm → List Tm × Bool
  | [] => (L, true)
  | t :: ts => match rputT L t with
    | (L1, none) => (L1, false)
    | (L1, some _) => rputL L1 ts
end
/-- The row beside the table. -/
structure Twin (R : List Rw) (L : List Tm) : Prop where
  len : L.length = R.length
  each : ∀ (i : Nat) (t : Tm), L[i]? = some t → IsAt R t i
theorem Twin.nil : Twin [] [] := ⟨rfl, by simp⟩
theorem Twin.at {R : List Rw} {L : List Tm} (h : Twin R L) {t : Tm} {i : Nat} (hi : IsAt R t i) : L[i]? = some t := by
  have hl : i < L.length := by rw [h.len]; exact hi.lt
  rw [List.getElem?_eq_getElem hl]
  rw [(h.each i L[i] (List.getElem?_eq_getElem hl)).one _ _ _ hi]
theorem Twin.find {R : List Rw} {L : List Tm} (h : Twin R L) (hg : Good R) (t : Tm) : rfind L t = findT R t := by
  cases hf : findT R t with
  | none =>
    cases hr : rfind L t with
    | none => rfl
    | some i =>
      have := (findT_iff hg t i).2 (h.each i t (rfind_some hr))
      rw [hf] at this; cases this
  | some i =>
    have hi := (findT_iff hg t i).1 hf
    cases hr : rfind L t with
    | none => exact absurd (h.at hi) (rfind_none hr i)
    | some j => rw [IsAt.inj hg t i j hi (h.each j t (rfind_some hr))]
mutual
theorem put_same : ∀ (t : Tm) (R : List Rw) (L : List Tm), Good R → Twin R L → Twin (putT R t).1 (rputT L t).1 ∧ (putT R t).2 = (rputT L t).2
  | .node h l, R, L, hg, ht => by
    have hfi := ht.find hg (.node h l)
    cases hr : rfind L (.node h l) with
    | some i =>
      rw [hr] at hfi
      have hat := (findT_iff hg _ _).1 hfi.symm
      rw [putT_there _ _ _ hg hat]
      simp only [rputT, hr]
      exact ⟨ht, trivial⟩
    | none =>
      rw [hr] at hfi
      obtain ⟨s1, s2⟩ := puts_same l R L hg ht
      obtain ⟨k1, k2, -⟩ := putL_kept l R hg
      simp only [putT, rputT, hr]
      rcases hp : putL R l with ⟨R1, o⟩
      rcases hq : rputL L l with ⟨L1, b⟩
      rw [hp] at s1 s2 k1 k2
      rw [hq] at s1 s2
      simp only at s1 s2 k1 k2
      cases o with
      | none =>
        cases b
        · exact ⟨s1, rfl⟩
        · cases s2
      | some ns =>
        cases b
        · cases s2
        · have k4 := k2 ns rfl
          have hno : idx R1 (h, ns) = none := by
            cases hi : idx R1 (h, ns) with
            | none => rfl
            | some i =>
              exfalso
              have hat : IsAt R1 (.node h l) i := by simp only [IsAt]; exact ⟨ns, idx_some hi, k4⟩
              by_cases hlt : i < R.length
              · obtain ⟨u, hu⟩ := IsAt.ex hg i hlt
                have := (hu.mono k1.pre _ _).one _ _ _ hat
                subst this
                have := (findT_iff hg _ _).2 hu
                rw [← hfi] at this; cases this
              · obtain ⟨u, h1, h2⟩ := k1.new i (by omega) hat.lt
                have := h1.one _ _ _ hat
                subst this
                simp [Tm.size] at h2
                omega
          simp only [hno, s1.len]
          split
          · exact ⟨s1, rfl⟩
          · refine ⟨⟨by simp [s1.len], fun i t hi => ?_⟩, by simp⟩
            have hpre : ∀ (i : Nat) r, R1[i]? = some r → (R1 ++ [(h, ns)])[i]? = some r := fun i r hr => by
              rw [List.getElem?_append_left (List.getElem?_eq_some_iff.1 hr).1]; exact hr
            rw [List.getElem?_append] at hi
            split at hi
            · exact (s1.each i t hi).mono hpre _ _
            · rw [List.getElem?_singleton] at hi
              split at hi
              · cases hi
                have : i = R1.length := by have := s1.len; omega
                subst this
                simp only [IsAt]
                exact ⟨ns, by simp, k4.mono hpre _ _⟩
              · cases hi
theorem puts_same : ∀ (ts : List Tm) (R : List Rw) (L : List Tm), Good R → Twin R L → Twin (putL R ts).1 (rputL L ts).1 ∧ (putL R ts).2.isSome = (rputL L ts).2
  | [], R, L, hg, ht => by simp only [putL, rputL]; exact ⟨ht, rfl⟩
  | t :: ts, R, L, hg, ht => by
    obtain ⟨s1, s2⟩ := put_same t R L hg ht
    have hg1 := (putT_kept t R hg).1.good
    simp only [putL, rputL]
    rcases hp : putT R t with ⟨R1, o⟩
    rcases hq : rputT L t with ⟨L1, o'⟩
    rw [hp] at s1 s2 hg1
    rw [hq] at s1 s2
    simp only at s1 s2 hg1
    subst s2
    cases o with
    | none => exact ⟨s1, rfl⟩
    | some n =>
      obtain ⟨j1, j2⟩ := puts_same ts R1 L1 hg1 s1
      simp only
      rcases hq2 : putL R1 ts with ⟨R2, o2⟩
      rw [hq2] at j1 j2
      simp only at j1 j2
      cases o2 with
      | none => exact ⟨j1, j2⟩
      | some ns => exact ⟨j1, j2⟩
end
end Go.Proofs.YtefmgooceeigbaaDoor
