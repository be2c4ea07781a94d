/- What the proof of the law rests on: contracts of the functions, plain laws, and words. -/
import Derived.Test.YthplndalbfcbbaaKMatchUnifiesG10
set_option linter.unusedSimpArgs false
set_option linter.unusedVariables false
namespace Go.Proofs.Ythplndalbfcbbaa
open Go.RowKit
theorem filter_lt {α : Type} {p q : α → Bool} (hpq : ∀ x, q x = true → p x = true) {v : α} (hp : p v = true) (hq : q v = false) : ∀ l : List α, v ∈ l → (l.filter q).length < (l.filter p).length
  | [], h => by simp at h
  | x :: l, h => by
    have hle : (l.filter q).length ≤ (l.filter p).length := by
      clear h
      induction l with
      | nil => simp
      | cons y l ih =>
        simp only [List.filter_cons]
        cases hqy : q y
        · cases hpy : p y <;> simp <;> omega
        · rw [hpq y hqy]; simpa using ih
    simp only [List.filter_cons]
    rcases List.mem_cons.1 h with rfl | h
    · rw [hp, hq]; simp; omega
    · have ih := filter_lt hpq hp hq l h
      cases hqx : q x
      · cases hpx : p x <;> simp <;> omega
      · rw [hpq x hqx]; simpa using ih
def unb (f : Env) : Nat := ((upto 256).filter fun v => (f v).isNone).length
theorem unb_upd {f : Env} {v : Int} {y : Tm} (h0 : 0 ≤ v) (h1 : v ≤ 255) (hf : f v = none) : unb (upd f v y) < unb f :=
  filter_lt (p := fun v => (f v).isNone) (q := fun x => (upd f v y x).isNone) (fun x hx => by
    by_cases e : x = v
    · subst e; simp [upd] at hx
    · simpa [upd, e] using hx) (v := v) (by simp [hf]) (by simp [upd]) _ (mem_upto.2 ⟨h0, by omega⟩)
def sumL (S : Sub) (L : Pairs) : Nat := (L.map fun p => (app S p.1).size).sum
theorem sumL_cons (S : Sub) (p : Tm × Tm) (L : Pairs) : sumL S (p :: L) = (app S p.1).size + sumL S L := by simp [sumL]
theorem sumL_append (S : Sub) (L M : Pairs) : sumL S (L ++ M) = sumL S L + sumL S M := by simp [sumL]
theorem sumL_le {S : Sub} {b : Nat} : ∀ L : Pairs, (∀ p, p ∈ L → (app S p.1).size ≤ b) → sumL S L ≤ L.length * b
  | [], _ => by simp [sumL]
  | p :: L, h => by
    have h1 := h p (by simp)
    have h2 := sumL_le L fun q hq => h q (by simp [hq])
    rw [sumL_cons, List.length_cons, Nat.succ_mul]; omega
theorem sumL_zip (S : Sub) : ∀ {a b : List Tm}, a.length = b.length → sumL S (a.zip b) = Tm.sizes (appL S a)
  | [], [], _ => by simp [sumL, appL, Tm.sizes]
  | [], _ :: _, h => by simp at h
  | _ :: _, [], h => by simp at h
  | x :: a, y :: b, h => by
    rw [List.zip_cons_cons, sumL_cons, sumL_zip S (by simpa using h), appL, Tm.sizes]
theorem zip_fst : ∀ {a b : List Tm}, a.length = b.length → (a.zip b).map Prod.fst = a
  | [], [], _ => rfl
  | [], _ :: _, h => by simp at h
  | _ :: _, [], h => by simp at h
  | x :: a, y :: b, h => by simp [zip_fst (show a.length = b.length by simpa using h)]
def bigD (D : List Tm) : Nat := (8 * D.length + 10) * gB (degs D) + 1
structure SState (D : List Tm) (L0 : Pairs) (f : Env) (S : Sub) (L : Pairs) : Prop where
  sv : Solved f S
  us : UState L0 f L
  fd : FromD D f
  ind : ∀ p, p ∈ L → InD D p.1 ∧ InD D p.2
  grp : ∃ Xs, Grp D f Xs (L.map Prod.fst)
def meas (D : List Tm) (f : Env) (S : Sub) (L : Pairs) : Nat := unb f * bigD D + sumL S L
section
variable {D : List Tm} {L0 L : Pairs} {f : Env} {S : Sub}
theorem SState.length (hD : Closed D) (h : SState D L0 f S L) : L.length ≤ 8 * D.length + 10 := by
  obtain ⟨Xs, hg⟩ := h.grp
  have := grp_bound hD h.sv hg
  simpa using this
theorem SState.sum (hD : Closed D) (h : SState D L0 f S L) : sumL S L < bigD D := by
  have h1 := sumL_le L fun p hp => dag_bound hD h.sv h.fd (h.ind p hp).1
  have h2 := Nat.mul_le_mul_right (gB (degs D)) (h.length hD)
  unfold bigD; omega
theorem sstate_start {a b : List Tm} (hD : Closed D) (hl : a.length = b.length) (h10 : a.length ≤ 10) (ha : ∀ t, t ∈ a → InD D t) (hb : ∀ t, t ∈ b → InD D t) : SState D (a.zip b) noE varT (a.zip b) where
  sv := solved_start
  us := ustate_start _
  fd := fun v t h => by cases h
  ind := fun p hp => ⟨ha _ (List.of_mem_zip hp).1, hb _ (List.of_mem_zip hp).2⟩
  grp := ⟨[], by rw [zip_fst hl]; simpa [Grp] using h10⟩
variable {a b x y : Tm}
theorem SState.tail (h : SState D L0 f S ((a, b) :: L)) (hu : UState L0 f L) : SState D L0 f S L where
  sv := h.sv
  us := hu
  fd := h.fd
  ind := fun p hp => h.ind p (by simp [hp])
  grp := by
    obtain ⟨Xs, hg⟩ := h.grp
    obtain ⟨Ys, h1, -⟩ := grp_pop hg
    exact ⟨Ys, h1⟩
theorem meas_pop (f : Env) (S : Sub) (L : Pairs) (p : Tm × Tm) : meas D f S L < meas D f S (p :: L) := by
  have := (app S p.1).size_eq
  unfold meas; rw [sumL_cons]; omega
theorem s_skip (h : SState D L0 f S ((a, b) :: L)) (hx : Leads f a x) (hy : Leads f b y) (he : app S x = app S y) : SState D L0 f S L ∧ meas D f S L < meas D f S ((a, b) :: L) :=
  ⟨h.tail (ustate_skip h.sv (ustate_leads h.us hx hy) he), meas_pop _ _ _ _⟩
theorem s_bind (hD : Closed D) (h : SState D L0 f S ((a, b) :: L)) (hu : UState L0 f ((x, y) :: L)) (hxg : x.good = true) (hyD : InD D y) (hx : x.h < 0) (hf : f (-1 - x.h) = none) (hlow : y.h < 0 → -1 - y.h < -1 - x.h) (hocc : ¬ occ (-1 - x.h) (app S y)) :
    SState D L0 (upd f (-1 - x.h) y) (fun w => app (oneS (-1 - x.h) (app S y)) (S w)) L ∧ meas D (upd f (-1 - x.h) y) (fun w => app (oneS (-1 - x.h) (app S y)) (S w)) L < meas D f S ((a, b) :: L) := by
  have hgo := good_args hxg
  have h0 : 0 ≤ -1 - x.h := by omega
  have h1 : -1 - x.h ≤ 255 := by omega
  have hst : SState D L0 (upd f (-1 - x.h) y) (fun w => app (oneS (-1 - x.h) (app S y)) (S w)) L :=
    { sv := solved_bind h.sv h0 h1 hf hyD.1 hlow hocc
      us := ustate_bind hu hx hf
      fd := fromD_upd h.fd hyD
      ind := fun p hp => h.ind p (by simp [hp])
      grp := by
        obtain ⟨Xs, hg⟩ := h.grp
        obtain ⟨Ys, h1, -⟩ := grp_pop hg
        refine ⟨Ys, h1.mono fun v t hv => ?_⟩
        by_cases e : v = -1 - x.h
        · rw [e, hf] at hv; cases hv
        · simpa [upd, e] using hv }
  refine ⟨hst, ?_⟩
  have h2 := hst.sum hD
  have h3 := unb_upd (y := y) h0 h1 hf
  unfold meas
  have h4 := Nat.mul_le_mul_right (bigD D) (Nat.succ_le_of_lt h3)
  rw [Nat.succ_mul] at h4
  omega
theorem s_args (hD : Closed D) (h : SState D L0 f S ((a, b) :: L)) (hx : Leads f a x) (hy : Leads f b y) (hxn : ¬ x.h < 0) (hyn : ¬ y.h < 0) (hh : x.h = y.h) (hl : x.args.length = y.args.length) :
    SState D L0 f S (x.args.zip y.args ++ L) ∧ meas D f S (x.args.zip y.args ++ L) < meas D f S ((a, b) :: L) := by
  have hin := h.ind (a, b) (by simp)
  have hxD := leads_inD h.fd hin.1 hx
  have hyD := leads_inD h.fd hin.2 hy
  have hx8 := (good_args hxD.1).2.1
  refine ⟨{ sv := h.sv, us := ustate_args (ustate_leads h.us hx hy) hxn hh hl, fd := h.fd, ind := fun p hp => ?_, grp := ?_ }, ?_⟩
  · rcases List.mem_append.1 hp with hp | hp
    · exact ⟨hD.arg (hxD.2 hxn) (List.of_mem_zip hp).1, hD.arg (hyD.2 hyn) (List.of_mem_zip hp).2⟩
    · exact h.ind p (by simp [hp])
  · obtain ⟨Xs, hg⟩ := h.grp
    obtain ⟨Ys, h1⟩ := grp_push hD hg (hxD.2 hxn) hx x.args hx8 (fun c hc => hc)
    refine ⟨Ys, ?_⟩
    rw [List.map_append, zip_fst hl]
    exact h1
  · have e := leads_app (solved_resp h.sv) hx
    unfold meas
    rw [sumL_append, sumL_cons, sumL_zip S hl, e, app_size_pos hxn]
    omega
end
end Go.Proofs.Ythplndalbfcbbaa
