/- What the proof of the law rests on: contracts of the functions, plain laws, and words. -/
import Derived.Test.YthplndalbfcbbaaKMatchUnifiesXSolveLaw
import Derived.Test.YthplndalbfcbbaaKMatchUnifiesG1
set_option linter.unusedSimpArgs false
set_option linter.unusedVariables false
namespace Go.Proofs.Ythplndalbfcbbaa
open Go.RowKit
def unS : Nat → Sub → Pairs → Option (Option Sub)
  | 0, _, _ => none
  | _ + 1, S, [] => some (some S)
  | n + 1, S, (a, b) :: L =>
    if sameB (app S a) (app S b) = true then unS n S L
    else if (app S a).h < 0 ∧ ((app S b).h < 0 → (app S a).h < (app S b).h) then
      if (-1 - (app S a).h) ∈ varsT (app S b) then some none else unS n (fun w => app (oneS (-1 - (app S a).h) (app S b)) (S w)) L
    else if (app S b).h < 0 then
      if (-1 - (app S b).h) ∈ varsT (app S a) then some none else unS n (fun w => app (oneS (-1 - (app S b).h) (app S a)) (S w)) L
    else if (app S a).h = (app S b).h ∧ (app S a).args.length = (app S b).args.length then unS n S ((app S a).args.zip (app S b).args ++ L)
    else some none
def RelL (S : Sub) : Pairs → Pairs → Prop := All2 fun p q => app S p.1 = app S q.1 ∧ app S p.2 = app S q.2
def Ends (D : List Tm) (L0 : Pairs) : Option Sub → Prop
  | some S => ∃ f, Solved f S ∧ UState L0 f [] ∧ FromD D f
  | none => ∀ τ, ¬ Sol τ L0
theorem leads_end {f : Env} {S : Sub} (h : Solved f S) : ∀ a : Tm, ∃ x, Leads f a x ∧ (x.h < 0 → f (-1 - x.h) = none) := by
  have key : ∀ v : Int, ∀ a : Tm, a.h < 0 → -1 - a.h = v → ∃ x, Leads f a x ∧ (x.h < 0 → f (-1 - x.h) = none) := by
    refine rank_ind h (Q := fun v => ∀ a : Tm, a.h < 0 → -1 - a.h = v → ∃ x, Leads f a x ∧ (x.h < 0 → f (-1 - x.h) = none)) fun v ih a ha hv => ?_
    cases hf : f v with
    | none => exact ⟨a, .refl _, fun _ => by rw [hv]; exact hf⟩
    | some t =>
      by_cases hn : t.h < 0
      · obtain ⟨x, hx, hx2⟩ := ih t hf (-1 - t.h) ⟨by omega, by rw [show -1 - (-1 - t.h) = t.h by omega, Tm.heads_eq]; exact List.mem_cons_self⟩ t hn rfl
        exact ⟨x, .step ha (by rw [hv]; exact hf) hx, hx2⟩
      · exact ⟨t, .step ha (by rw [hv]; exact hf) (.refl _), fun h => absurd h hn⟩
  intro a
  by_cases hn : a.h < 0
  · exact key _ a hn rfl
  · exact ⟨a, .refl _, fun h => absurd h hn⟩
theorem app_end {f : Env} {S : Sub} (hS : Solved f S) {x : Tm} (hg : x.good = true) (hf : x.h < 0 → f (-1 - x.h) = none) : (app S x).h = x.h ∧ (x.h < 0 → app S x = x) ∧ (¬ x.h < 0 → (app S x).args = appL S x.args) := by
  by_cases hn : x.h < 0
  · have e : app S x = x := by
      rw [app_neg hn, hS.free _ (hf hn)]
      exact (good_is_var hg hn).symm
    exact ⟨by rw [e], fun _ => e, fun h => absurd hn h⟩
  · rw [app_pos hn]
    exact ⟨rfl, fun h => absurd h hn, fun _ => rfl⟩
theorem app_idem {f : Env} {S : Sub} (hS : Solved f S) {c : Tm} (hg : c.good = true) : app S (app S c) = app S c := by
  rw [app_comp]
  exact app_congr c fun v hv => solved_idem hS (occ_range hg hv).1 (occ_range hg hv).2
theorem RelL.later {S τ : Sub} {L' L : Pairs} (h : RelL S L' L) : RelL (fun w => app τ (S w)) L' L :=
  All2.imp (fun p q ⟨h1, h2⟩ => ⟨by rw [← app_comp, ← app_comp, h1], by rw [← app_comp, ← app_comp, h2]⟩) h
theorem RelL.zip {f : Env} {S : Sub} (hS : Solved f S) : ∀ {a b : List Tm}, Tm.goods a = true → Tm.goods b = true → RelL S ((appL S a).zip (appL S b)) (a.zip b)
  | [], _, _, _ => by simp only [appL, List.zip_nil_left]; exact .nil
  | _ :: _, [], _, _ => by simp only [appL, List.zip_nil_right]; exact .nil
  | x :: a, y :: b, h1, h2 => by
    have g1 := goods_mem h1
    have g2 := goods_mem h2
    simp only [appL, List.zip_cons_cons]
    exact .cons ⟨app_idem hS (g1 x (by simp)), app_idem hS (g2 y (by simp))⟩ (RelL.zip hS (goods_of_mem fun t ht => g1 t (by simp [ht])) (goods_of_mem fun t ht => g2 t (by simp [ht])))
theorem RelL.refl {S : Sub} : ∀ L : Pairs, RelL S L L
  | [] => .nil
  | p :: L => .cons ⟨rfl, rfl⟩ (RelL.refl L)
section
variable {D : List Tm} {L0 L L' : Pairs} {f : Env} {S : Sub} {a b a' b' : Tm}
def BindTo (D : List Tm) (L0 : Pairs) (m : Nat) (S : Sub) (L L' : Pairs) (v : Int) (y : Tm) : Prop :=
  0 ≤ v ∧ v ≤ 255 ∧ ((v ∈ varsT y ∧ ∀ τ, ¬ Sol τ L0) ∨ (¬ v ∈ varsT y ∧ ∃ f', SState D L0 f' (fun w => app (oneS v y) (S w)) L ∧ meas D f' (fun w => app (oneS v y) (S w)) L < m ∧ RelL (fun w => app (oneS v y) (S w)) L' L))
inductive StepU (D : List Tm) (L0 : Pairs) (f : Env) (S : Sub) (L L' : Pairs) (m : Nat) (x y : Tm) : Prop
  | skip : x = y → SState D L0 f S L → meas D f S L < m → RelL S L' L → StepU D L0 f S L L' m x y
  | left : x ≠ y → x.h < 0 → (y.h < 0 → x.h < y.h) → BindTo D L0 m S L L' (-1 - x.h) y → StepU D L0 f S L L' m x y
  | right : x ≠ y → ¬ (x.h < 0 ∧ (y.h < 0 → x.h < y.h)) → y.h < 0 → BindTo D L0 m S L L' (-1 - y.h) x → StepU D L0 f S L L' m x y
  | args (M : Pairs) : x ≠ y → ¬ x.h < 0 → ¬ y.h < 0 → x.h = y.h → x.args.length = y.args.length → SState D L0 f S M → meas D f S M < m → RelL S (x.args.zip y.args ++ L') M → StepU D L0 f S L L' m x y
  | clash : x ≠ y → ¬ x.h < 0 → ¬ y.h < 0 → ¬ (x.h = y.h ∧ x.args.length = y.args.length) → (∀ τ, ¬ Sol τ L0) → StepU D L0 f S L L' m x y
theorem u_step (hD : Closed D) (h : SState D L0 f S ((a, b) :: L)) (ha : app S a' = app S a) (hb : app S b' = app S b) (hr : RelL S L' L) : StepU D L0 f S L L' (meas D f S ((a, b) :: L)) (app S a') (app S b') := by
  obtain ⟨x, hx, hxf⟩ := leads_end h.sv a
  obtain ⟨y, hy, hyf⟩ := leads_end h.sv b
  have hxD := leads_inD h.fd (h.ind (a, b) (by simp)).1 hx
  have hyD := leads_inD h.fd (h.ind (a, b) (by simp)).2 hy
  obtain ⟨x1, x2, x3⟩ := app_end h.sv hxD.1 hxf
  obtain ⟨y1, y2, y3⟩ := app_end h.sv hyD.1 hyf
  have hu := ustate_leads h.us hx hy
  rw [ha, hb, leads_app (solved_resp h.sv) hx, leads_app (solved_resp h.sv) hy]
  by_cases he : app S x = app S y
  · obtain ⟨s1, s2⟩ := s_skip h hx hy he
    exact .skip he s1 s2 hr
  have hne : x.h < 0 → y.h < 0 → x.h ≠ y.h := fun p q e => he (by rw [app_neg p, app_neg q, e])
  have hrng : ∀ t : Tm, t.good = true → t.h < 0 → 0 ≤ -1 - t.h ∧ -1 - t.h ≤ 255 := fun t hg hn => ⟨by omega, by have := good_args hg; omega⟩
  by_cases h1 : x.h < 0 ∧ (y.h < 0 → x.h < y.h)
  · refine .left he (by rw [x1]; exact h1.1) (by rw [x1, y1]; exact h1.2) ?_
    rw [x1]
    refine ⟨(hrng x hxD.1 h1.1).1, (hrng x hxD.1 h1.1).2, ?_⟩
    by_cases ho : occ (-1 - x.h) (app S y)
    · exact .inl ⟨occ_iff.1 ho, ustate_occ h.sv hu h1.1 hyD.1 hyf (fun e => hne h1.1 (by rw [← e]; exact h1.1) e) ho⟩
    · obtain ⟨s1, s2⟩ := s_bind hD h hu hxD.1 hyD h1.1 (hxf h1.1) (fun hn => by have := h1.2 hn; omega) ho
      exact .inr ⟨fun e => ho (occ_iff.2 e), _, s1, s2, hr.later⟩
  by_cases h2 : y.h < 0
  · refine .right he (by rw [x1, y1]; exact h1) (by rw [y1]; exact h2) ?_
    rw [y1]
    have hxy : x.h < 0 → y.h < x.h := fun p => by
      have := hne p h2
      have : ¬ x.h < y.h := fun q => h1 ⟨p, fun _ => q⟩
      omega
    refine ⟨(hrng y hyD.1 h2).1, (hrng y hyD.1 h2).2, ?_⟩
    by_cases ho : occ (-1 - y.h) (app S x)
    · exact .inl ⟨occ_iff.1 ho, ustate_occ h.sv (ustate_swap hu) h2 hxD.1 hxf (fun e => hne (by rw [← e]; exact h2) h2 e.symm) ho⟩
    · obtain ⟨s1, s2⟩ := s_bind hD h (ustate_swap hu) hyD.1 hxD h2 (hyf h2) (fun hn => by have := hxy hn; omega) ho
      exact .inr ⟨fun e => ho (occ_iff.2 e), _, s1, s2, hr.later⟩
  have hxn : ¬ x.h < 0 := fun p => h1 ⟨p, fun q => absurd q h2⟩
  have ex := x3 hxn
  have ey := y3 h2
  by_cases h3 : x.h = y.h ∧ x.args.length = y.args.length
  · obtain ⟨s1, s2⟩ := s_args hD h hx hy hxn h2 h3.1 h3.2
    refine .args _ he (by rw [x1]; exact hxn) (by rw [y1]; exact h2) (by rw [x1, y1]; exact h3.1) (by rw [ex, ey, appL_length, appL_length]; exact h3.2) s1 s2 ?_
    rw [ex, ey]
    exact (RelL.zip h.sv (goodsOf hxD.1) (goodsOf hyD.1)).append hr
  · exact .clash he (by rw [x1]; exact hxn) (by rw [y1]; exact h2) (by rw [x1, y1, ex, ey, appL_length, appL_length]; exact h3) (ustate_clash hu hxn h2 h3)
end
theorem unS_law {D : List Tm} {L0 : Pairs} (hD : Closed D) : ∀ (n : Nat) (f : Env) (S : Sub) (L L' : Pairs), SState D L0 f S L → RelL S L' L → meas D f S L < n → ∃ r, unS n S L' = some r ∧ Ends D L0 r
  | 0, _, _, _, _, _, _, h => absurd h (by omega)
  | n + 1, f, S, _, _, h, .nil, hm => ⟨some S, rfl, f, h.sv, h.us, h.fd⟩
  | n + 1, f, S, (a, b) :: L, (a', b') :: L', h, .cons ⟨ha, hb⟩ hr, hm => by
    have hbind : ∀ v y, BindTo D L0 (meas D f S ((a, b) :: L)) S L L' v y → ∃ r, (if v ∈ varsT y then some none else unS n (fun w => app (oneS v y) (S w)) L') = some r ∧ Ends D L0 r := by
      rintro v y ⟨-, -, ⟨h1, h2⟩ | ⟨h1, f', h2, h3, h4⟩⟩
      · exact ⟨none, by rw [if_pos h1], h2⟩
      · rw [if_neg h1]
        exact unS_law hD n f' _ L L' h2 h4 (by omega)
    simp only [unS]
    cases u_step hD h ha hb hr with
    | skip e h1 h2 h3 =>
      rw [if_pos (sameB_iff.2 e)]
      exact unS_law hD n f S L L' h1 h3 (by omega)
    | left e h1 h2 h3 =>
      rw [if_neg (fun q => e (sameB_iff.1 q)), if_pos ⟨h1, h2⟩]
      exact hbind _ _ h3
    | right e h1 h2 h3 =>
      rw [if_neg (fun q => e (sameB_iff.1 q)), if_neg h1, if_pos h2]
      exact hbind _ _ h3
    | args M e h1 h2 h3 h4 h5 h6 h7 =>
      rw [if_neg (fun q => e (sameB_iff.1 q)), if_neg (fun q => h1 q.1), if_neg h2, if_pos ⟨h3, h4⟩]
      exact unS_law hD n f S M _ h5 h7 (by omega)
    | clash e h1 h2 h3 h4 =>
      rw [if_neg (fun q => e (sameB_iff.1 q)), if_neg (fun q => h1 q.1), if_neg h2, if_neg h3]
      exact ⟨none, rfl, h4⟩
end Go.Proofs.Ythplndalbfcbbaa
