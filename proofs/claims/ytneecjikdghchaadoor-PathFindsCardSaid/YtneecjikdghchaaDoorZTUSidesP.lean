/- UnifySides: what the law computes is true. -/
import Derived.Test.YtneecjikdghchaaDoorZTMatch
import Derived.Test.YtneecjikdghchaaDoorDraw4
import Derived.Test.YtneecjikdghchaaDoorZTUniFun
import Derived.Test.YtneecjikdghchaaDoorJoin
import Derived.Test.YtneecjikdghchaaDoorCheck
import Derived.Test.YtneecjikdghchaaDoorTSame
import Derived.Test.YtneecjikdghchaaDoorDraw3
import Derived.Test.YtneecjikdghchaaDoorRef1p
import Derived.Test.YtneecjikdghchaaDoorOwn
import Derived.Test.YtneecjikdghchaaDoorZTUAll
set_option linter.unusedSimpArgs false
set_option linter.unusedVariables false
namespace Go.Proofs.YtneecjikdghchaaDoor
section
open Go.RowKit

theorem match_iff {p t : Tm} {l : List Bd} {x : Bool} (h : matchT [p] [t] = (l, x, 0)) : rightB p = true ∧ rightB t = true ∧ (x = true ↔ ∃ σ, Makes σ p t) := by
  rw [matchT] at h
  split at h
  · rename_i hc
    have hp : rightB p = true := by simpa using hc.2.1
    have ht : rightB t = true := by simpa using hc.2.2
    refine ⟨hp, ht, ?_⟩
    split at h
    · rename_i f hf
      simp only [Prod.mk.injEq] at h
      exact ⟨fun _ => ⟨f, makesL_one.1 (gather_gathered (show [p].length = [t].length from rfl) hf).makes⟩, fun _ => h.2.1.symm⟩
    · rename_i hf
      simp only [Prod.mk.injEq] at h
      refine ⟨fun hx => ?_, fun ⟨σ, hm⟩ => absurd (makesL_one.2 hm) (gather_none (show [p].length = [t].length from rfl) hf σ)⟩
      rw [← h.2.1] at hx; cases hx
  · simp only [Prod.mk.injEq] at h
    exact absurd h.2.2 (by decide)
theorem match_calls' {p t : Tm} {h1 h2 : Int} {s1 s2 : Value} {w : World} {l : List Bd} {x : Bool} {e : Int} (he : matchT [p] [t] = (l, x, e)) (hp9 : p.size ≤ 1000000000) (ht9 : t.size ≤ 1000000000) (hp : IsTm (fun _ => False) w h1 s1 p) (ht : IsTm (fun _ => False) w h2 s2 t) :
    Calls Tryd.prog 18 #[.agg #[.int .i64 h1, s1], .agg #[.int .i64 h2, s2]] w fun e' w' => (∃ v, e' = .returned (.tuple #[v, .bool x, .int .i64 e]) ∧ Binds (fun _ => False) w' v l) ∧ Below w.heap.size w w' := by
  have h := match_calls (fun _ => False) p t h1 h2 s1 s2 w hp9 ht9 (fun _ h => h.elim) hp ht
  rw [he] at h
  refine h.mono ?_
  rintro e' w' ⟨v, h1, h2, h3⟩
  exact ⟨⟨v, h1, h2⟩, h3⟩
end
section
open Go.RowKit

def tidyF (g : Sub) : List Bd := ((upto 256).filter fun v => (g v).h != -1 - v).map fun v => ⟨v, g v⟩
theorem rightB_var {v : Int} (h0 : 0 ≤ v) (h1 : v ≤ 255) : rightB (varT v) = true := by
  have := chk_var h0 h1
  unfold rightB varT
  rw [this]; rfl
theorem rightB_chk {t : Tm} : rightB t = true ↔ chk t = 0 := by simp [rightB]

end
section
open Go.RowKit

theorem endL_no {S : Sub} : ∀ (vs : List Int) (acc : List Bd), (endL S vs acc).2 ≠ 0 → (endL S vs acc).1 = []
  | [], acc, h => absurd rfl h
  | v :: vs, acc, h => by
    simp only [endL] at h ⊢
    split
    · rfl
    · rename_i h1
      rw [if_neg h1] at h
      split
      · rfl
      · rename_i h2
        rw [if_neg h2] at h
        exact endL_no vs _ h
theorem endL_yes {S : Sub} : ∀ (vs : List Int) (acc : List Bd), (∀ v, v ∈ vs → (S v).good = true) → (endL S vs acc).2 = 0 → (endL S vs acc).1 = acc ++ vs.map (fun v => ⟨v, S v⟩) ∧ ∀ v, v ∈ vs → chk (S v) = 0
  | [], acc, _, _ => ⟨by simp [endL], by simp⟩
  | v :: vs, acc, hg, h => by
    simp only [endL] at h ⊢
    by_cases h1 : 400 < (S v).size
    · rw [if_pos h1] at h; cases h
    · rw [if_neg h1] at h ⊢
      by_cases h2 : 40 < (S v).depth
      · rw [if_pos h2] at h; cases h
      · rw [if_neg h2] at h ⊢
        obtain ⟨g1, g2⟩ := endL_yes vs _ (fun u hu => hg u (by simp [hu])) h
        refine ⟨by rw [g1]; simp, fun u hu => ?_⟩
        rcases List.mem_cons.1 hu with rfl | hu
        · simp [chk, h1, h2, hg u (by simp)]
        · exact g2 u hu
/-- The cases. -/
inductive UCase (ps ts : List Tm) : Prop
  | wrong : ¬ (ps.length = ts.length ∧ ps.all rightB = true ∧ ts.all rightB = true) → unifyT ps ts = ([], false, 1) → UCase ps ts
  | none : ps.length = ts.length → ps.all rightB = true → ts.all rightB = true → (∀ τ, ¬ Sol τ (ps.zip ts)) → unifyT ps ts = ([], false, 0) → UCase ps ts
  | long (f : Env) (S : Sub) (e : Int) : ps.length = ts.length → ps.all rightB = true → ts.all rightB = true → Solved f S → UState (ps.zip ts) f [] → e = 2 ∨ e = 7 → unifyT ps ts = ([], false, e) → UCase ps ts
  | ok (f : Env) (S : Sub) : ps.length = ts.length → ps.all rightB = true → ts.all rightB = true → Solved f S → UState (ps.zip ts) f [] → (∀ v, 0 ≤ v → v ≤ 255 → chk (S v) = 0) → unifyT ps ts = (tidyF S, true, 0) → UCase ps ts
theorem endL_err {S : Sub} : ∀ (vs : List Int) (acc : List Bd), (endL S vs acc).2 = 0 ∨ (endL S vs acc).2 = 2 ∨ (endL S vs acc).2 = 7
  | [], acc => .inl rfl
  | v :: vs, acc => by
    simp only [endL]
    split
    · exact .inr (.inl rfl)
    · split
      · exact .inr (.inr rfl)
      · exact endL_err vs _
theorem ucase {ps ts : List Tm} (h10 : ps.length ≤ 10) : UCase ps ts := by
  by_cases hc : ps.length = ts.length ∧ ps.all rightB = true ∧ ts.all rightB = true
  rotate_left
  · exact .wrong hc (unify_wrong hc)
  obtain ⟨hl, hp, ht⟩ := hc
  obtain ⟨r, h1, h2⟩ := unify_ends hl h10 hp ht
  cases r with
  | none => exact .none hl hp ht h2 (unify_none hl h10 hp ht h2)
  | some S =>
    obtain ⟨f, g1, g2, g3⟩ := h2
    have hs := unify_some hl h10 hp ht (mgu_of g1 g2)
    have hgd : ∀ v, v ∈ (upto 256).filter (movesS S) → (S v).good = true := fun v hv => by
      have := mem_upto.1 (List.mem_filter.1 hv).1
      exact g1.good v this.1 (by omega)
    by_cases he : (tidyS S).2 = 0
    · have hy := endL_yes ((upto 256).filter (movesS S)) [] hgd he
      refine .ok f S hl hp ht g1 g2 (fun v h0 h1 => ?_) ?_
      · by_cases hm : movesS S v = true
        · exact hy.2 v (List.mem_filter.2 ⟨mem_upto.2 ⟨h0, by omega⟩, hm⟩)
        · rw [moves_iff g1 h0 h1] at hm
          have hf : f v = none := by
            cases hf : f v with
            | none => rfl
            | some t => rw [hf] at hm; exact absurd rfl hm
          rw [g1.free v hf]
          exact rightB_chk.1 (rightB_var h0 h1)
      · rw [hs, he]
        have e1 : (tidyS S).1 = tidyF S := by
          have := hy.1
          rw [List.nil_append] at this
          exact this
        rw [e1]; rfl
    · have hn := endL_no ((upto 256).filter (movesS S)) [] he
      have hr : (tidyS S).2 = 2 ∨ (tidyS S).2 = 7 := (endL_err ((upto 256).filter (movesS S)) []).resolve_left he
      refine .long f S (tidyS S).2 hl hp ht g1 g2 hr ?_
      rw [hs]
      have e1 : (tidyS S).1 = [] := hn
      have e2 : ((tidyS S).2 == 0) = false := by simpa using he
      rw [e1, e2]
end
open Go.RowKit

theorem ok_of_sol {a b : Tm} (h : (unifyT [a] [b]).2.2 = 0) : ((unifyT [a] [b]).2.1 = true ↔ ∃ τ, Sol τ [(a, b)]) ∧ rightB a = true ∧ rightB b = true := by
  cases ucase (ps := [a]) (ts := [b]) (by simp) with
  | wrong _ e => rw [e] at h; cases h
  | none _ hp ht hn e => rw [e]; exact ⟨⟨fun h => (by cases h), fun ⟨τ, hτ⟩ => absurd hτ (hn τ)⟩, by simpa using hp, by simpa using ht⟩
  | long f S x _ hp ht hS hu hx e => rw [e] at h; simp only at h; omega
  | ok f S _ hp ht hS hu hc e => rw [e]; exact ⟨⟨fun _ => ⟨S, (mgu_of hS hu).sol⟩, fun _ => rfl⟩, by simpa using hp, by simpa using ht⟩
end Go.Proofs.YtneecjikdghchaaDoor
