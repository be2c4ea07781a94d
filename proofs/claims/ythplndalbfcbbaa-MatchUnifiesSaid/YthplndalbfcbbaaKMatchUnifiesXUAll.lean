/- What the proof of the law rests on: contracts of the functions, plain laws, and words. -/
import Derived.Test.YthplndalbfcbbaaKMatchUnifiesXUnifyT
import Derived.Test.YthplndalbfcbbaaKMatchUnifiesXUWrong
import Derived.Test.YthplndalbfcbbaaKMatchUnifiesXSolve
import Derived.Test.YthplndalbfcbbaaKMatchUnifiesG7
set_option linter.unusedSimpArgs false
set_option linter.unusedVariables false
namespace Go.Proofs.Ythplndalbfcbbaa
open Go.RowKit
theorem nsubs_bound {ps ts : List Tm} (h10 : ps.length ≤ 10) (hl : ps.length = ts.length) (hp : ps.all rightB = true) (ht : ts.all rightB = true) : (nsubsL (ps ++ ts)).length ≤ 10000 := by
  have h1 := nsubsL_length (ps ++ ts)
  rw [Tm.sizes_append] at h1
  have key : ∀ l : List Tm, l.all rightB = true → Tm.sizes l ≤ l.length * 400 := fun l => by
    induction l with
    | nil => simp [Tm.sizes]
    | cons t l ih =>
      intro h
      simp only [List.all_cons, Bool.and_eq_true] at h
      have := ih h.2
      have := right_size (show chk t = 0 by simpa [rightB] using h.1)
      simp only [Tm.sizes, List.length_cons]
      omega
  have := key ps hp
  have := key ts ht
  omega
set_option maxHeartbeats 8000000 in
set_option maxRecDepth 100000 in
theorem uall_calls (A : Nat → Prop) (ps ts : List Tm) (s1 s2 : Value) (w : World) (hp9 : Tm.sizes ps ≤ 1000000000) (ht9 : Tm.sizes ts ≤ 1000000000) (h10 : ps.length ≤ 10) (hA : ∀ b, A b → b < w.heap.size) (hs : Terms A w s1 ps) (ht : Terms A w s2 ts) :
    Calls Try.prog 58 #[s1, s2] w fun e w' => ∃ v, e = .returned (.tuple #[v, .bool (unifyT ps ts).2.1, .int .i64 (unifyT ps ts).2.2]) ∧ Binds A w' v (unifyT ps ts).1 ∧ Below w.heap.size w w' := by
  obtain ⟨a1, d1, rfl, hd1, hd1'⟩ := hs.shape
  obtain ⟨a2, d2, rfl, hd2, hd2'⟩ := ht.shape
  have HAO := hide hA
  have NILB := hide (fun W => (by simp only [Binds, RepD, List.map_nil]; exact ⟨none, 0, 0, rfl, rfl, by omega, by omega, by simp⟩ : Binds (A) W (.slice none 0 0) []))
  have HPS := hide (fun t (h : t ∈ ps) => (by obtain ⟨i, hi, rfl⟩ := List.getElem_of_mem h; exact Nat.le_trans (Tm.size_get ps i hi) hp9 : t.size ≤ 1000000000))
  have HTS := hide (fun t (h : t ∈ ts) => (by obtain ⟨i, hi, rfl⟩ := List.getElem_of_mem h; exact Nat.le_trans (Tm.size_get ts i hi) ht9 : t.size ≤ 1000000000))
  go_enter Try.func58, Try.ntmps58
  by_cases hlen : ps.length = ts.length
  rotate_left
  · have HM := hide (unify_wrong (fun h => hlen h.1))
    have hd : ((ps.length : Int) != ts.length) = true := by simp; omega
    clear hlen
    go_wp2
    exact bodyPost_ret (v := .tuple #[.slice none 0 0, .bool false, .int .i64 1]) (by simp [results, Try.results58, go_sem]) rfl ⟨_, by rw [HM.out], by rw [HM.out]; exact NILB.out _, Below.refl _ _⟩
  have hd : ((ps.length : Int) != ts.length) = false := by simp; omega
  have HL := hide hlen
  clear hlen
  go_wp2_with fail
  refine (ucontains_calls ps (A) _ _ hs HPS.out).mono ?_
  rintro e w1 ⟨rfl, B1⟩
  cases hpr : ps.all rightB
  · have HM := hide (unify_wrong (ps := ps) (ts := ts) (fun h => by rw [hpr] at h; exact absurd h.2.1 (by simp)))
    have HPR := hide hpr
    clear hpr
    simp only [Bool.not_false]
    go_wp2
    exact bodyPost_ret (v := .tuple #[.slice none 0 0, .bool false, .int .i64 1]) (by simp [results, Try.results58, go_sem]) rfl ⟨_, by rw [HM.out], by rw [HM.out]; exact NILB.out _, B1⟩
  have HPR := hide hpr
  clear hpr
  simp only [Bool.not_true]
  go_wp2_with fail
  refine (ucontains_calls ts (A) _ _ (ht.below B1) HTS.out).mono ?_
  rintro e w2 ⟨rfl, h2⟩
  have B2 := more_below B1 h2
  clear h2 B1
  cases htr : ts.all rightB
  · have HM := hide (unify_wrong (ps := ps) (ts := ts) (fun h => by rw [htr] at h; exact absurd h.2.2 (by simp)))
    have HTR := hide htr
    clear htr
    simp only [Bool.not_false]
    go_wp2
    exact bodyPost_ret (v := .tuple #[.slice none 0 0, .bool false, .int .i64 1]) (by simp [results, Try.results58, go_sem]) rfl ⟨_, by rw [HM.out], by rw [HM.out]; exact NILB.out _, B2⟩
  have HTR := hide htr
  clear htr
  simp only [Bool.not_true]
  have hmm := @run_makeMap Try.prog
  go_wp2_with fail
  have hal : Below w2.heap.size w2 ((w2.alloc (.map #[] 0)).alloc (.cells #[.map (some w2.heap.size)] 131)) := ((Below.refl _ _).alloc (Nat.le_refl _) _).alloc (by simp) _
  have B3 := more_below B2 hal
  have hw2 := B2.size
  have hz3 : ((w2.alloc (.map #[] 0)).alloc (.cells #[.map (some w2.heap.size)] 131)).heap.size = w2.heap.size + 2 := by simp
  have hsol : SolAt A ((w2.alloc (.map #[] 0)).alloc (.cells #[.map (some w2.heap.size)] 131)) w2.heap.size (w2.heap.size + 1) noE :=
    ⟨by have := World.alloc_heap_new (w2.alloc (.map #[] 0)) (.cells #[.map (some w2.heap.size)] 131); rwa [World.size_alloc] at this,
     (MapEnv.made (OldA w2.heap.size A) w2).below ((Below.refl _ _).alloc (Nat.le_refl _) _), by omega⟩
  have HDL := hide (nsubs_bound h10 HL.out HPR.out HTR.out)
  have HG := hide (goods_pair HPR.out HTR.out)
  have hso := solve_calls A w2.heap.size (w2.heap.size + 1) (nsubsL (ps ++ ts)) (closedL HG.out) HDL.out ps ts HL.out h10 (fun t h => inD_nsubsL HG.out (by simp [h])) (fun t h => inD_nsubsL HG.out (by simp [h])) (.slice a1 ps.length d1) (.slice a2 ts.length d2) _ hsol (hs.old hw2 B3) (ht.old hw2 B3)
  generalize ((w2.alloc (.map #[] 0)).alloc (.cells #[.map (some w2.heap.size)] 131)) = W3 at *
  refine hso.mono ?_
  rintro e w4 ⟨r, rfl, hk4, h4, h5⟩
  have B4 : Below w.heap.size w w4 := B3.trans (hk4.below (fun b hb e => by omega) B3.size)
  have hz4 : w2.heap.size < w4.heap.size := by have := hk4.size; omega
  clear hal hsol hso
  cases r with
  | false =>
    have HM := hide (unify_none HL.out h10 HPR.out HTR.out (h5 rfl))
    clear h4 h5
    go_wp2
    exact bodyPost_ret (v := .tuple #[.slice none 0 0, .bool false, .int .i64 0]) (by simp [results, Try.results58, go_sem]) rfl ⟨_, by rw [HM.out], by rw [HM.out]; exact NILB.out _, B4⟩
  | true =>
    obtain ⟨f, S, g1, g2, g3, g4⟩ := h4 rfl
    have HM := hide (unify_some HL.out h10 HPR.out HTR.out (mgu_of g2 g3))
    have hen := uend_calls A A w2.heap.size (w2.heap.size + 1) f S g2 w4 (fun b hb => by have := HAO.out b hb; have := B4.size; omega) g1
    rw [dom_moves g2] at hen
    have he : endL S ((upto 256).filter (movesS S)) [] = tidyS S := rfl
    rw [he] at hen
    clear h4 h5 g1 g3 g4 he
    go_wp2_with fail
    refine hen.mono ?_
    rintro e w5 ⟨v, rfl, hv, B5⟩
    have B6 := more_below B4 B5
    have HV := hide hv
    obtain ⟨av, cv, hvs, -, -⟩ := hv.shape
    subst hvs
    have HQ := hide (show ((unifyT ps ts).1, (unifyT ps ts).2.1, (unifyT ps ts).2.2) = ((tidyS S).1, (tidyS S).2 == 0, (tidyS S).2) from HM.out)
    clear hen hv g2
    generalize htt : (tidyS S).1 = tt at *
    generalize hte : (tidyS S).2 = te at *
    clear htt hte
    go_wp2
    have hq := HQ.out
    simp only [Prod.mk.injEq] at hq
    exact bodyPost_ret (v := .tuple #[.slice av tt.length cv, .bool (te == 0), .int .i64 te]) (by simp [results, Try.results58, go_sem]) rfl ⟨_, by rw [hq.2.1, hq.2.2], by rw [hq.1]; exact HV.out, B6⟩
set_option maxHeartbeats 4000000 in
set_option maxRecDepth 100000 in
theorem umgu_calls (A : Nat → Prop) (p t : Tm) (h1 h2 : Int) (s1 s2 : Value) (w : World) (hp9 : p.size ≤ 1000000000) (ht9 : t.size ≤ 1000000000) (hA : ∀ b, A b → b < w.heap.size) (hp : IsTm A w h1 s1 p) (ht : IsTm A w h2 s2 t) :
    Calls Try.prog 55 #[.agg #[.int .i64 h1, s1], .agg #[.int .i64 h2, s2]] w fun e w' => GivesM A w (unifyT [p] [t]) e w' := by
  obtain ⟨rfl, a1, c1, rfl, -, -⟩ := hp.shape
  obtain ⟨rfl, a2, c2, rfl, -, -⟩ := ht.shape
  have HAO := hide hA
  go_enter Try.func55, Try.ntmps55
  go_wp2_with fail
  have b2 : Below w.heap.size w ((w.alloc (.cells #[.int .i64 p.h, .slice a1 p.args.length c1] 25)).alloc (.cells #[.int .i64 t.h, .slice a2 t.args.length c2] 25)) := ((Below.refl _ _).alloc (Nat.le_refl _) _).alloc (by rw [World.size_alloc]; omega) _
  have e2 : ((w.alloc (.cells #[.int .i64 p.h, .slice a1 p.args.length c1] 25)).alloc (.cells #[.int .i64 t.h, .slice a2 t.args.length c2] 25)).heap.size = w.heap.size + 1 + 1 := by rw [World.size_alloc, World.size_alloc]
  generalize (w.alloc (.cells #[.int .i64 p.h, .slice a1 p.args.length c1] 25)).alloc (.cells #[.int .i64 t.h, .slice a2 t.args.length c2] 25) = W2 at *
  have p2 := hp.below b2
  have t2 := ht.below b2
  have k3 : (W2.alloc (.cells #[.int .i64 p.h, .slice a1 p.args.length c1] 25)).heap[W2.heap.size]? = some (.cells #[.int .i64 p.h, .slice a1 p.args.length c1] 25 (0, 0)) := World.alloc_heap_new _ _
  have b3 : Below W2.heap.size W2 (W2.alloc (.cells #[.int .i64 p.h, .slice a1 p.args.length c1] 25)) := (Below.refl _ _).alloc (Nat.le_refl _) _
  have p3 := terms1 (A := A) (t := p) k3 (fun h => by have := HAO.out _ h; omega) (p2.below b3).2
  have t3 := t2.below b3
  have B3 := more_below b2 b3
  have e3 : (W2.alloc (.cells #[.int .i64 p.h, .slice a1 p.args.length c1] 25)).heap.size = w.heap.size + 1 + 1 + 1 := by rw [World.size_alloc, e2]
  rw [e2] at p3
  generalize W2.alloc (.cells #[.int .i64 p.h, .slice a1 p.args.length c1] 25) = W3 at *
  have k4 : (W3.alloc (.cells #[.int .i64 t.h, .slice a2 t.args.length c2] 25)).heap[W3.heap.size]? = some (.cells #[.int .i64 t.h, .slice a2 t.args.length c2] 25 (0, 0)) := World.alloc_heap_new _ _
  have b4 : Below W3.heap.size W3 (W3.alloc (.cells #[.int .i64 t.h, .slice a2 t.args.length c2] 25)) := (Below.refl _ _).alloc (Nat.le_refl _) _
  have t4 := terms1 (A := A) (t := t) k4 (fun h => by have := HAO.out _ h; omega) (t3.below b4).2
  have p4 := p3.below b4
  have B4 := more_below B3 b4
  rw [e3] at t4
  generalize W3.alloc (.cells #[.int .i64 t.h, .slice a2 t.args.length c2] 25) = W4 at *
  clear e2 e3 k3 k4 b2 b3 b4 p2 t2 p3 t3 B3
  refine (uall_calls A [p] [t] _ _ W4 (by rw [sizes_one]; exact hp9) (by rw [sizes_one]; exact ht9) (by simp) (fun b h => Nat.lt_of_lt_of_le (HAO.out b h) B4.size) p4 t4).mono ?_
  rintro e w5 ⟨v, rfl, hv, h5⟩
  have B5 := more_below B4 h5
  go_wp2
  exact bodyPost_ret (v := .tuple #[v, .bool (unifyT [p] [t]).2.1, .int .i64 (unifyT [p] [t]).2.2]) (by simp [results, Try.results55, go_sem]) rfl ⟨v, rfl, hv, B5⟩
end Go.Proofs.Ythplndalbfcbbaa
