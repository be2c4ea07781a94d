/- A term's variables, as they come: plain Lean. -/
import Derived.Test.YthplndalbfcbbaaRef3d
set_option linter.unusedSimpArgs false
set_option linter.unusedVariables false
namespace Go.Proofs.Ythplndalbfcbbaa
open Go.RowKit

mutual
def Tm.heads : Tm → List Int
  | .node h l => h :: Tm.headsL l
def Tm.headsL : List Tm → List Int
  | [] => []
  | t :: ts => t.heads ++ Tm.headsL ts
end
theorem Tm.headsL_mem (l : List Tm) (h : Int) : h ∈ Tm.headsL l ↔ ∃ t, t ∈ l ∧ h ∈ t.heads := by
  induction l with
  | nil => simp [Tm.headsL]
  | cons t ts ih => simp [Tm.headsL, ih]
theorem Tm.heads_eq (t : Tm) : t.heads = t.h :: Tm.headsL t.args := by cases t; simp [Tm.heads, Tm.h, Tm.args]
mutual
theorem heads_length : ∀ t : Tm, t.heads.length = t.size
  | .node h l => by simp only [Tm.heads, Tm.size, List.length_cons, headsL_length l]; omega
theorem headsL_length : ∀ l : List Tm, (Tm.headsL l).length = Tm.sizes l
  | [] => by simp [Tm.headsL, Tm.sizes]
  | t :: ts => by simp only [Tm.headsL, Tm.sizes, List.length_append, heads_length t, headsL_length ts]
end
mutual
theorem preT_heads : ∀ (d : Int) (t : Tm), (preT d t).map (fun p => p.2.h) = t.heads
  | d, .node h l => by
    rw [preT, List.map_cons, preL_heads (d + 1) l, Tm.heads]; rfl
theorem preL_heads : ∀ (d : Int) (l : List Tm), (preL d l).map (fun p => p.2.h) = Tm.headsL l
  | d, [] => by simp [preL, Tm.headsL]
  | d, t :: ts => by simp only [preL, List.map_append, Tm.headsL, preT_heads d t, preL_heads d ts]
end
theorem All2.heads {A : Nat → Prop} {W : World} {a : List Raw} {c : List (Int × Tm)} (h : All2 (RawIs A W) a c) : a.map (fun r => r.2.1) = c.map (fun p => p.2.h) := by
  induction h with
  | nil => rfl
  | cons h _ ih => simp only [List.map_cons, ih, h.2.1]
theorem raw_heads {A : Nat → Prop} {W : World} {t : Tm} {d : Int} {r : Int × Value} (h1 : r.1 = t.h) (h2 : Terms A W r.2 t.args) : (rawT W t d r).map (fun r => r.2.1) = t.heads := by
  rw [(rawT_pre t d r h1 h2).heads, preT_heads]

def vstep (l : List Int) (h : Int) : List Int := if h < 0 ∧ (-1 - h) ∉ l then l ++ [-1 - h] else l
def varsH (hs : List Int) : List Int := hs.foldl vstep []
def varsT (t : Tm) : List Int := varsH t.heads
theorem varsH_snoc (hs : List Int) (h : Int) : varsH (hs ++ [h]) = vstep (varsH hs) h := by simp [varsH]
theorem mem_foldl_vstep : ∀ (hs : List Int) (l : List Int) (v : Int), v ∈ hs.foldl vstep l ↔ v ∈ l ∨ ∃ h, h ∈ hs ∧ h < 0 ∧ v = -1 - h
  | [], l, v => by simp
  | h :: hs, l, v => by
    rw [List.foldl_cons, mem_foldl_vstep hs]
    unfold vstep
    split
    · rename_i hc
      rw [List.mem_append, List.mem_singleton]
      simp only [List.mem_cons (l := hs)]
      constructor
      · rintro ((h1 | h1) | ⟨x, h1, h2⟩)
        · exact .inl h1
        · exact .inr ⟨h, .inl rfl, hc.1, h1⟩
        · exact .inr ⟨x, .inr h1, h2⟩
      · rintro (h1 | ⟨x, rfl | h1, h2, h3⟩)
        · exact .inl (.inl h1)
        · exact .inl (.inr h3)
        · exact .inr ⟨x, h1, h2, h3⟩
    · rename_i hc
      simp only [List.mem_cons]
      constructor
      · rintro (h1 | ⟨x, h1, h2⟩)
        · exact .inl h1
        · exact .inr ⟨x, .inr h1, h2⟩
      · rintro (h1 | ⟨x, rfl | h1, h2, h3⟩)
        · exact .inl h1
        · refine .inl ?_
          by_cases hm : (-1 - x) ∈ l
          · rw [h3]; exact hm
          · exact absurd ⟨h2, hm⟩ hc
        · exact .inr ⟨x, h1, h2, h3⟩
theorem mem_varsT {t : Tm} {v : Int} : v ∈ varsT t ↔ ∃ h, h ∈ t.heads ∧ h < 0 ∧ v = -1 - h := by simp [varsT, varsH, mem_foldl_vstep]
theorem vstep_length (l : List Int) (h : Int) : (vstep l h).length ≤ l.length + 1 := by unfold vstep; split <;> simp
theorem foldl_vstep_length : ∀ (hs l : List Int), (hs.foldl vstep l).length ≤ l.length + hs.length
  | [], l => by simp
  | h :: hs, l => by
    have h1 := foldl_vstep_length hs (vstep l h)
    have h2 := vstep_length l h
    simp only [List.foldl_cons, List.length_cons]; omega
theorem varsT_length (t : Tm) : (varsT t).length ≤ t.size := by
  have := foldl_vstep_length t.heads []
  rw [heads_length] at this
  simpa [varsT, varsH] using this

theorem good_ok {h : Int} {l : List Tm} (hg : (Tm.node h l).good = true) : ¬ (h < 0 ∧ 0 < l.length ∨ h < -256 ∨ 1023 < h ∨ 8 < l.length) := by
  simp only [Tm.good, Bool.and_eq_true] at hg
  have h1 : ¬ okP (.node h l) = false := by rw [hg.1]; simp
  rwa [okP_iff] at h1
mutual
theorem good_heads : ∀ t : Tm, t.good = true → ∀ h, h ∈ t.heads → -256 ≤ h ∧ h ≤ 1023
  | .node x l, hg, h, hh => by
    have hk := good_ok hg
    simp only [Tm.good, Bool.and_eq_true] at hg
    simp only [Tm.heads, List.mem_cons] at hh
    rcases hh with rfl | hh
    · omega
    · exact goods_heads l hg.2 h hh
theorem goods_heads : ∀ l : List Tm, Tm.goods l = true → ∀ h, h ∈ Tm.headsL l → -256 ≤ h ∧ h ≤ 1023
  | [], _, h, hh => by simp [Tm.headsL] at hh
  | t :: ts, hg, h, hh => by
    simp only [Tm.goods, Bool.and_eq_true] at hg
    simp only [Tm.headsL, List.mem_append] at hh
    rcases hh with hh | hh
    · exact good_heads t hg.1 h hh
    · exact goods_heads ts hg.2 h hh
end
theorem good_var {h : Int} {l : List Tm} (hg : (Tm.node h l).good = true) (hn : h < 0) : l = [] := by
  have := good_ok hg
  exact List.eq_nil_of_length_eq_zero (by omega)

/-! ### What is put -/
mutual
theorem put_heads (bs : List Bd) (v : Int) : ∀ t : Tm, t.good = true → ((∃ h, h ∈ (putT bs t).heads ∧ h < 0 ∧ v = -1 - h) ↔ ∃ h, h ∈ t.heads ∧ h < 0 ∧ v ∈ varsT (ofBs (-1 - h) bs))
  | .node x l, hg => by
    by_cases hx : x < 0
    · have := good_var hg hx
      subst this
      simp only [putT, hx, if_true, Tm.heads, Tm.headsL, List.mem_cons, List.not_mem_nil, or_false, mem_varsT]
      constructor
      · rintro h; exact ⟨x, rfl, hx, h⟩
      · rintro ⟨_, rfl, _, h⟩; exact h
    · have hg' : Tm.goods l = true := by simp only [Tm.good, Bool.and_eq_true] at hg; exact hg.2
      have ih := puts_heads bs v l hg'
      simp only [putT, hx, if_false, Tm.heads, List.mem_cons]
      constructor
      · rintro ⟨h, rfl | h1, h2, h3⟩
        · exact absurd h2 hx
        · obtain ⟨y, y1, y2⟩ := ih.1 ⟨h, h1, h2, h3⟩; exact ⟨y, .inr y1, y2⟩
      · rintro ⟨h, rfl | h1, h2, h3⟩
        · exact absurd h2 hx
        · obtain ⟨y, y1, y2⟩ := ih.2 ⟨h, h1, h2, h3⟩; exact ⟨y, .inr y1, y2⟩
theorem puts_heads (bs : List Bd) (v : Int) : ∀ l : List Tm, Tm.goods l = true → ((∃ h, h ∈ Tm.headsL (putL bs l) ∧ h < 0 ∧ v = -1 - h) ↔ ∃ h, h ∈ Tm.headsL l ∧ h < 0 ∧ v ∈ varsT (ofBs (-1 - h) bs))
  | [], _ => by simp [putL, Tm.headsL]
  | t :: ts, hg => by
    simp only [Tm.goods, Bool.and_eq_true] at hg
    have i1 := put_heads bs v t hg.1
    have i2 := puts_heads bs v ts hg.2
    simp only [putL, Tm.headsL, List.mem_append]
    constructor
    · rintro ⟨h, h1 | h1, h2⟩
      · obtain ⟨y, y1, y2⟩ := i1.1 ⟨h, h1, h2⟩; exact ⟨y, .inl y1, y2⟩
      · obtain ⟨y, y1, y2⟩ := i2.1 ⟨h, h1, h2⟩; exact ⟨y, .inr y1, y2⟩
    · rintro ⟨h, h1 | h1, h2⟩
      · obtain ⟨y, y1, y2⟩ := i1.2 ⟨h, h1, h2⟩; exact ⟨y, .inl y1, y2⟩
      · obtain ⟨y, y1, y2⟩ := i2.2 ⟨h, h1, h2⟩; exact ⟨y, .inr y1, y2⟩
end
mutual
theorem put_same (bs : List Bd) : ∀ t : Tm, t.good = true → (∀ h, h ∈ t.heads → h < 0 → ofBs (-1 - h) bs = .node h []) → putT bs t = t
  | .node x l, hg, hs => by
    by_cases hx : x < 0
    · have := good_var hg hx
      subst this
      simp only [putT, hx, if_true]
      exact hs x (by simp [Tm.heads]) hx
    · have hg' : Tm.goods l = true := by simp only [Tm.good, Bool.and_eq_true] at hg; exact hg.2
      simp only [putT, hx, if_false]
      rw [puts_same bs l hg' fun h hh => hs h (by simp [Tm.heads, hh])]
theorem puts_same (bs : List Bd) : ∀ l : List Tm, Tm.goods l = true → (∀ h, h ∈ Tm.headsL l → h < 0 → ofBs (-1 - h) bs = .node h []) → putL bs l = l
  | [], _, _ => by simp [putL]
  | t :: ts, hg, hs => by
    simp only [Tm.goods, Bool.and_eq_true] at hg
    simp only [putL]
    rw [put_same bs t hg.1 fun h hh => hs h (by simp [Tm.headsL, hh]), puts_same bs ts hg.2 fun h hh => hs h (by simp [Tm.headsL, hh])]
end
theorem put_nil {t : Tm} (h : t.good = true) : putT [] t = t := put_same [] t h fun x _ _ => by simp only [ofBs]; congr 1; omega

theorem ofBs_right : ∀ (bs : List Bd) (x : Int), okBs x bs = true → ∀ v, -1 ≤ v → v ≤ 255 → (ofBs v bs).good = true ∨ (ofBs v bs) = .node (-1 - v) []
  | [], _, _, v, _, _ => .inr rfl
  | b :: bs, x, h, v, h0, h1 => by
    simp only [okBs, Bool.and_eq_true, decide_eq_true_eq] at h
    simp only [ofBs]
    split
    · exact .inl (chk_good h.1.1.2)
    · exact ofBs_right bs _ h.2 v h0 h1
theorem node_var_good {v : Int} (h0 : 0 ≤ v) (h1 : v ≤ 255) : (Tm.node (-1 - v) []).good = true := by
  have h2 : ¬ okP (.node (-1 - v) []) = false := by rw [okP_iff]; simp only [Tm.h, Tm.args, List.length_nil]; omega
  simp only [Tm.good, Tm.goods, Bool.and_true]
  cases h3 : okP (.node (-1 - v) []) <;> simp_all
theorem ofBs_good {bs : List Bd} (h : rightBs bs = true) {v : Int} (h0 : 0 ≤ v) (h1 : v ≤ 255) : (ofBs v bs).good = true := by
  rcases ofBs_right bs (-1) h v (by omega) h1 with h | h
  · exact h
  · rw [h]; exact node_var_good h0 h1
theorem right_size {t : Tm} (h : chk t = 0) : t.size ≤ 400 := by
  unfold chk at h
  split at h
  · cases h
  · omega
end Go.Proofs.Ythplndalbfcbbaa
