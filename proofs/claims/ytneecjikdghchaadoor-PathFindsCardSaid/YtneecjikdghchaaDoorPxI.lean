/- Rows of numbers read; elenchusref01.Ints, walked; sorted rows. -/
import Derived.Test.YtneecjikdghchaaDoorSortD
import Derived.Test.YtneecjikdghchaaDoorDraw6
set_option linter.unusedSimpArgs false
set_option linter.unusedVariables false
namespace Go.Proofs.YtneecjikdghchaaDoor
open Go.RowKit

def IntsIn (w : World) (a : Option Addr) (l : List Int) : Prop := l.length ≤ 9223372036854775807 ∧ ∀ i (h : i < l.length), ∃ b off, a = some ⟨b, off, none⟩ ∧ w.cell? ⟨b, off + i, none⟩ = some (.int .i64 l[i])
theorem ints_of_row {w : World} {base e : Nat} {v : Value} {l : List Int} (h : w.ownsRow base e 1 v l.length (l.map (Value.int .i64))) : ∃ a c, v = .slice a l.length c ∧ IntsIn w a l := by
  rcases h.2 with ⟨h1, h2⟩ | ⟨g, cap, cur, h1, hg, hh, hn, hm, hs, ht⟩
  · have : l = [] := List.eq_nil_of_length_eq_zero h2
    subst this
    exact ⟨none, 0, h1, by simp, fun i hi => by simp at hi⟩
  · refine ⟨_, _, h1, by have h9 : cap ≤ 9223372036854775807 := (by simpa [maxLen] using hm); omega, fun i hi => ⟨g, 0, rfl, ?_⟩⟩
    rw [Nat.zero_add, Nat.mul_one] at *
    have hi2 : i < cur.size := by omega
    have e1 : (cur.toList.take l.length)[i]? = (l.map (Value.int .i64))[i]? := by rw [ht]
    simp only [World.cell?, hh]
    rw [List.getElem?_take, if_pos hi] at e1
    simp [hi] at e1
    simp [e1]
theorem IntsIn.below {w w' : World} {a : Option Addr} {l : List Int} (h : IntsIn w a l) (hB : Below w.heap.size w w') : IntsIn w' a l := ⟨h.1, fun i hi => by
  obtain ⟨b, off, e1, e2⟩ := h.2 i hi
  exact ⟨b, off, e1, (hB.cell (p := ⟨b, off + i, none⟩) (World.block_lt_of_cell? _ _ e2)).trans e2⟩⟩
theorem lt_ext : ∀ {a b : List Int}, a.Pairwise (· < ·) → b.Pairwise (· < ·) → (∀ x, x ∈ a ↔ x ∈ b) → a = b
  | [], [], _, _, _ => rfl
  | [], y :: b, _, _, h => absurd ((h y).2 (by simp)) (by simp)
  | x :: a, [], _, _, h => absurd ((h x).1 (by simp)) (by simp)
  | x :: a, y :: b, ha, hb, h => by
    rw [List.pairwise_cons] at ha hb
    have hxy : x = y := by
      have h1 := (h x).1 (by simp)
      have h2 := (h y).2 (by simp)
      rcases List.mem_cons.1 h1 with h1 | h1
      · exact h1
      · rcases List.mem_cons.1 h2 with h2 | h2
        · exact h2.symm
        · have := ha.1 y h2
          have := hb.1 x h1
          omega
    subst hxy
    congr 1
    refine lt_ext ha.2 hb.2 fun z => ⟨fun hz => ?_, fun hz => ?_⟩
    · rcases List.mem_cons.1 ((h z).1 (by simp [hz])) with h1 | h1
      · have := ha.1 z hz; omega
      · exact h1
    · rcases List.mem_cons.1 ((h z).2 (by simp [hz])) with h1 | h1
      · have := hb.1 z hz; omega
      · exact h1
theorem le_nodup_lt {l : List Int} (h : l.Pairwise (· ≤ ·)) (hn : l.Nodup) : l.Pairwise (· < ·) := by
  induction l with
  | nil => exact .nil
  | cons x l ih =>
    rw [List.pairwise_cons] at h ⊢
    rw [List.nodup_cons] at hn
    refine ⟨fun y hy => ?_, ih h.2 hn.2⟩
    have h1 := h.1 y hy
    have h2 : x ≠ y := fun e => hn.1 (e ▸ hy)
    omega
theorem sortI_nodup {a : List Int} (ha : a.Nodup) : (sortI a).Nodup := by
  have : (sortI a).Perm a := List.mergeSort_perm _ _
  exact this.nodup_iff.2 ha
theorem sortI_is {o l : List Int} (ho : o.Nodup) (hl : l.Pairwise (· < ·)) (h : ∀ x, x ∈ o ↔ x ∈ l) : sortI o = l :=
  lt_ext (le_nodup_lt (sortI_sorted o) (sortI_nodup ho)) hl fun x => by rw [sortI_mem, h]
theorem sortI_same {a b : List Int} (ha : a.Nodup) (hb : b.Nodup) (h : ∀ x, x ∈ a ↔ x ∈ b) : sortI a = sortI b :=
  sortI_is ha (le_nodup_lt (sortI_sorted b) (sortI_nodup hb)) fun x => by rw [sortI_mem, h]
theorem take_eq_step {a b : List Int} {k : Nat} (h : k < a.length) (h' : k < b.length) : (a.take (k + 1) = b.take (k + 1)) ↔ (a.take k = b.take k ∧ a[k] = b[k]) := by
  rw [List.take_succ_eq_append_getElem h, List.take_succ_eq_append_getElem h']
  constructor
  · intro e
    have := List.append_inj e (by simp; omega)
    exact ⟨this.1, by simpa using this.2⟩
  · rintro ⟨e, e'⟩
    rw [e, e']

set_option maxHeartbeats 4000000 in
set_option maxRecDepth 100000 in
theorem rints_calls (la lb : List Int) (a b : Option Addr) (ca cb : Nat) (w : World) (ha : IntsIn w a la) (hb : IntsIn w b lb) :
    Calls Tryd.prog 26 #[.slice a la.length ca, .slice b lb.length cb] w fun e w' => e = .returned (.bool (decide (la = lb))) ∧ Below w.heap.size w w' := by
  obtain ⟨hla, HA⟩ := ha
  obtain ⟨hlb, HB⟩ := hb
  by_cases hl : la.length = lb.length
  rotate_left
  · have hne : ((la.length : Int) != (lb.length : Int)) = true := by simp; omega
    have HR := hide (show decide (la = lb) = false by simp; rintro rfl; exact hl rfl)
    clear hl HA HB
    go_enter Tryd.func26, Tryd.ntmps26
    go_wp2
    go_ret
    exact ⟨ret_bool HR.out.symm, Below.refl _ _⟩
  · have hne : ((la.length : Int) != (lb.length : Int)) = false := by simp; omega
    have HL := hide hl
    have HA := hide HA
    have HB := hide HB
    clear hl
    go_enter Tryd.func26, Tryd.ntmps26
    go_wp2
    go_loopw [5] (fun i wr => ∃ k : Nat, k ≤ la.length ∧ i = .int .i64 k ∧ Hid (la.take k = lb.take k) ∧ Hid (∀ b off i v, w.cell? ⟨b, off + i, none⟩ = some v → wr.cell? ⟨b, off + i, none⟩ = some v) ∧ Hid (Below w.heap.size w wr)) (fun i _ => la.length - (intOf i).toNat)
    case atStart => exact ⟨0, by omega, rfl, hide (by simp), hide (fun _ _ _ _ h => h), hide (Below.refl _ _)⟩
    case round =>
      obtain ⟨k, hk, rfl, hz, hcl, hw⟩ := hrel
      by_cases hlt : k < la.length
      · obtain ⟨b1, o1, rfl, q1⟩ := HA.out k hlt
        have hlt2 : k < lb.length := by have := HL.out; omega
        obtain ⟨b2, o2, rfl, q2⟩ := HB.out k hlt2
        replace q1 := hcl.out _ _ _ _ q1
        replace q2 := hcl.out _ _ _ _ q2
        have HT := hide (take_eq_step hlt hlt2)
        generalize la[k] = x at *
        generalize lb[k] = y at *
        have HC2 := hide (fun b off i v (h : w.cell? ⟨b, off + i, none⟩ = some v) => show wr.drew.cell? ⟨b, off + i, none⟩ = some v by rw [← hcl.out b off i v h]; rfl)
        have HW2 := hide (hw.out.trans (Below.mono (Below.refl wr.heap.size wr).drew hw.out.size))
        go_wp2
        refine drawn_tree (fun W' => W'.cell? ⟨b1, o1 + k, none⟩ = some (.int .i64 x) ∧ W'.cell? ⟨b2, o2 + k, none⟩ = some (.int .i64 y)) (.take 0 (.take 1 (.take 2 (.take 3 (.take 4 (.take 5 (.take 6 (.take 7 (.take 8 .done))))))))) (by kernel_rfl) (by kernel_rfl) (by kernel_rfl) (by kernel_rfl) (fun _ _ _ _ _ h => h) ⟨by go_simp, by go_simp⟩ ?_
        iterate 9 (refine t_take (v := ?_) rfl (by rfl) ?_ ?_; rotate_left; (intro w hS; obtain ⟨hS1, hS2⟩ := hS; go_simp; try with_reducible rfl); simp only [Act.put, List.setIfInBounds_toArray, List.set_cons_zero, List.set_cons_succ])
        refine t_done ?_
        clear q1 q2 hcl hw
        generalize wr.drew = w5 at *
        by_cases hxy : x = y
        · have hd : (x != y) = false := by simpa using hxy
          have HX := hide (HT.out.2 ⟨hz.out, hxy⟩)
          clear hxy
          go_wp2
          go_roundw
          case rel => exact ⟨k + 1, by omega, by go_num, HX, HC2, HW2⟩
          case measure => simp [intOf]; omega
        · have hd : (x != y) = true := by simpa using hxy
          have HRR := hide (show decide (la = lb) = false by
            simp only [decide_eq_false_iff_not]
            intro e
            exact hxy (HT.out.1 (by rw [e])).2)
          clear hxy
          go_wp2
          go_ret
          exact ⟨ret_bool HRR.out.symm, HW2.out⟩
      · obtain rfl : k = la.length := by omega
        have HRR := hide (show decide (la = lb) = true by
          have h1 := hz.out
          rw [List.take_length, HL.out, List.take_length] at h1
          simpa using h1)
        go_wp2
        go_ret
        exact ⟨ret_bool HRR.out.symm, hw.out⟩
end Go.Proofs.YtneecjikdghchaaDoor
