/- BankDoes, purely. -/
import Derived.Test.YtefmgooceeigbaaDoorJoin
import Derived.Test.YtefmgooceeigbaaDoorDraw6
import Derived.Test.YtefmgooceeigbaaDoorRef6
import Derived.Test.YtefmgooceeigbaaDoorBOnceP
import Derived.Test.YtefmgooceeigbaaDoorReadS
set_option linter.unusedSimpArgs false
set_option linter.unusedVariables false
namespace Go.Proofs.YtefmgooceeigbaaDoor
section
open Go.RowKit

def IntsIn (w : World) (a : Option Addr) (l : List Int) : Prop := l.length ≤ 9223372036854775807 ∧ ∀ i (h : i < l.length), ∃ b off, a = some ⟨b, off, none⟩ ∧ w.cell? ⟨b, off + i, none⟩ = some (.int .i64 l[i])
theorem Ints.ins {A : Nat → Prop} {w : World} {a : Option Addr} {n c : Nat} {l : List Int} (h : Ints A w (.slice a n c) l) : IntsIn w a l := by
  obtain ⟨a', c', -, -, h2⟩ := h.shape
  refine ⟨h2, fun i hi => ?_⟩
  obtain ⟨b, off, e, -, -, hc⟩ := h.get i hi
  exact ⟨b, off, e, hc⟩
theorem take_eq_step {a b : List Int} {k : Nat} (h : k < a.length) (h' : k < b.length) : (a.take (k + 1) = b.take (k + 1)) ↔ (a.take k = b.take k ∧ a[k] = b[k]) := by
  rw [List.take_succ_eq_append_getElem h, List.take_succ_eq_append_getElem h']
  constructor
  · intro e
    have := List.append_inj e (by simp; omega)
    exact ⟨this.1, by simpa using this.2⟩
  · rintro ⟨e, e'⟩
    rw [e, e']

set_option maxHeartbeats 4000000 in
set_option maxRecDepth 100000 in
theorem rints_calls (la lb : List Int) (a b : Option Addr) (ca cb : Nat) (w : World) (ha : IntsIn w a la) (hb : IntsIn w b lb) :
    Calls Tryd.prog 23 #[.slice a la.length ca, .slice b lb.length cb] w fun e w' => e = .returned (.bool (decide (la = lb))) ∧ Below w.heap.size w w' := by
  obtain ⟨hla, HA⟩ := ha
  obtain ⟨hlb, HB⟩ := hb
  by_cases hl : la.length = lb.length
  rotate_left
  · have hne : ((la.length : Int) != (lb.length : Int)) = true := by simp; omega
    have HR := hide (show decide (la = lb) = false by simp; rintro rfl; exact hl rfl)
    clear hl HA HB
    go_enter Tryd.func23, Tryd.ntmps23
    go_wp2
    go_ret
    exact ⟨ret_bool HR.out.symm, Below.refl _ _⟩
  · have hne : ((la.length : Int) != (lb.length : Int)) = false := by simp; omega
    have HL := hide hl
    have HA := hide HA
    have HB := hide HB
    clear hl
    go_enter Tryd.func23, Tryd.ntmps23
    go_wp2
    go_loopw [5] (fun i wr => ∃ k : Nat, k ≤ la.length ∧ i = .int .i64 k ∧ Hid (la.take k = lb.take k) ∧ Hid (∀ b off i v, w.cell? ⟨b, off + i, none⟩ = some v → wr.cell? ⟨b, off + i, none⟩ = some v) ∧ Hid (Below w.heap.size w wr)) (fun i _ => la.length - (intOf i).toNat)
    case atStart => exact ⟨0, by omega, rfl, hide (by simp), hide (fun _ _ _ _ h => h), hide (Below.refl _ _)⟩
    case round =>
      obtain ⟨k, hk, rfl, hz, hcl, hw⟩ := hrel
      by_cases hlt : k < la.length
      · obtain ⟨b1, o1, rfl, q1⟩ := HA.out k hlt
        have hlt2 : k < lb.length := by have := HL.out; omega
        obtain ⟨b2, o2, rfl, q2⟩ := HB.out k hlt2
        replace q1 := hcl.out _ _ _ _ q1
        replace q2 := hcl.out _ _ _ _ q2
        have HT := hide (take_eq_step hlt hlt2)
        generalize la[k] = x at *
        generalize lb[k] = y at *
        have HC2 := hide (fun b off i v (h : w.cell? ⟨b, off + i, none⟩ = some v) => show wr.drew.cell? ⟨b, off + i, none⟩ = some v by rw [← hcl.out b off i v h]; rfl)
        have HW2 := hide (hw.out.trans (Below.mono (Below.refl wr.heap.size wr).drew hw.out.size))
        go_wp2
        refine drawn_tree (fun W' => W'.cell? ⟨b1, o1 + k, none⟩ = some (.int .i64 x) ∧ W'.cell? ⟨b2, o2 + k, none⟩ = some (.int .i64 y)) (.take 0 (.take 1 (.take 2 (.take 3 (.take 4 (.take 5 (.take 6 (.take 7 (.take 8 .done))))))))) (by kernel_rfl) (by kernel_rfl) (by kernel_rfl) (by kernel_rfl) (fun _ _ _ _ _ h => h) ⟨by go_simp, by go_simp⟩ ?_
        iterate 9 (refine t_take (v := ?_) rfl (by rfl) ?_ ?_; rotate_left; (intro w hS; obtain ⟨hS1, hS2⟩ := hS; go_simp; try with_reducible rfl); simp only [Act.put, List.setIfInBounds_toArray, List.set_cons_zero, List.set_cons_succ])
        refine t_done ?_
        clear q1 q2 hcl hw
        generalize wr.drew = w5 at *
        by_cases hxy : x = y
        · have hd : (x != y) = false := by simpa using hxy
          have HX := hide (HT.out.2 ⟨hz.out, hxy⟩)
          clear hxy
          go_wp2
          go_roundw
          case rel => exact ⟨k + 1, by omega, by go_num, HX, HC2, HW2⟩
          case measure => simp [intOf]; omega
        · have hd : (x != y) = true := by simpa using hxy
          have HRR := hide (show decide (la = lb) = false by
            simp only [decide_eq_false_iff_not]
            intro e
            exact hxy (HT.out.1 (by rw [e])).2)
          clear hxy
          go_wp2
          go_ret
          exact ⟨ret_bool HRR.out.symm, HW2.out⟩
      · obtain rfl : k = la.length := by omega
        have HRR := hide (show decide (la = lb) = true by
          have h1 := hz.out
          rw [List.take_length, HL.out, List.take_length] at h1
          simpa using h1)
        go_wp2
        go_ret
        exact ⟨ret_bool HRR.out.symm, hw.out⟩
end
open Go.RowKit

theorem does_put {R : List Rw} {L : List Tm} (hg : Good R) (ht : Twin R L) (t : Tm) : ∃ R' L' x e, putB R t = (R', x, e) ∧ putRB L t = (L', x, e) ∧ Twin R' L' ∧ (R' = R ∨ R' = (putT R t).1) ∧ (L' = L ∨ L' = (rputT L t).1) := by
  by_cases hc : chk t = 0
  · obtain ⟨h1, h2⟩ := put_same t R L hg ht
    exact ⟨_, _, _, _, by rw [putB, if_pos hc], by rw [putRB, if_pos hc, h2], h1, .inr rfl, .inr rfl⟩
  · exact ⟨_, _, _, _, by rw [putB, if_neg hc], by rw [putRB, if_neg hc], ht, .inl rfl, .inl rfl⟩
theorem does_args {R : List Rw} {L : List Tm} (hg : Good R) (ht : Twin R L) : ∀ (ts : List Tm) (ns : List Nat), AreAt R ts ns → ts.map (fun u => numV (rfind L u)) = zs ns
  | [], ns, h => by simp only [AreAt] at h; subst h; rfl
  | t :: ts, ns, h => by
    simp only [AreAt] at h
    obtain ⟨n, m, rfl, h1, h2⟩ := h
    rw [List.map_cons, does_args hg ht ts m h2, ht.find hg t, (findT_iff hg t n).2 h1]
    rfl
theorem does_row {R : List Rw} {L : List Tm} (hg : Good R) (ht : Twin R L) {i : Nat} (hi : i < R.length) (hl : i < L.length) : (L[i]).args.map (fun u => numV (rfind L u)) = zs (R[i]).2 := by
  obtain ⟨h1, h2, h3⟩ := isAt_row (ht.each i L[i] (List.getElem?_eq_getElem hl))
  exact does_args hg ht _ _ h3
theorem does_term {R : List Rw} {L : List Tm} (ht : Twin R L) {i : Nat} {t : Tm} (h : IsAt R t i) (hl : i < L.length) : L[i] = t := by
  have := ht.at h
  rw [List.getElem?_eq_getElem hl] at this
  exact Option.some.inj this
def stT (l : List Bs) : List Tm := l.map Bs.t
theorem stT_get (l : List Bs) (k : Nat) (h : k < l.length) (n : Int) : cntS n ((stT l).drop k) = if n ≤ 500 then cntS (n + cntT (l[k]).t 500) ((stT l).drop (k + 1)) else n := by
  have h' : k < (stT l).length := by rw [stT, List.length_map]; exact h
  rw [cntS_drop _ _ h']
  simp only [stT, List.getElem_map]
theorem stT_size {l : List Bs} (h : cntS 0 (stT l) ≤ 500) (k : Nat) (hk : k < l.length) : (l[k]).t.size ≤ 500 := by
  have h1 := fewS_sizes (ts := stT l) (by simpa [fewS] using h)
  have h2 := Tm.size_get (stT l) k (by rw [stT, List.length_map]; exact hk)
  simp only [stT, List.getElem_map] at h1 h2
  omega
end Go.Proofs.YtefmgooceeigbaaDoor
