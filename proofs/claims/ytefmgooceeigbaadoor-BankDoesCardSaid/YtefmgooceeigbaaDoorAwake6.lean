/- The document's example of layer 6. -/
import Derived.Test.YtefmgooceeigbaaDoorBank5
import Derived.Test.YtefmgooceeigbaaDoorTwo
set_option linter.unusedSimpArgs false
set_option linter.unusedVariables false
namespace Go.Proofs.YtefmgooceeigbaaDoor
open Go.RowKit

def x6A : Tm := .node 1 []
def x6F : Tm := .node 3 [x6A]
def x6T : Tm := .node 4 [x6A, x6F]
def x6R : List Rw := [(1, []), (3, [0]), (4, [0, 1])]
theorem ex6_chk1 : chk x6T = 0 := by kernel_rfl
theorem ex6_chk2 : chk x6A = 0 := by kernel_rfl
theorem ex6_chk3 : chk x6F = 0 := by kernel_rfl
theorem ex6_put1 : putT [] x6T = (x6R, some 2) := by kernel_rfl
theorem ex6_put2 : putT x6R x6A = (x6R, some 0) := by kernel_rfl
theorem ex6_put3 : putT x6R x6F = (x6R, some 1) := by kernel_rfl
theorem ex6_b1 : putB [] x6T = (x6R, 2, 0) := by rw [putB, ex6_chk1, ex6_put1]; rfl
theorem ex6_b2 : putB x6R x6A = (x6R, 0, 0) := by rw [putB, ex6_chk2, ex6_put2]; rfl
theorem ex6_b3 : putB x6R x6F = (x6R, 1, 0) := by rw [putB, ex6_chk3, ex6_put3]; rfl

theorem tabB.up {B B' : Nat} {w : World} (h : tabB B w) (hB : B ≤ B') : tabB B' w := fun w' hb => h w' (hb.mono hB)
set_option maxHeartbeats 8000000 in
set_option maxRecDepth 100000 in
theorem awake6_calls (base : Nat) (w : World) (ht : tabB base w) (hbw : base ≤ w.heap.size) : Calls Tryd.prog 14 #[] w fun e w' => e = .returned (.bool true) ∧ Below w.heap.size w w' := by
  have HT := hide (ht.on (Below.refl _ _))
  have HBW := hide hbw
  clear ht hbw
  go_enter Tryd.func14, Tryd.ntmps14
  go_wp2_with fail
  refine (new_calls (fun _ => False) w (fun _ h => h.elim)).mono ?_
  rintro e w1 ⟨xb, mb, rfl, hx1, b1⟩
  have hlt1 := hx1.lt
  have HB1 := hide b1
  have hx1l := (hlt1 xb (.inl rfl)).2
  go_wp2_with fail
  refine (fun_calls 1 none 0 0 w1).mono ?_
  rintro e w2 ⟨rfl, b2⟩
  have hx2 := hx1.below b2
  have HB2 := hide (more_below HB1.out b2)
  have s2 := b2.size
  clear hx1 b1 b2
  have hgen : (w2.alloc (.cells #[.int .i64 1, .slice none 0 0] 26)).alloc (.cells #[.int .i64 1, .slice none 0 0] 26) = allocs w2 [.cells #[.int .i64 1, .slice none 0 0] 26, .cells #[.int .i64 1, .slice none 0 0] 26] := rfl
  have m0 : (allocs w2 [.cells #[.int .i64 1, .slice none 0 0] 26, .cells #[.int .i64 1, .slice none 0 0] 26]).heap[w2.heap.size]? = some (.cells #[.int .i64 1, .slice none 0 0] 26 (0, 0)) := allocs_get _ _ 0 _ rfl
  have m1 : (allocs w2 [.cells #[.int .i64 1, .slice none 0 0] 26, .cells #[.int .i64 1, .slice none 0 0] 26]).heap[w2.heap.size + 1]? = some (.cells #[.int .i64 1, .slice none 0 0] 26 (0, 0)) := allocs_get _ _ 1 _ rfl
  have b3 : Below w2.heap.size w2 (allocs w2 [.cells #[.int .i64 1, .slice none 0 0] 26, .cells #[.int .i64 1, .slice none 0 0] 26]) := allocs_below _ _
  have hx3 := hx2.below b3
  have HB3 := hide (more_below HB2.out b3)
  have s3 : w2.heap.size + 2 = (allocs w2 [.cells #[.int .i64 1, .slice none 0 0] 26, .cells #[.int .i64 1, .slice none 0 0] 26]).heap.size := by rw [allocs_size]; rfl
  have f1 : Terms (BZ xb mb (.slice none 0 0)) _ (.slice (some ⟨w2.heap.size + 1, 0, none⟩) 1 1) x6F.args := terms1 (t := x6A) m1 (fun h => by have := hlt1 _ h; omega) (Terms.nil _ _)
  go_wp2_with fail
  clear hx2 b3 m1 hgen
  generalize allocs w2 [.cells #[.int .i64 1, .slice none 0 0] 26, .cells #[.int .i64 1, .slice none 0 0] 26] = w3 at *
  generalize w2.heap.size + 1 = bs at *
  have hba : ¬ BZ xb mb (.slice none 0 0) w2.heap.size := fun h => by have := hlt1 _ h; omega
  generalize w2.heap.size = ba at *
  refine (fun_calls 3 _ _ _ w3).mono ?_
  rintro e w4 ⟨rfl, b4⟩
  have hx4 := hx3.below b4
  have HB4 := hide (more_below HB3.out b4)
  have f4 := f1.below b4
  have m4 := (b4.block _ (Array.getElem?_eq_some_iff.1 m0).1).trans m0
  have s4 := b4.size
  clear hx3 b4 f1 m0
  have hgen : (w4.alloc (.cells #[.int .i64 3, .slice (some ⟨bs, 0, none⟩) 1 1] 26)).alloc (.cells #[.int .i64 1, .slice none 0 0, .int .i64 3, .slice (some ⟨bs, 0, none⟩) 1 1] 26) = allocs w4 [.cells #[.int .i64 3, .slice (some ⟨bs, 0, none⟩) 1 1] 26, .cells #[.int .i64 1, .slice none 0 0, .int .i64 3, .slice (some ⟨bs, 0, none⟩) 1 1] 26] := rfl
  have k0 : (allocs w4 [.cells #[.int .i64 3, .slice (some ⟨bs, 0, none⟩) 1 1] 26, .cells #[.int .i64 1, .slice none 0 0, .int .i64 3, .slice (some ⟨bs, 0, none⟩) 1 1] 26]).heap[w4.heap.size]? = some (.cells #[.int .i64 3, .slice (some ⟨bs, 0, none⟩) 1 1] 26 (0, 0)) := allocs_get _ _ 0 _ rfl
  have k1 : (allocs w4 [.cells #[.int .i64 3, .slice (some ⟨bs, 0, none⟩) 1 1] 26, .cells #[.int .i64 1, .slice none 0 0, .int .i64 3, .slice (some ⟨bs, 0, none⟩) 1 1] 26]).heap[w4.heap.size + 1]? = some (.cells #[.int .i64 1, .slice none 0 0, .int .i64 3, .slice (some ⟨bs, 0, none⟩) 1 1] 26 (0, 0)) := allocs_get _ _ 1 _ rfl
  have b5 : Below w4.heap.size w4 (allocs w4 [.cells #[.int .i64 3, .slice (some ⟨bs, 0, none⟩) 1 1] 26, .cells #[.int .i64 1, .slice none 0 0, .int .i64 3, .slice (some ⟨bs, 0, none⟩) 1 1] 26]) := allocs_below _ _
  have hx5 := hx4.below b5
  have HB5 := hide (more_below HB4.out b5)
  have f5 := f4.below b5
  have m5 := (b5.block _ (Array.getElem?_eq_some_iff.1 m4).1).trans m4
  obtain ⟨zl, z0, z1, -, -⟩ := box2 m4
  have t5 : Terms (BZ xb mb (.slice none 0 0)) _ (.slice (some ⟨w4.heap.size + 1, 0, none⟩) 2 2) x6T.args := terms2 (t1 := x6A) (t2 := x6F) k1 (fun h => by have := hlt1 _ h; omega) (Terms.nil _ _) f5
  have hbf : ¬ BZ xb mb (.slice none 0 0) w4.heap.size := fun h => by have := hlt1 _ h; omega
  go_wp2_with fail
  clear hx4 b5 k1 hgen f4 m4 z0 z1 zl
  generalize allocs w4 [.cells #[.int .i64 3, .slice (some ⟨bs, 0, none⟩) 1 1] 26, .cells #[.int .i64 1, .slice none 0 0, .int .i64 3, .slice (some ⟨bs, 0, none⟩) 1 1] 26] = w5 at *
  generalize w4.heap.size + 1 = bt at *
  generalize w4.heap.size = bf at *
  refine (fun_calls 4 _ _ _ w5).mono ?_
  rintro e w6 ⟨rfl, b6⟩
  have hx6 := hx5.below b6
  have HB6 := hide (more_below HB5.out b6)
  have f6 := f5.below b6
  have t6 := t5.below b6
  have m6 := (b6.block _ (Array.getElem?_eq_some_iff.1 m5).1).trans m5
  have k6 := (b6.block _ (Array.getElem?_eq_some_iff.1 k0).1).trans k0
  have HT6 := hide (HT.out.on (HB6.out.mono HBW.out))
  clear hx5 b6 f5 t5 m5 k0
  go_wp2_with fail
  refine (bPut_calls xb mb _ _ x6T [] _ _ _ _ w6 (by decide) (tabB.up HT6.out HBW.out) hx6 ⟨rfl, t6⟩).mono ?_
  rintro e w7 ⟨he, rv7, f7, hx7, mv7⟩
  rw [ex6_b1] at he hx7
  simp only at he hx7
  subst he
  have f7 := mv7.terms f6
  obtain ⟨m7, na7⟩ := mv7.obj hba m6
  obtain ⟨k7, nf7⟩ := mv7.obj hbf k6
  have HB7 := hide (HB6.out.trans (mv7.under (fun b hz => (hlt1 b hz).1) (by have := HB6.out.size; omega)))
  have HT7 := hide (HT.out.on (HB7.out.mono HBW.out))
  obtain ⟨-, z0, z1, -, -⟩ := box2 m7
  clear hx6 mv7 f6 t6 m6 k6 hba hbf
  go_wp2_with fail
  refine (bPut_calls xb mb _ _ x6A x6R _ _ _ _ w7 (by decide) (tabB.up HT7.out HBW.out) hx7 ⟨rfl, Terms.nil _ _⟩).mono ?_
  rintro e w8 ⟨he, rv8, f8, hx8, mv8⟩
  rw [ex6_b2] at he hx8
  simp only at he hx8
  subst he
  have f8 := mv8.terms f7
  obtain ⟨k8, nf8⟩ := mv8.obj nf7 k7
  have hlt7 := hx7.lt
  have HB8 := hide (HB7.out.trans (mv8.under (fun b hz => (hlt7 b hz).1) (by have := HB7.out.size; omega)))
  have HT8 := hide (HT.out.on (HB8.out.mono HBW.out))
  obtain ⟨-, z0, z1, -, -⟩ := box2 k8
  clear hx7 mv8 f7 k7 nf7 m7 na7 hlt7
  go_wp2_with fail
  refine (bPut_calls xb mb _ _ x6F x6R _ _ _ _ w8 (by decide) (tabB.up HT8.out HBW.out) hx8 ⟨rfl, f8⟩).mono ?_
  rintro e w9 ⟨he, rv9, f9, hx9, mv9⟩
  rw [ex6_b3] at he hx9
  simp only at he hx9
  subst he
  have hlt8 := hx8.lt
  have HB9 := hide (HB8.out.trans (mv9.under (fun b hz => (hlt8 b hz).1) (by have := HB8.out.size; omega)))
  clear hx8 mv9 f8 k8 nf8 hlt8
  go_wp2_with fail
  refine (bsize_calls w9 hx9).mono ?_
  rintro e w10 ⟨rfl, rfl⟩
  go_wp2
  go_ret
  exact ⟨rfl, HB9.out⟩
end Go.Proofs.YtefmgooceeigbaaDoor
