/- What the proof of the law rests on: contracts of the functions, plain laws, and words. -/
import Derived.Sort.OwnSortedInts
import Derived.Lib.SlicesCompact
import Derived.Lib.RowBridge
import Derived.Test.YthplndalbfcbbaaKFeatureSubsumesG1
import Derived.Test.YthplndalbfcbbaaKFeatureSubsumesG4
import Derived.Test.YthplndalbfcbbaaKFeatureSubsumesG5
set_option linter.unusedSimpArgs false
set_option linter.unusedVariables false
namespace Go.Proofs.Ythplndalbfcbbaa
open Go.RowKit Go.Shelf
attribute [local go_sem] Oper.semAt_some
end Go.Proofs.Ythplndalbfcbbaa
set_option linter.unusedSimpArgs false
set_option linter.unusedVariables false
namespace Go.Proofs.Ythplndalbfcbbaa
open Go.RowKit Go.Sort
def sortI (l : List Int) : List Int := l.mergeSort fun x y => decide (x ≤ y)
theorem sortI_length (l : List Int) : (sortI l).length = l.length := by simp [sortI]
theorem sort_own (l : List Int) (base e : Nat) (v : Value) (W : World) (hl : l.length ≤ 1000000) (h : W.ownsRow base e 1 v l.length (l.map (Value.int .i64))) :
    Calls Try.prog 104 #[v] W fun en w' => en = .returned (.tuple #[]) ∧ w'.ownsRow base e 1 v l.length ((sortI l).map (Value.int .i64)) ∧ Keep (fun b => v.ownBlock ≠ some b) W w' := by
  have h' := h
  rcases h.2 with ⟨hv, h0⟩ | ⟨g, cap, cur, hv, hg, hh, hn, hm, hs, ht⟩
  · have hl0 : l = [] := List.eq_nil_of_length_eq_zero h0
    subst hl0 hv
    refine (Try.slices_Sort_int_none none 0 W).mono ?_
    rintro en w' ⟨rfl, rfl⟩
    exact ⟨rfl, by simpa [sortI] using h', Keep.refl _ _⟩
  · have hlt : g < W.heap.size := (Array.getElem?_eq_some_iff.1 hh).1
    rw [Nat.mul_one] at ht
    have hH := holds_of_blockI hh ht
    subst hv
    refine (Try.slices_Sort_int g 0 cap l W hH hlt (by omega)).mono ?_
    rintro en w' ⟨rfl, n, os, rfl⟩
    exact ⟨rfl, ownsRow_sortedI (sortI_length l) hg hh hn hm hs, (Keep.refl _ _).grown (grownBy_sortedI _) (fun k hk h => h hk)⟩
end Go.Proofs.Ythplndalbfcbbaa
