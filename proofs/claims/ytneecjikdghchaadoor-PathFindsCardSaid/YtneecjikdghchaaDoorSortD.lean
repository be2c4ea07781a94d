/- slices.Sort at a row of numbers of the call's own. -/
import Derived.Sort.OwnSortedInts
import Derived.Lib.RowBridge
import Derived.Test.YtneecjikdghchaaDoorShelfD
import Derived.Test.YtneecjikdghchaaDoorJoin
set_option linter.unusedSimpArgs false
set_option linter.unusedVariables false
namespace Go.Proofs.YtneecjikdghchaaDoor
open Go.RowKit Go.Sort

def leI : Int → Int → Bool := fun x y => decide (x ≤ y)
def sortI (l : List Int) : List Int := l.mergeSort fun x y => decide (x ≤ y)
theorem sortI_length (l : List Int) : (sortI l).length = l.length := by simp [sortI]
theorem sortI_mem (l : List Int) (v : Int) : v ∈ sortI l ↔ v ∈ l := by simp [sortI]
theorem sortI_sorted (l : List Int) : (sortI l).Pairwise (· ≤ ·) := by
  have := List.pairwise_mergeSort (le := fun x y : Int => decide (x ≤ y)) (fun a b c h1 h2 => by simp at *; omega) (fun a b => by simp; omega) l
  exact this.imp fun h => by simpa using h

theorem sort_own (l : List Int) (base e : Nat) (v : Value) (W : World) (hl : l.length ≤ 1000000) (h : W.ownsRow base e 1 v l.length (l.map (Value.int .i64))) :
    Calls Tryd.prog 50 #[v] W fun en w' => en = .returned (.tuple #[]) ∧ w'.ownsRow base e 1 v l.length ((sortI l).map (Value.int .i64)) ∧ Keep (fun b => v.ownBlock ≠ some b) W w' := by
  have h' := h
  rcases h.2 with ⟨hv, h0⟩ | ⟨g, cap, cur, hv, hg, hh, hn, hm, hs, ht⟩
  · have hl0 : l = [] := List.eq_nil_of_length_eq_zero h0
    subst hl0 hv
    refine (Tryd.slices_Sort_int_none none 0 W).mono ?_
    rintro en w' ⟨rfl, rfl⟩
    exact ⟨rfl, by simpa [sortI] using h', Keep.refl _ _⟩
  · have hlt : g < W.heap.size := (Array.getElem?_eq_some_iff.1 hh).1
    rw [Nat.mul_one] at ht
    have hH := holds_of_blockI hh ht
    subst hv
    refine (Tryd.slices_Sort_int g 0 cap l W hH hlt (by omega)).mono ?_
    rintro en w' ⟨rfl, n, os, rfl⟩
    exact ⟨rfl, ownsRow_sortedI (sortI_length l) hg hh hn hm hs, (Keep.refl _ _).grown (grownBy_sortedI _) (fun k hk h => h hk)⟩

end Go.Proofs.YtneecjikdghchaaDoor
