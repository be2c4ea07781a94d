/- The reference's layer 3: Check, Of, end. -/
import Derived.Test.YthplndalbfcbbaaRef3
import Derived.Test.YthplndalbfcbbaaBox
set_option linter.unusedSimpArgs false
set_option linter.unusedVariables false
namespace Go.Proofs.Ythplndalbfcbbaa
open Go.RowKit

def check3 (bs : List Bd) : Int := if rightBs bs then 0 else 1
theorem check3_calls (bs : List Bd) (A : Nat → Prop) (s : Value) (w : World) (hsz : ∀ b, b ∈ bs → b.t.size ≤ 1000000000) (hs : Binds A w s bs) :
    Calls Try.prog 33 #[s] w fun e w' => e = .returned (.int .i64 (check3 bs)) ∧ Below w.heap.size w w' := by
  obtain ⟨a, c, rfl, hlc, hc⟩ := hs.shape
  go_enter Try.func33, Try.ntmps33
  go_wp2_with fail
  refine (right3_calls bs A _ _ hsz hs).mono ?_
  rintro e w1 ⟨rfl, h1⟩
  cases hr : rightBs bs
  · have HR := hide hr
    clear hr
    go_wp2
    go_ret
    exact ⟨ret_int (by simp [check3, HR.out]), h1⟩
  · have HR := hide hr
    clear hr
    go_wp2
    go_ret
    exact ⟨ret_int (by simp [check3, HR.out]), h1⟩

/-- What stands for a variable: the first bind's, else itself. -/
def ofBs (v : Int) : List Bd → Tm
  | [] => .node (-1 - v) []
  | b :: bs => if b.v = v then b.t else ofBs v bs
theorem ofBs_drop (l : List Bd) (k : Nat) (h : k < l.length) (v : Int) : ofBs v (l.drop k) = if l[k].v = v then l[k].t else ofBs v (l.drop (k + 1)) := by
  rw [List.drop_eq_getElem_cons h]; simp [ofBs]
theorem of3_calls (bs : List Bd) (v : Int) (A : Nat → Prop) (s : Value) (w : World) (hv0 : 0 ≤ v) (hv1 : v ≤ 1000000000) (hs : Binds A w s bs) :
    Calls Try.prog 36 #[s, .int .i64 v] w fun e w' => ∃ s', e = .returned (.agg #[.int .i64 (ofBs v bs).h, s']) ∧ Terms A w' s' (ofBs v bs).args ∧ Below w.heap.size w w' := by
  obtain ⟨a, c, rfl, hlc, hc⟩ := hs.shape
  have hl : bs.length ≤ 9223372036854775807 := by omega
  have HG := hide (show ofBs v (bs.drop 0) = ofBs v bs by simp)
  go_enter Try.func36, Try.ntmps36
  go_wp2
  go_loopw [5] (fun i wr => ∃ (k : Nat), k ≤ bs.length ∧ i = .int .i64 k ∧ Hid (ofBs v (bs.drop k) = ofBs v bs) ∧ Below w.heap.size w wr ∧ w.heap.size < wr.heap.size ∧ wr.heap[w.heap.size]? = some (.cells #[.int .i64 0, .slice none 0 0] 25 (0, 0))) (fun i _ => bs.length - (intOf i).toNat)
  case atStart => exact ⟨0, by omega, rfl, HG, (Below.refl _ _).alloc (Nat.le_refl _) _, by simp, World.alloc_heap_new _ _⟩
  case round =>
    obtain ⟨k, hk, rfl, hx, hB, hsz, hcell⟩ := hrel
    by_cases hlt : k < bs.length
    · obtain ⟨b, off, a', c', rfl, hbs, hbA, g0, g1, g2, g3⟩ := hs.get k hlt
      have hc1 := (hB.cell (p := ⟨b, off + k * 3, none⟩) hbs).trans g0
      have hc2 := (hB.cell (p := ⟨b, off + k * 3 + 1, none⟩) hbs).trans g1
      have hc3 := (hB.cell (p := ⟨b, off + k * 3 + 2, none⟩) hbs).trans g2
      clear g0 g1 g2
      have hx2 := hx.out
      rw [ofBs_drop _ _ hlt] at hx2
      by_cases hv : bs[k].v = v
      · have HX := hide (show bs[k].t = ofBs v bs by rw [← hx2, if_pos hv])
        have hv' : (bs[k].v == v) = true := by simpa using hv
        clear hx hx2 hv
        obtain ⟨-, z0, z1, z2, z3⟩ := box2 hcell
        go_wp2
        obtain ⟨-, y0, y1, -, -⟩ := box2 (box2_set hcell (.int .i64 bs[k].t.h) (.slice a' bs[k].t.args.length c'))
        have hBe := set2_below hB (Nat.le_refl _) (.int .i64 bs[k].t.h) (.slice a' bs[k].t.args.length c')
        have hTe := g3.below hBe
        rw [HX.out] at y0 y1 hTe hBe ⊢
        exact bodyPost_ret (v := .agg #[.int .i64 (ofBs v bs).h, .slice a' (ofBs v bs).args.length c']) (by simp [results, Try.results36, go_sem, y0, y1]) rfl ⟨_, rfl, hTe, hBe⟩
      · have HX := hide (show ofBs v (bs.drop (k + 1)) = ofBs v bs by rw [← hx2, if_neg hv])
        have hv' : (bs[k].v == v) = false := by simpa using hv
        clear hx hx2 hv
        go_wp2
        go_roundw
        case rel => exact ⟨k + 1, by omega, by go_num, HX, hB, hsz, hcell⟩
        case measure => simp [intOf]; omega
    · have HX := hide (show Tm.node (-1 - v) [] = ofBs v bs by have := hx.out; rw [List.drop_of_length_le (by omega)] at this; simpa [ofBs] using this)
      clear hx
      go_wp2_with fail
      refine (var_calls v hv0 hv1 _).mono ?_
      rintro e w1 ⟨rfl, h1⟩
      have hcell1 := (h1.block _ hsz).trans hcell
      have hB1 := more_below hB h1
      clear h1 hB hcell
      obtain ⟨-, z0, z1, z2, z3⟩ := box2 hcell1
      go_wp2
      obtain ⟨-, y0, y1, -, -⟩ := box2 (box2_set hcell1 (.int .i64 (-1 - v)) (.slice none 0 0))
      exact bodyPost_ret (v := .agg #[.int .i64 (-1 - v), .slice none 0 0]) (by simp [results, Try.results36, go_sem, y0, y1]) rfl ⟨_, by rw [← HX.out]; rfl, by rw [← HX.out]; exact Terms.nil _ _, set2_below hB1 (Nat.le_refl _) _ _⟩
end Go.Proofs.Ythplndalbfcbbaa
