/- The library's slices.Backward over terms, as an iterator. -/
import Derived.Shelf.Abstract
import Derived.Shelf.RegionOpen
import Derived.WalkKit
import Derived.OwnWalkIn
import Derived.TacticsInMore
import Derived.LoopNIn
import Derived.LoopIn
import Derived.Test.YtneecjikdghchaaDoorProg
import Derived.Test.YtneecjikdghchaaDoorIter
set_option linter.unusedSimpArgs false
set_option linter.unusedVariables false
namespace Go.Proofs.YtneecjikdghchaaDoor
open Go.RowKit Go.Shelf
attribute [local go_sem] Oper.semAt_some

theorem zip_step {β : Type} (rs : List β) (k : Nat) (hk : k < rs.length) : (rs.zipIdx.drop (k + 1)).reverse ++ [(rs[k], k)] = (rs.zipIdx.drop k).reverse := by
  have h : rs.zipIdx.drop k = (rs[k], k) :: rs.zipIdx.drop (k + 1) := by
    rw [List.drop_eq_getElem_cons (by simpa using hk)]; simp
  rw [h, List.reverse_cons]
theorem zip_pre {β : Type} (rs : List β) (k : Nat) : (rs.zipIdx.drop k).reverse <+: rs.zipIdx.reverse := by
  conv => rhs; rw [← List.take_append_drop k rs.zipIdx, List.reverse_append]
  exact List.prefix_append _ _
theorem pre_mem {β : Type} {pre : List β} {x : β} {xs : List β} (h : pre ++ [x] <+: xs) : x ∈ xs := h.subset (by simp)
theorem zip_next {β : Type} {pre : List (β × Nat)} {x : β × Nat} {rs : List β} (h : pre ++ [x] <+: rs.zipIdx.reverse) : ∃ hi : x.2 < rs.length, rs[x.2] = x.1 := by
  have hm := pre_mem h
  simp only [List.mem_reverse] at hm
  obtain ⟨i, hi, e⟩ := List.getElem_of_mem hm
  simp at e hi
  subst e
  exact ⟨hi, rfl⟩
def encT (x : (Int × Value) × Nat) : Array Value := #[.int .i64 x.2, .agg #[.int .i64 x.1.1, x.1.2]]

set_option maxHeartbeats 1000000 in
/-- The closure that slices.Backward hands back yields the slice's elements from behind. -/
theorem backT_seq (W0 : World) (S : Nat → Prop) (Bs : Nat) (a : Option Addr) (c : Nat) (rs : List (Int × Value)) (hS : S Bs)
    (hBs : W0.cell? ⟨Bs, 0, none⟩ = some (.slice a rs.length c)) (hl : rs.length ≤ 9223372036854775807)
    (hr : ∀ i (hi : i < rs.length), (∃ a' n' c', rs[i].2 = .slice a' n' c') ∧ ∃ b off, a = some ⟨b, off, none⟩ ∧ S b ∧ W0.cell? ⟨b, off + i * 2, none⟩ = some (.int .i64 rs[i].1) ∧ W0.cell? ⟨b, off + i * 2 + 1, none⟩ = some rs[i].2) :
    Seq Tryd.prog 60 #[.pointer (some ⟨Bs, 0, none⟩)] encT S rs.zipIdx.reverse W0 := by
  intro l J Jx W hk0 hJ hJx hY h0
  have hb0 := hk0.cell (p := ⟨Bs, 0, none⟩) hS hBs
  show CallsIn Fence.wide 0 Tryd.prog 60 #[.func (.yield l) #[] #[], .pointer (some ⟨Bs, 0, none⟩)] W _
  refine callsIn_of_wp Tryd.func60 rfl trivial ?_ rfl
  simp only [Tryd.ntmps60, List.size_toArray, List.length_cons, List.length_nil, Nat.reduceAdd, Nat.reduceSub, Array.replicate_succ, Array.replicate_zero, List.push_toArray, List.append_toArray, List.nil_append, List.cons_append]
  gi_wp2
  gi_loopw [3] (fun i wr => ∃ (x : Int) (k : Nat), i = .int .i64 x ∧ Hid (x = (k : Int) - 1) ∧ k ≤ rs.length ∧ J (fun _ => False) (rs.zipIdx.drop k).reverse wr ∧ Keep S W wr)
    (fun i _ => (intOf i + 1).toNat)
  case atStart => exact ⟨_, rs.length, rfl, hide rfl, Nat.le_refl _, by rw [List.drop_of_length_le (by simp)]; exact h0, Keep.refl _ _⟩
  case round =>
    obtain ⟨x, k, rfl, hx, hk, hJs, hkw⟩ := hrel
    have hxk := hx.out
    by_cases hlt : 0 < k
    · obtain ⟨k, rfl⟩ : ∃ m, k = m + 1 := ⟨k - 1, by omega⟩
      obtain rfl : x = (k : Int) := by omega
      clear hxk hx
      obtain ⟨⟨a', n', c', hs'⟩, b, off, rfl, hSb, hc1, hc2⟩ := hr k (by omega)
      have hc1' := (hk0.trans hkw).cell (p := ⟨b, off + k * 2, none⟩) hSb hc1
      have hc2' := (hk0.trans hkw).cell (p := ⟨b, off + k * 2 + 1, none⟩) hSb hc2
      have hbw := hkw.cell (p := ⟨Bs, 0, none⟩) hS hb0
      obtain ⟨fn, tmps, assign, body, hy, hR⟩ := hY (fun _ => False) _ (rs[k], k) wr (by rw [zip_step rs k (by omega)]; exact zip_pre _ _) (fun b hb => hb.elim) hkw hJs
      simp only [encT] at hy
      rw [zip_step rs k (by omega)] at hR
      rw [hs'] at hc2' hy
      clear hc1 hc2 hr
      gi_wp2
      refine ⟨rfl, hR.mono ?_⟩
      rintro e W3 ⟨hk3, ⟨rfl, hJ3⟩ | ⟨rfl, hJ3⟩⟩
      · gi_wp2
        go_roundw
        case rel => exact ⟨_, k, rfl, hide rfl, by omega, hJ3, hkw.trans (hk3.mono fun b _ hb => .inl hb)⟩
        case measure => simp [intOf]
      · gi_wp2
        refine bodyPost_ret (results_none rfl _ _ _) rfl ?_
        exact ⟨⟨_, rfl⟩, hkw.trans (hk3.mono fun b _ hb => .inl hb), (fun _ => False), fun b hb => False.elim hb, .inr ⟨_, zip_pre rs k, hJ3⟩⟩
    · obtain rfl : k = 0 := by omega
      have hx0 : x = -1 := by omega
      subst hx0
      clear hxk hx
      gi_wp2
      go_end0
      exact ⟨⟨_, rfl⟩, hkw, (fun _ => False), fun b hb => False.elim hb, .inl (by simpa using hJs)⟩

theorem backT_calls (s : Value) (hs : ∃ a n c, s = .slice a n c) (w : World) :
    Calls Tryd.prog 47 #[s] w fun e w' => e = .returned (.func (.func 60) #[] #[.pointer (some ⟨w.heap.size, 0, none⟩)]) ∧ w' = w.alloc (.cells #[s] 22) := by
  obtain ⟨a, n, c, rfl⟩ := hs
  go_enter Tryd.func47, Tryd.ntmps47
  go_wp2
  go_ret
  exact ⟨rfl, rfl⟩
end Go.Proofs.YtneecjikdghchaaDoor
