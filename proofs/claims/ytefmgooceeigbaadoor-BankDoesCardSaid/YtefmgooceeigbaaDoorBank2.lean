/- bank: table.find, walked. -/
import Derived.Test.YtefmgooceeigbaaDoorBank1
set_option linter.unusedSimpArgs false
set_option linter.unusedVariables false
namespace Go.Proofs.YtefmgooceeigbaaDoor
open Go.RowKit

theorem keyV_key {r : Rw} (h : RwOk r) : keyOf Tryd.prog 9 (keyV r) = some (.string (⟨(keyL r).toArray⟩ : ByteArray).data.toList) := by
  refine WideMaps.keyOf_string_mk Tryd.underlying9 ?_
  rw [size_list]
  have := keyL_len h
  have := h.n
  unfold maxLen
  omega
def numV (o : Option Nat) : Int := ((o.getD 0 : Nat) : Int)
theorem zeroInt (W : World) : (zeroValue 3).run Tryd.prog W = .ok (.int .i64 0) W := by kernel_rfl
theorem BankAt.look {w : World} {A : Nat → Prop} {xb mb : Nat} {R : List Rw} {rv : Value} {f : Value → Option Value} {base : Nat} (h : BankAt w A xb mb R rv f base) {r : Rw} (hr : RwOk r) :
    (Instr.lookup 57 (.map (some mb)) (keyV r) true).run Tryd.prog w = .ok (.tuple #[.int .i64 (numV (idx R r)), .bool (idx R r).isSome]) w := by
  have h1 := h.m.look (Maps.string_keyed Tryd.underlying9) Tryd.underlying57 (zeroInt w) (keyV_key hr) true
  rw [if_pos rfl, h.get r] at h1
  rw [h1]
  cases idx R r <;> rfl

set_option maxHeartbeats 2000000 in
set_option maxRecDepth 100000 in
theorem tfind_calls (A : Nat → Prop) (xb mb : Nat) (R : List Rw) (rv : Value) (f : Value → Option Value) (base : Nat) (r : Rw) (B : Nat → Prop) (s : Value) (w : World) (hr : RwOk r) (ht : tabB base w) (hx : BankAt w A xb mb R rv f base) (hs : Ints B w s (zs r.2)) :
    Calls Tryd.prog 34 #[.pointer (some ⟨xb, 0, none⟩), .agg #[.int .i64 r.1, s]] w fun e w' => e = .returned (.tuple #[.int .i64 (numV (idx R r)), .bool (idx R r).isSome]) ∧ Below w.heap.size w w' := by
  obtain ⟨-, q0, q1, -, -⟩ := box2 hx.x
  have HR := hide hr
  have HBA := hide (show base ≤ w.heap.size by have := hx.lt xb (.inl rfl); omega)
  have h0 : Below w.heap.size w (w.alloc (.cells #[.int .i64 r.1, s] 64)) := (Below.refl _ _).alloc (Nat.le_refl _) _
  have HX := hide (hx.below h0)
  have HS := hide (hs.below h0)
  have HT := hide (ht.on (h0.mono HBA.out))
  have HB := hide h0
  have HK := hide (World.alloc_heap_new w (.cells #[.int .i64 r.1, s] 64))
  have hxl := (Array.getElem?_eq_some_iff.1 hx.x).1
  clear hr ht hx hs h0
  go_enter Tryd.func34, Tryd.ntmps34
  go_wp2
  generalize w.alloc (.cells #[.int .i64 r.1, s] 64) = W at *
  refine drawn_tree (fun W => W.cell? ⟨xb, 1, none⟩ = some (.map (some mb)) ∧ W.cell? ⟨w.heap.size, 0, none⟩ = some (.int .i64 r.1) ∧ W.cell? ⟨w.heap.size, 1, none⟩ = some s) (.take 0 (.take 1 (.take 2 (.take 3 (.take 4 (.one 5 (.one 6 (.take 7 (.take 8 (.take 9 (.take 10 (.take 11 .done)))))))))))) (by kernel_rfl) (by kernel_rfl) (by kernel_rfl) (by kernel_rfl) (fun _ _ _ _ _ h => h) ?_ ?_
  · obtain ⟨-, z0, z1, -, -⟩ := box2 HK.out
    obtain ⟨-, y0, y1, -, -⟩ := box2 HX.out.x
    exact ⟨y1, z0, z1⟩
  have g0 := (Below.refl W.heap.size W).drew
  have HX0 := hide (HX.out.below g0)
  have HS0 := hide (HS.out.below g0)
  have HT0 := hide (HT.out.on (g0.mono (Nat.le_trans HBA.out HB.out.size)))
  have HB0 := hide (HB.out.trans (g0.mono HB.out.size))
  have HK0 := hide ((g0.block _ (Array.getElem?_eq_some_iff.1 HK.out).1).trans HK.out)
  have hW : W.heap.size = W.drew.heap.size := rfl
  clear g0 HX HS HT HB HK q0 q1
  generalize W.drew = W0 at *
  iterate 5 (refine t_take (v := ?_) rfl (by rfl) ?_ ?_; rotate_left; (intro w hS; obtain ⟨hS1, hS2, hS3⟩ := hS; go_simp; try with_reducible rfl); simp only [Act.put, List.setIfInBounds_toArray, List.set_cons_zero, List.set_cons_succ])
  refine t_one rfl (by rfl) ?_
  intro K hK
  go_simp
  refine (key_calls r B s base W0 HR.out HT0.out (Nat.le_trans HBA.out HB0.out.size) HS0.out).mono ?_
  rintro e wa ⟨rfl, ba⟩
  have HXA := hide (HX0.out.below ba)
  have HBA' := hide (HB0.out.trans (ba.mono HB0.out.size))
  have HKA := hide ((ba.block _ (Array.getElem?_eq_some_iff.1 HK0.out).1).trans HK0.out)
  have HSA := hide (show wa.cell? ⟨xb, 1, none⟩ = some (.map (some mb)) ∧ wa.cell? ⟨w.heap.size, 0, none⟩ = some (.int .i64 r.1) ∧ wa.cell? ⟨w.heap.size, 1, none⟩ = some s by
    obtain ⟨-, z0, z1, -, -⟩ := box2 HKA.out
    obtain ⟨-, y0, y1, -, -⟩ := box2 HXA.out.x
    exact ⟨y1, z0, z1⟩)
  refine hK.out _ _ HSA.out ?_
  clear hK K ba HX0 HS0 HT0 HB0 HK0
  refine t_one rfl (by rfl) ?_
  intro K hK
  have hlook := HXA.out.look HR.out
  go_simp
  refine hK.out _ _ HSA.out ?_
  clear hK K hlook
  iterate 5 (refine t_take (v := ?_) rfl (by rfl) ?_ ?_; rotate_left; (intro w hS; obtain ⟨hS1, hS2, hS3⟩ := hS; go_simp; try with_reducible rfl); simp only [Act.put, List.setIfInBounds_toArray, List.set_cons_zero, List.set_cons_succ])
  refine t_done ?_
  go_wp2
  go_ret2
  exact ⟨rfl, HBA'.out⟩
end Go.Proofs.YtefmgooceeigbaaDoor
