/- delete, at a map with integer keys. Nothing of the program. -/
import Derived.Test.YtneecjikdghchaaDoorRangeI
set_option linter.unusedSimpArgs false
set_option linter.unusedVariables false
namespace Go.Proofs.YtneecjikdghchaaDoor
open Go.RowKit Go.MapKept Go.WideShapes Go.ChangeMaps Go.WideElems
theorem MapAt.delete {P : Program} {W : World} {b : Nat} {f : Int → Option Value} {k e t ty : TypeId} (h : MapAt W b f) (hk : P.underlying k = some (.int .i64)) (ht : P.underlying t = some (.map k e)) {x : Int} (h0 : -9223372036854775808 ≤ x) (h1 : x ≤ 9223372036854775807) :
    ∃ W', (Builtin.delete_ #[t, k] ty #[.map (some b), .int .i64 x]).run P W = .ok (.tuple #[]) W' ∧ MapAt W' b (fun y => if y = x then none else f y) ∧ Keep (fun c => c ≠ b) W W' := by
  obtain ⟨es, clock, hb, hkeys, huniq, hval, hdom, hst⟩ := h
  have K := Maps.int_keyed (P := P) hk
  have hkey := Maps.keyOf_int_mk hk (wf_i64 h0 h1)
  have hkp : ∀ o, Keep (fun c => c ≠ b) W (setBlock W b o) := fun o => ⟨rfl, rfl, rfl, by simp [setBlock], fun i hi hne => heap_setBlock_other hb _ (fun e => hne (by rw [e]))⟩
  rcases K.find W hkey es.toList (fun e he => by obtain ⟨y, hy, hy0, hy1⟩ := hkeys e he; rw [hy]; exact ⟨_, Maps.keyOf_int_mk hk (wf_i64 hy0 hy1)⟩) with ⟨g1, g2⟩ | ⟨j, e0, g1, g2, g3⟩
  · refine ⟨setBlock W b (.map es clock), ?_, ⟨es, clock, heap_setBlock_same hb _, hkeys, huniq, fun e he y hy => ?_, fun y v hv => ?_, hst⟩, hkp _⟩
    · simp [Builtin.delete_, run_underlying ht, MapKept.run_getObj_map hb, K.check W _ hkey, g1, MapKept.run_setObj_map _ hb, Result.andThen, setBlock]
    · have hne : y ≠ x := fun e1 => g2 e he (by rw [hy, e1])
      simp only [hne, if_false]
      exact hval e he y hy
    · simp only at hv
      split at hv
      · cases hv
      · exact hdom y v hv
  · have hjl : j < es.toList.length := (List.getElem?_eq_some_iff.1 g2).1
    have hjs : j < es.size := by simpa using hjl
    have hsub : (es.eraseIdxIfInBounds j).toList = es.toList.eraseIdx j := by
      unfold Array.eraseIdxIfInBounds
      rw [dif_pos hjs]
      simp
    have hmem : ∀ e, e ∈ es.toList.eraseIdx j ↔ e ∈ es.toList ∧ e.key ≠ .int .i64 x := fun e => by
      rw [List.mem_eraseIdx_iff_getElem?]
      constructor
      · rintro ⟨i, hne, hi⟩
        exact ⟨List.mem_of_getElem? hi, fun hk => hne (huniq i j e e0 hi g2 (by rw [hk, g3]))⟩
      · rintro ⟨he, hne⟩
        obtain ⟨i, hi⟩ := List.getElem?_of_mem he
        refine ⟨i, fun e1 => hne ?_, hi⟩
        rw [e1, g2] at hi
        cases hi
        exact g3
    refine ⟨setBlock W b (.map (es.eraseIdxIfInBounds j) clock), ?_, ⟨_, _, heap_setBlock_same hb _, fun e he => ?_, fun i i' e e' hi hi' hee => ?_, fun e he y hy => ?_, fun y v hv => ?_, stamped_erase hst j⟩, hkp _⟩
    · simp [Builtin.delete_, run_underlying ht, MapKept.run_getObj_map hb, K.check W _ hkey, g1, MapKept.run_setObj_map _ hb, Result.andThen, setBlock]
    · rw [hsub] at he
      exact hkeys e ((hmem e).1 he).1
    · rw [hsub] at hi hi'
      rw [List.getElem?_eraseIdx] at hi hi'
      split at hi <;> split at hi'
      · exact huniq i i' e e' hi hi' hee
      · have := huniq _ _ e e' hi hi' hee; omega
      · have := huniq _ _ e e' hi hi' hee; omega
      · have := huniq _ _ e e' hi hi' hee; omega
    · rw [hsub] at he
      obtain ⟨he1, hne⟩ := (hmem e).1 he
      have : y ≠ x := fun e1 => hne (by rw [hy, e1])
      simp only [this, if_false]
      exact hval e he1 y hy
    · simp only at hv
      split at hv
      · cases hv
      · next hne =>
        obtain ⟨e, he, hek⟩ := hdom y v hv
        refine ⟨e, ?_, hek⟩
        rw [hsub]
        exact (hmem e).2 ⟨he, fun h => hne (by rw [hek] at h; cases h; rfl)⟩
end Go.Proofs.YtneecjikdghchaaDoor
