/- A map's entry laid first, filled later ('a, m[k] = x, y'): a new key. Nothing of the program. -/
import Derived.WideKeyEntry
import Derived.Test.YtneecjikdghchaaDoorKeyMap
set_option linter.unusedVariables false
set_option linter.unusedSimpArgs false
namespace Go.Proofs.YtneecjikdghchaaDoor
open Go.RowKit Go.ChangeMaps Go.MapKept Go.WideShapes Go.ChangeShapes
section
variable {P : Program} {W : World} {b : Nat} {f f' : Value → Option Value} {k e t : TypeId}
theorem MapV.enter (h : MapV P k W b f) (K : Maps.Keyed P k) (ht : P.underlying t = some (.map k e)) {z : Value} (hz : (zeroValue e).run P W = .ok z W) {x : Value} {l : Lit} (hkey : keyOf P k x = some l) (hf : f x = none) (v : Value) (f1 : f' x = some v) (f2 : ∀ y, y ≠ x → f' y = f y) :
    ∃ (W1 : World) (c : Nat), (Instr.mapEntry t (.map (some b)) x).run P W = .ok (.tuple #[z, goInt c]) W1 ∧ Keep (fun c => c ≠ b) W W1 ∧
      ∃ W2, (Instr.entryStore t (.map (some b)) (goInt c) v).run P W1 = .ok () W2 ∧ MapV P k W2 b f' ∧ Keep (fun c => c ≠ b) W1 W2 := by
  obtain ⟨W', hrun', hm', -⟩ := h.store K ht hkey v f' f1 f2
  obtain ⟨es, clock, hb, hkeys, huniq, hval, hdom, hst⟩ := h
  have hkp : ∀ (W : World) (es : Array MapEntry) (clock : Nat), W.heap[b]? = some (.map es clock) → ∀ o, Keep (fun c => c ≠ b) W (setBlock W b o) := fun W es clock hb o => ⟨rfl, rfl, rfl, by simp [setBlock], fun i hi hne => heap_setBlock_other hb _ (fun e => hne (by rw [e]))⟩
  rcases K.find W hkey es.toList (fun e he => hkeys e he) with ⟨g1, g2⟩ | ⟨j, e0, g1, g2, g3⟩
  · have hW' : W' = setBlock W b (.map (es.push ⟨x, v, clock⟩) (clock + 1)) := by
      have : (Instr.mapUpdate t (.map (some b)) x v).run P W = .ok () (setBlock W b (.map (es.push ⟨x, v, clock⟩) (clock + 1))) := by
        simp [Instr.mapUpdate, run_underlying ht, MapKept.run_getObj_map hb, K.check W false hkey, g1, MapKept.run_setObj_map _ hb, Result.andThen, setBlock]
      rw [this] at hrun'
      simpa using hrun'.symm
    have hb1 := heap_setBlock_same hb (.map (es.push ⟨x, z, clock⟩) (clock + 1))
    refine ⟨setBlock W b (.map (es.push ⟨x, z, clock⟩) (clock + 1)), clock, ?_, hkp _ _ _ hb _, setBlock (setBlock W b (.map (es.push ⟨x, z, clock⟩) (clock + 1))) b (.map (es.push ⟨x, v, clock⟩) (clock + 1)), ?_, ?_, hkp _ _ _ hb1 _⟩
    · simp [Instr.mapEntry, run_underlying ht, MapKept.run_getObj_map hb, K.check W false hkey, g1, hz, MapKept.run_setObj_map _ hb, Result.andThen, setBlock]
    · obtain ⟨s1, s2, -⟩ := hst
      have hidx : (es.push ⟨x, z, clock⟩).findIdx? (fun e => ((e.born : Nat) : Int) == ((clock : Nat) : Int)) = some es.size := by
        rw [WideElems.findIdx_arr]
        have := WideElems.findIdx_born (l := (es.push ⟨x, z, clock⟩).toList) (j := es.size) (e0 := ⟨x, z, clock⟩) (by
          simp only [Array.toList_push, List.map_append, List.map_cons, List.map_nil]
          refine List.nodup_append.2 ⟨s2, by simp, fun a ha c hc e1 => ?_⟩
          simp only [List.mem_singleton] at hc
          obtain ⟨y, hy, rfl⟩ := List.mem_map.1 ha
          have := s1 y hy
          omega) (by simp)
        exact this
      have hmod : (es.push ⟨x, z, clock⟩).modify es.size (fun e => { e with val := v }) = es.push ⟨x, v, clock⟩ := by
        apply Array.ext'
        rw [Array.toList_modify, Array.toList_push, Array.toList_push, ← Array.length_toList, WideElems.modify_last]
      have hx : ∀ W1 : World, W1.heap[b]? = some (.map (es.push ⟨x, z, clock⟩) (clock + 1)) → (Instr.entryStore t (.map (some b)) (goInt clock) v).run P W1 = .ok () (setBlock W1 b (.map (es.push ⟨x, v, clock⟩) (clock + 1))) := fun W1 hb1 => by
        simp [Instr.entryStore, MapKept.run_getObj_map hb1, asInt, asIntOf, goInt, hidx, hmod, MapKept.run_setObj_map _ hb1, Result.andThen, setBlock]
      exact hx _ hb1
    · subst hW'
      obtain ⟨es', clock', hb', rest⟩ := hm'
      rw [heap_setBlock_same hb] at hb'
      simp only [Option.some.injEq, Obj.map.injEq] at hb'
      obtain ⟨rfl, rfl⟩ := hb'
      exact ⟨_, _, heap_setBlock_same hb1 _, rest⟩
  · have := hval e0 (List.mem_of_getElem? g2)
    rw [g3, hf] at this
    cases this
end
end Go.Proofs.YtneecjikdghchaaDoor
