/- A map, whatever its keys and elements: what it holds, read and written. Nothing of the program. -/
import Derived.Maps.OwnSet
import Derived.Test.YtneecjikdghchaaDoorDraw2
import Derived.Test.YtneecjikdghchaaDoorIter
set_option linter.unusedVariables false
set_option linter.unusedSimpArgs false
namespace Go.Proofs.YtneecjikdghchaaDoor
open Go.RowKit Go.ChangeMaps Go.MapKept Go.WideShapes Go.ChangeShapes

/-- Block b is a map that holds f. -/
def MapV (P : Program) (k : TypeId) (W : World) (b : Nat) (f : Value → Option Value) : Prop :=
  ∃ es clock, W.heap[b]? = some (.map es clock) ∧ (∀ e ∈ es.toList, ∃ l, keyOf P k e.key = some l) ∧
    (∀ (i j : Nat) (e e' : MapEntry), es.toList[i]? = some e → es.toList[j]? = some e' → e.key = e'.key → i = j) ∧
    (∀ e ∈ es.toList, f e.key = some e.val) ∧ (∀ x v, f x = some v → ∃ e ∈ es.toList, e.key = x) ∧ MapKept.Stamped es clock
section
variable {P : Program} {W W' : World} {b : Nat} {f : Value → Option Value} {k e t : TypeId}
theorem MapV.keep {S : Nat → Prop} (h : MapV P k W b f) (hk : Keep S W W') (hb : S b) : MapV P k W' b f := by
  obtain ⟨es, clock, h1, h2⟩ := h
  exact ⟨es, clock, hk.obj hb h1, h2⟩
theorem MapV.below (h : MapV P k W b f) (hB : Below W.heap.size W W') : MapV P k W' b f := h.keep (S := fun _ => True) (.of_below hB) trivial
theorem MapV.lt (h : MapV P k W b f) : b < W.heap.size := by
  obtain ⟨es, clock, h1, _⟩ := h
  exact (Array.getElem?_eq_some_iff.1 h1).1
theorem MapV.made (P : Program) (k : TypeId) (W : World) : MapV P k (W.alloc (.map #[] 0)) W.heap.size fun _ => none :=
  ⟨#[], 0, World.alloc_heap_new _ _, by simp, by simp, by simp, by simp, MapKept.stamped_empty 0⟩
/-- m[x], ok := .. -/
theorem MapV.look (h : MapV P k W b f) (K : Maps.Keyed P k) (ht : P.underlying t = some (.map k e)) {z : Value} (hz : (zeroValue e).run P W = .ok z W) {x : Value} {l : Lit} (hkey : keyOf P k x = some l) (ok : Bool) :
    (Instr.lookup t (.map (some b)) x ok).run P W = .ok (if ok then .tuple #[(f x).getD z, .bool (f x).isSome] else (f x).getD z) W := by
  obtain ⟨es, clock, hb, hkeys, huniq, hval, hdom, hst⟩ := h
  rcases K.find W hkey es.toList (fun e he => hkeys e he) with ⟨g1, g2⟩ | ⟨j, e0, g1, g2, g3⟩
  · have hf : f x = none := by
      cases hfx : f x with
      | none => rfl
      | some v => obtain ⟨e, he, hek⟩ := hdom x v hfx; exact absurd hek (g2 e he)
    cases ok <;> simp [Instr.lookup, run_underlying ht, MapKept.run_getObj_map hb, K.check W _ hkey, g1, hz, Result.andThen, hf]
  · have hf := hval e0 (List.mem_of_getElem? g2)
    rw [g3] at hf
    cases ok <;> simp [Instr.lookup, run_underlying ht, MapKept.run_getObj_map hb, K.check W _ hkey, g1, hz, Result.andThen, hf]
/-- m[x] = v -/
theorem MapV.store (h : MapV P k W b f) (K : Maps.Keyed P k) (ht : P.underlying t = some (.map k e)) {x : Value} {l : Lit} (hkey : keyOf P k x = some l) (v : Value) (f' : Value → Option Value) (f1 : f' x = some v) (f2 : ∀ y, y ≠ x → f' y = f y) :
    ∃ W', (Instr.mapUpdate t (.map (some b)) x v).run P W = .ok () W' ∧ MapV P k W' b f' ∧ Keep (fun c => c ≠ b) W W' := by
  obtain ⟨es, clock, hb, hkeys, huniq, hval, hdom, hst⟩ := h
  have hkp : ∀ o, Keep (fun c => c ≠ b) W (setBlock W b o) := fun o => ⟨rfl, rfl, rfl, by simp [setBlock], fun i hi hne => heap_setBlock_other hb _ (fun e => hne (by rw [e]))⟩
  rcases K.find W hkey es.toList (fun e he => hkeys e he) with ⟨g1, g2⟩ | ⟨j, e0, g1, g2, g3⟩
  · refine ⟨setBlock W b (.map (es.push ⟨x, v, clock⟩) (clock + 1)), ?_, ⟨_, _, heap_setBlock_same hb _, ?_, ?_, ?_, ?_, ?_⟩, hkp _⟩
    · simp [Instr.mapUpdate, run_underlying ht, MapKept.run_getObj_map hb, K.check W false hkey, g1, MapKept.run_setObj_map _ hb, Result.andThen, setBlock]
    · intro e he
      simp only [Array.toList_push, List.mem_append, List.mem_singleton] at he
      rcases he with he | rfl
      · exact hkeys e he
      · exact ⟨l, hkey⟩
    · intro i j e e' hi hj hee
      simp only [Array.toList_push, List.getElem?_append, List.getElem?_singleton] at hi hj
      split at hi <;> split at hj
      · exact huniq i j e e' hi hj hee
      · split at hj
        · cases hj; exact absurd hee (g2 e (List.mem_of_getElem? hi))
        · cases hj
      · split at hi
        · cases hi; exact absurd hee.symm (g2 e' (List.mem_of_getElem? hj))
        · cases hi
      · split at hi <;> split at hj <;> first | omega | (cases hi; done) | (cases hj; done)
    · intro e he
      simp only [Array.toList_push, List.mem_append, List.mem_singleton] at he
      rcases he with he | rfl
      · have hne : e.key ≠ x := g2 e he
        rw [f2 _ hne, hval e he]
      · exact f1
    · intro y u hu
      by_cases hyx : y = x
      · exact ⟨⟨x, v, clock⟩, by simp, by rw [hyx]⟩
      · rw [f2 _ hyx] at hu
        obtain ⟨e, he, hek⟩ := hdom y u hu
        exact ⟨e, by simp [he], hek⟩
    · exact MapKept.stamped_push hst fun e he h => g2 e he h
  · have hj : es[j]? = some e0 := by simpa using g2
    have hjl : j < es.toList.length := (List.getElem?_eq_some_iff.1 g2).1
    have hlist : (es.modify j (fun e' => { e' with key := x, val := v })).toList = es.toList.set j { e0 with key := x, val := v } := by
      apply List.ext_getElem?
      intro i
      simp only [Array.toList_modify, List.getElem?_modify, List.getElem?_set]
      by_cases hij : j = i
      · subst hij; simp [g2, hjl]; simpa using hjl
      · simp [hij]
    refine ⟨setBlock W b (.map (es.modify j (fun e' => { e' with key := x, val := v })) clock), ?_, ⟨_, _, heap_setBlock_same hb _, ?_, ?_, ?_, ?_, ?_⟩, hkp _⟩
    · simp [Instr.mapUpdate, run_underlying ht, MapKept.run_getObj_map hb, K.check W false hkey, g1, hj, g3, K.stays W hkey, MapKept.run_setObj_map _ hb, Result.andThen, setBlock]
    · intro e he
      rw [hlist] at he
      rcases List.mem_or_eq_of_mem_set he with he | rfl
      · exact hkeys e he
      · exact ⟨l, hkey⟩
    · intro i i' e e' hi hi' hee
      rw [hlist, List.getElem?_set] at hi hi'
      split at hi <;> split at hi'
      · omega
      · rename_i c1 c2
        simp [c1 ▸ hjl] at hi
        subst hi
        have := huniq j i' e0 e' g2 hi' (by rw [g3]; exact hee)
        omega
      · rename_i c1 c2
        simp [c2 ▸ hjl] at hi'
        subst hi'
        have := huniq i j e e0 hi g2 (by rw [g3]; exact hee)
        omega
      · exact huniq i i' e e' hi hi' hee
    · intro e he
      rw [hlist] at he
      obtain ⟨i, hi, rfl⟩ := List.getElem_of_mem he
      rw [List.getElem_set]
      split
      · exact f1
      · rename_i c1
        have hi' : i < es.toList.length := by simpa using hi
        have hne : es.toList[i].key ≠ x := fun e1 => c1 (huniq j i e0 es.toList[i] g2 (List.getElem?_eq_getElem hi') (by rw [g3, e1]))
        have := hval es.toList[i] (List.getElem_mem hi')
        rw [f2 _ hne, this]
    · intro y u hu
      rw [hlist]
      by_cases hyx : y = x
      · exact ⟨{ e0 with key := x, val := v }, List.mem_set hjl _, by rw [hyx]⟩
      · rw [f2 _ hyx] at hu
        obtain ⟨e, he, hek⟩ := hdom y u hu
        obtain ⟨i, hi, rfl⟩ := List.getElem_of_mem he
        have hne : j ≠ i := fun e1 => by
          subst e1
          have : es.toList[j] = e0 := by rw [List.getElem?_eq_getElem hi] at g2; exact Option.some.inj g2
          rw [this, g3] at hek
          exact hyx hek.symm
        exact ⟨es.toList[i], List.mem_iff_getElem?.2 ⟨i, by rw [List.getElem?_set_ne hne]; exact List.getElem?_eq_getElem hi⟩, hek⟩
    · refine MapKept.stamped_modify hst j _ (fun e _ => rfl) fun e he h => ?_
      rw [hj] at h
      cases h
      exact g3.symm
end
end Go.Proofs.YtneecjikdghchaaDoor
