/- Maps that are sets of numbers; how many entries a map has. Nothing of the program. -/
import Derived.Test.YtneecjikdghchaaDoorDelI
import Derived.Test.YtneecjikdghchaaDoorKeyMap
set_option linter.unusedSimpArgs false
set_option linter.unusedVariables false
namespace Go.Proofs.YtneecjikdghchaaDoor
open Go.RowKit

section
variable {P : Program} {W W' : World} {b : Nat} {f : Int → Option Value} {k e t : TypeId}
open Go.MapKept Go.WideShapes Go.ChangeMaps Go.ChangeShapes
theorem MapAt.look1 (h : MapAt W b f) (hk : P.underlying k = some (.int .i64)) (ht : P.underlying t = some (.map k e)) {z : Value} (hz : (zeroValue e).run P W = .ok z W) {x : Int} (h0 : -9223372036854775808 ≤ x) (h1 : x ≤ 9223372036854775807) :
    (Instr.lookup t (.map (some b)) (.int .i64 x) false).run P W = .ok ((f x).getD z) W := by
  obtain ⟨es, clock, hb, hkeys, huniq, hval, hdom, hst⟩ := h
  have K := Maps.int_keyed (P := P) hk
  have hkey := Maps.keyOf_int_mk hk (wf_i64 h0 h1)
  rcases K.find W hkey es.toList (fun e he => by obtain ⟨y, hy, hy0, hy1⟩ := hkeys e he; rw [hy]; exact ⟨_, Maps.keyOf_int_mk hk (wf_i64 hy0 hy1)⟩) with ⟨g1, g2⟩ | ⟨j, e0, g1, g2, g3⟩
  · have hf : f x = none := by
      cases hfx : f x with
      | none => rfl
      | some v => obtain ⟨e, he, hek⟩ := hdom x v hfx; exact absurd hek (g2 e he)
    simp [Instr.lookup, run_underlying ht, MapKept.run_getObj_map hb, K.check W _ hkey, g1, hz, Result.andThen, hf]
  · have hf := hval e0 (List.mem_of_getElem? g2) x g3
    simp [Instr.lookup, run_underlying ht, MapKept.run_getObj_map hb, K.check W _ hkey, g1, Result.andThen, hf]
end
open Classical in
/-- A set of numbers, as a map of them has it. -/
noncomputable def setF (S : Int → Prop) : Int → Option Value := fun x => if S x then some (.bool true) else none
theorem setF_put (S : Int → Prop) (id : Int) : (fun y => if y = id then some (.bool true) else setF S y) = setF (fun x => x = id ∨ S x) := by
  funext y
  simp only [setF]
  by_cases h : y = id
  · simp [h]
  · by_cases hS : S y <;> simp [h, hS]
theorem setF_del (S : Int → Prop) (id : Int) : (fun y => if y = id then none else setF S y) = setF (fun x => x ≠ id ∧ S x) := by
  funext y
  simp only [setF]
  by_cases h : y = id
  · simp [h]
  · by_cases hS : S y <;> simp [h, hS]
theorem setF_none : setF (fun _ => False) = fun _ => none := by funext y; simp [setF]
theorem setF_iff {S : Int → Prop} {x : Int} : (∃ v, setF S x = some v) ↔ S x := by
  simp only [setF]
  by_cases h : S x <;> simp [h]
theorem setF_val {S : Int → Prop} {x : Int} {v : Value} (h : setF S x = some v) : v = .bool true := by
  simp only [setF] at h
  split at h
  · cases h; rfl
  · cases h
theorem perm_count {α β : Type} {l : List α} {g : α → β} {m : List β} (hl : (l.map g).Nodup) (hm : m.Nodup) (h : ∀ x, x ∈ l.map g ↔ x ∈ m) : l.length = m.length := by
  have := (List.perm_ext_iff_of_nodup hl hm).2 h
  simpa using this.length_eq
theorem MapAt.size {W : World} {b : Nat} {f : Int → Option Value} (h : MapAt W b f) {ids : List Int} (hn : ids.Nodup) (hd : ∀ x, x ∈ ids ↔ ∃ v, f x = some v) : ∃ es clock, W.heap[b]? = some (.map es clock) ∧ es.size = ids.length := by
  obtain ⟨es, clock, hb, hkeys, huniq, hval, hdom, hst⟩ := h
  refine ⟨es, clock, hb, ?_⟩
  have hk : (es.toList.map (·.key)).Nodup := by
    rw [List.Nodup, List.pairwise_map, List.pairwise_iff_getElem]
    intro i j hi hj hij e
    have := huniq i j _ _ (List.getElem?_eq_getElem hi) (List.getElem?_eq_getElem hj) e
    omega
  have hm : (ids.map fun x => Value.int .i64 x).Nodup := by
    rw [List.Nodup, List.pairwise_map]
    exact hn.imp fun h e => h (by cases e; rfl)
  have := perm_count (l := es.toList) (g := (·.key)) hk hm fun v => by
    simp only [List.mem_map]
    constructor
    · rintro ⟨e, he, rfl⟩
      obtain ⟨x, hx, -⟩ := hkeys e he
      exact ⟨x, (hd x).2 ⟨_, hval e he x hx⟩, hx.symm⟩
    · rintro ⟨x, hx, rfl⟩
      obtain ⟨v, hv⟩ := (hd x).1 hx
      obtain ⟨e, he, hk⟩ := hdom x v hv
      exact ⟨e, he, hk⟩
  simpa using this
end Go.Proofs.YtneecjikdghchaaDoor
