/- Going through a map with integer keys, whatever its elements. Nothing of the program. -/
import Derived.Maps.RangeWalk
import Derived.Test.YtneecjikdghchaaDoorKeys
set_option linter.unusedSimpArgs false
set_option linter.unusedVariables false
namespace Go.Proofs.YtneecjikdghchaaDoor
open Go.RowKit Go.MapKept Go.WideShapes Go.ChangeMaps Go.WideElems

/-- Iterator r is over the map b, which holds f; 'done' have come. -/
def RangeAt (W : World) (b r : Nat) (f : Int → Option Value) (dn : List Int) : Prop :=
  ∃ es clock since seen c0, W.heap[b]? = some (.map es clock) ∧ (∀ e ∈ es.toList, ∃ x : Int, e.key = .int .i64 x ∧ f x = some e.val) ∧ (∀ x v, f x = some v → ∃ e ∈ es.toList, e.key = .int .i64 x) ∧ MapKept.Stamped es clock ∧
    (∀ (e e' : MapEntry), e ∈ es.toList → e' ∈ es.toList → e.key = e'.key → e = e') ∧
    W.heap[r]? = some (.mapIter (some b) since seen c0) ∧ (∀ x ∈ es.toList, x.born < since) ∧ since ≤ c0 ∧ since ≤ clock ∧
    (∀ e ∈ es.toList, ∀ x : Int, e.key = .int .i64 x → (x ∈ dn ↔ seen.contains e.born = true)) ∧ dn.Nodup ∧ ∀ x ∈ dn, ∃ v, f x = some v
theorem RangeAt.ne {W : World} {b r : Nat} {f : Int → Option Value} {dn : List Int} (h : RangeAt W b r f dn) : r ≠ b := by
  obtain ⟨es, clock, since, seen, c0, h1, -, -, -, -, h2, -⟩ := h
  rintro rfl
  rw [h1] at h2
  cases h2
theorem RangeAt.keep {S : Nat → Prop} {W W' : World} {b r : Nat} {f : Int → Option Value} {dn : List Int} (h : RangeAt W b r f dn) (hk : Keep S W W') (hb : S b) (hr : S r) : RangeAt W' b r f dn := by
  obtain ⟨es, clock, since, seen, c0, h1, h2, h3, h4, h5, h6, h7⟩ := h
  exact ⟨es, clock, since, seen, c0, hk.obj hb h1, h2, h3, h4, h5, hk.obj hr h6, h7⟩
theorem RangeAt.below {W W' : World} {b r : Nat} {f : Int → Option Value} {dn : List Int} (h : RangeAt W b r f dn) (hB : Below W.heap.size W W') : RangeAt W' b r f dn := h.keep (S := fun _ => True) (.of_below hB) trivial trivial
theorem RangeAt.left_keep {S : Nat → Prop} {W W' : World} {b r : Nat} {f : Int → Option Value} {dn : List Int} (h : RangeAt W b r f dn) (hk : Keep S W W') (hb : S b) (hr : S r) : W'.rangeLeft b r = W.rangeLeft b r := by
  obtain ⟨es, clock, since, seen, c0, h1, h2, h3, h4, h5, h6, h7⟩ := h
  simp only [World.rangeLeft, hk.obj hb h1, hk.obj hr h6, h1, h6]
theorem MapAt.range {P : Program} {W : World} {b : Nat} {f : Int → Option Value} {t k e : TypeId} (h : MapAt W b f) (ht : P.underlying t = some (.map k e)) :
    ∃ o : Obj, (Instr.range t (.map (some b))).run P W = .ok (.pointer (some ⟨W.heap.size, 0, none⟩)) (W.alloc o) ∧ RangeAt (W.alloc o) b W.heap.size f [] := by
  have hlt := h.lt
  obtain ⟨es, clock, hb, hkeys, huniq, hval, hdom, hst⟩ := h
  refine ⟨_, run_range_map W t k e b es clock ht hb, es, clock, clock, #[], clock, ((MapKept.heap_alloc W _).2 b hlt).trans hb, fun e he => ?_, hdom, hst, fun e e' he he' hk => ?_, (MapKept.heap_alloc W _).1, hst.1, Nat.le_refl _, Nat.le_refl _, ?_, List.nodup_nil, by simp⟩
  · obtain ⟨x, hx, _⟩ := hkeys e he
    exact ⟨x, hx, hval e he x hx⟩
  · obtain ⟨i, hi⟩ := List.getElem?_of_mem he
    obtain ⟨j, hj⟩ := List.getElem?_of_mem he'
    have := huniq i j e e' hi hj hk
    subst this
    rw [hi] at hj
    cases hj
    rfl
  · intro e he x hx
    simp
theorem RangeAt.next {P : Program} {W : World} {b r : Nat} {f : Int → Option Value} {dn : List Int} (h : RangeAt W b r f dn) (ty : TypeId) :
    ((∀ x v, f x = some v → x ∈ dn) ∧ (Instr.next (.pointer (some ⟨r, 0, none⟩)) false ty).run P W = .ok (.tuple #[.bool false]) W) ∨
    ∃ x v w', f x = some v ∧ x ∉ dn ∧ (Instr.next (.pointer (some ⟨r, 0, none⟩)) false ty).run P W = .ok (.tuple #[.bool true, .int .i64 x, v]) w' ∧ RangeAt w' b r f (x :: dn) ∧ w'.rangeLeft b r < W.rangeLeft b r ∧ Keep (fun c => c ≠ r) W w' ∧
      (Instr.entry (.pointer (some ⟨r, 0, none⟩))).run P w' = .ok (.tuple #[.int .i64 x, v]) w' := by
  have hne := h.ne
  obtain ⟨es, clock, since, seen, c0, hb, hval, hdom, hst, huniq, hr, hold, hsc, hsk, hdn, hnd, hdf⟩ := h
  have hst' := (stamped_iff es clock).1 hst
  rcases run_next_at (P := P) W ty r b since c0 seen es clock hr hb hold hsc with ⟨h0, hrun⟩ | ⟨e, he, w1, hal, hrun⟩
  · refine Or.inl ⟨fun x v hv => ?_, hrun⟩
    obtain ⟨e, he, hek⟩ := hdom x v hv
    exact (hdn e he x hek).2 (all_seen es seen h0 e he)
  · obtain ⟨hem, hes⟩ := mem_left he
    obtain ⟨x, hx, hfx⟩ := hval e hem
    have hr1 : w1.heap[r]? = some (.mapIter (some b) since seen c0) := by rcases hal with rfl | rfl <;> exact hr
    have hb1 : w1.heap[b]? = some (.map es clock) := by rcases hal with rfl | rfl <;> exact hb
    have hset := heap_set (o' := .mapIter (some b) since (seen.push e.born) clock) hr1
    have hb' : (setBlock w1 r (.mapIter (some b) since (seen.push e.born) clock)).heap[b]? = some (.map es clock) := (hset.2 b (fun e1 => hne e1.symm)).trans hb1
    have hxd : x ∉ dn := fun hd => by rw [(hdn e hem x hx).1 hd] at hes; cases hes
    have hen := run_entry_at (P := P) _ r b since seen es clock e hset.1 hb' hem hst'.2.1
    rw [hx] at hrun hen
    refine Or.inr ⟨x, e.val, _, hfx, hxd, hrun,
      ⟨es, clock, since, seen.push e.born, clock, hb', hval, hdom, hst, huniq, hset.1, hold, hsk, hsk, fun e' he' y hy => ?_, List.nodup_cons.2 ⟨hxd, hnd⟩, fun y hy => ?_⟩, ?_, ?_, hen⟩
    · rw [contains_push, List.mem_cons, Bool.or_eq_true, hdn e' he' y hy]
      constructor
      · rintro (rfl | h1)
        · right
          rw [huniq e' e he' hem (hy.trans hx.symm)]
          simp
        · exact .inl h1
      · rintro (h1 | h1)
        · exact .inr h1
        · left
          have : e' = e := born_inj hst'.2.1 he' hem (by simpa using h1)
          subst this
          rw [hy] at hx
          cases hx
          rfl
    · rcases List.mem_cons.1 hy with rfl | hy
      · exact ⟨_, hfx⟩
      · exact hdf y hy
    · have e1 : (setBlock w1 r (.mapIter (some b) since (seen.push e.born) clock)).rangeLeft b r = (leftOf es (seen.push e.born)).size := by
        unfold World.rangeLeft
        have hs1 : (setBlock w1 r (.mapIter (some b) since (seen.push e.born) clock)).heap[r]? = some (.mapIter (some b) since (seen.push e.born) clock) := hset.1
        rw [hb', hs1]
      have e2 : W.rangeLeft b r = (leftOf es seen).size := by
        unfold World.rangeLeft
        rw [hb, hr]
      rw [e1, e2]
      exact left_shrinks es seen e he
    · rcases hal with rfl | rfl <;> exact ⟨rfl, rfl, rfl, by simp [setBlock], fun i _ hi => hset.2 i (fun e1 => hi (by rw [e1]))⟩
end Go.Proofs.YtneecjikdghchaaDoor
