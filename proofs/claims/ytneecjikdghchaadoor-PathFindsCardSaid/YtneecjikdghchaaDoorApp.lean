/- append of what was just built, onto a row of the call's own; what it keeps. -/
import Derived.Maps.OwnIn
import Derived.Maps.AppendAt
import Derived.Deep.AppendLies
import Derived.Test.YtneecjikdghchaaDoorIter
set_option linter.unusedSimpArgs false
set_option linter.unusedVariables false
namespace Go.Proofs.YtneecjikdghchaaDoor
open Go.RowKit

theorem ownsRow_keep {w w' : World} {base : Nat} {e : TypeId} {size : Nat} {v : Value} {n : Nat} {xs : List Value} {S : Nat → Prop} (h : w.ownsRow base e size v n xs) (hk : Keep S w w') (hS : ∀ b, v.ownBlock = some b → S b) : w'.ownsRow base e size v n xs := by
  refine ⟨h.1, ?_⟩
  rcases h.2 with hn | ⟨g, cap, cur, rfl, hb, hgg, rest⟩
  · exact .inl hn
  · exact .inr ⟨g, cap, cur, rfl, hb, hk.obj (hS g rfl) hgg, rest⟩

section
variable {F : Fence} {nF : Nat} {P : Program} {W : World} {ops : Array Oper} {rest : List Oper} {o : Oper} {a : Act} {Q : Exit → Act → World → Prop}
theorem app_in (hgd : o.guard = none) (s x : Operand) (t : TypeId)
    (ho : o.op = .call { callee := .builtin .append, args := #[s, x], argTypes := #[t, t] }) (base : Nat) (e : TypeId) (z : Value) (size bytes : Nat) (ht : P.underlying t = some (.slice e))
    (hinfo : (P.info? e).map (fun i => (i.zero, i.size, i.bytes)) = some (some z, size, bytes)) (hzs : z.cells.size = size) (hsz : 0 < size) (h0 : 0 < bytes)
    (v : Value) (n : Nat) (xs : List Value) (hs : a.eval s = v) (hown : W.ownsRow base e size v n xs) (m c : Nat) (cs : Array Value) (hcs : cs.size = m * size) (h1 : ∀ u ∈ cs.toList, u.oneCell' = true)
    (hx : a.eval x = .slice (some ⟨W.heap.size, 0, none⟩) m c) (hbytes : (n + m) * bytes ≤ 140737488355328) (hbase : base ≤ W.heap.size)
    (h : ∀ v' w', w'.ownsRow base e size v' (n + m) (xs ++ cs.toList) → Keep (fun b => v.ownBlock ≠ some b) W w' → (∀ b, v'.ownBlock = some b → v.ownBlock = some b ∨ W.heap.size < b) → (∃ ad cap, v' = .slice ad (n + m) cap) → wpListIn F nF P ops Q rest (a.put o.dst v') w') :
    wpListIn F nF P ops Q (o :: rest) a (W.alloc (.cells cs e)) := by
  obtain ⟨i, hi, hz⟩ := Option.map_eq_some_iff.1 hinfo
  simp only [Prod.mk.injEq] at hz
  obtain ⟨hz0, hz1, hz2⟩ := hz
  have hnm : n + m ≤ 140737488355328 := Nat.le_trans (Nat.le_mul_of_pos_right _ h0) hbytes
  refine wpListIn_append_own_at (w := W.alloc (.cells cs e)) hgd s x t ho base e i z size bytes ht hi hz0 hz1 hz2 hzs hsz v n xs hs (hown.alloc _) ⟨W.heap.size, 0, none⟩ m c cs.toList hx (by simpa using hcs)
    (World.news_of_block (World.alloc_heap_new _ _)) h1 (by unfold maxLen; omega) hbytes (by simp; omega) ?_
  intro v' w' h2 h3 h4 h5
  have hk : Keep (fun b => v.ownBlock ≠ some b) W w' := ((Keep.refl _ _).alloc _).grown h3 (fun k hk h => h hk)
  refine h v' w' h2 hk (fun b hb => ?_) ?_
  · rcases h5 with h5 | h5
    · exact .inl (by rw [← h5]; exact hb)
    · rw [h5] at hb; cases hb; exact .inr (by simp)
  · rcases h2.2 with ⟨h6, h7⟩ | ⟨g, cap, cur, h6, _⟩
    · exact ⟨none, 0, by rw [h6, h7]⟩
    · exact ⟨_, _, h6⟩
theorem app_pl (hgd : o.guard = none) (s x : Operand) (t : TypeId)
    (ho : o.op = .call { callee := .builtin .append, args := #[s, x], argTypes := #[t, t] }) (base : Nat) (e : TypeId) (z : Value) (size bytes : Nat) (ht : P.underlying t = some (.slice e))
    (hinfo : (P.info? e).map (fun i => (i.zero, i.size, i.bytes)) = some (some z, size, bytes)) (hzs : z.cells.size = size) (hsz : 0 < size) (h0 : 0 < bytes)
    (v : Value) (n : Nat) (xs : List Value) (hs : a.eval s = v) (hown : W.ownsRow base e size v n xs) (m c : Nat) (cs : Array Value) (hcs : cs.size = m * size) (h1 : ∀ u ∈ cs.toList, u.oneCell' = true)
    (hx : a.eval x = .slice (some ⟨W.heap.size, 0, none⟩) m c) (hbytes : (n + m) * bytes ≤ 140737488355328) (hbase : base ≤ W.heap.size)
    (h : ∀ v' w', w'.ownsRow base e size v' (n + m) (xs ++ cs.toList) → Keep (fun b => v.ownBlock ≠ some b) W w' → (∀ b, v'.ownBlock = some b → v.ownBlock = some b ∨ W.heap.size < b) → (∃ ad cap, v' = .slice ad (n + m) cap) → wpList P ops Q rest (a.put o.dst v') w') :
    wpList P ops Q (o :: rest) a (W.alloc (.cells cs e)) := by
  obtain ⟨i, hi, hz⟩ := Option.map_eq_some_iff.1 hinfo
  simp only [Prod.mk.injEq] at hz
  obtain ⟨hz0, hz1, hz2⟩ := hz
  have hnm : n + m ≤ 140737488355328 := Nat.le_trans (Nat.le_mul_of_pos_right _ h0) hbytes
  refine wpList_append_own_at (w := W.alloc (.cells cs e)) hgd s x t ho base e i z size bytes ht hi hz0 hz1 hz2 hzs hsz v n xs hs (hown.alloc _) ⟨W.heap.size, 0, none⟩ m c cs.toList hx (by simpa using hcs)
    (World.news_of_block (World.alloc_heap_new _ _)) h1 (by unfold maxLen; omega) hbytes (by simp; omega) ?_
  intro v' w' h2 h3 h4 h5
  have hk : Keep (fun b => v.ownBlock ≠ some b) W w' := ((Keep.refl _ _).alloc _).grown h3 (fun k hk h => h hk)
  refine h v' w' h2 hk (fun b hb => ?_) ?_
  · rcases h5 with h5 | h5
    · exact .inl (by rw [← h5]; exact hb)
    · rw [h5] at hb; cases hb; exact .inr (by simp)
  · rcases h2.2 with ⟨h6, h7⟩ | ⟨g, cap, cur, h6, _⟩
    · exact ⟨none, 0, by rw [h6, h7]⟩
    · exact ⟨_, _, h6⟩
end
end Go.Proofs.YtneecjikdghchaaDoor
