/- A term's arguments, built one behind the other by append, in a region that draws its order. -/
import Derived.Deep.AppendLies
import Derived.Test.YtneecjikdghchaaDoorOwn
import Derived.Test.YtneecjikdghchaaDoorBox
import Derived.Test.YtneecjikdghchaaDoorDraw2
set_option linter.unusedSimpArgs false
set_option linter.unusedVariables false
namespace Go.Proofs.YtneecjikdghchaaDoor
open Go.RowKit

theorem Terms.bar {A B : Nat → Prop} {w : World} {s : Value} {ts : List Tm} (h : Terms A w s ts) (hB : ∀ b, b < w.heap.size → B b → A b) : Terms B w s ts := RepD.bar h hB
theorem IsTm.bar {A B : Nat → Prop} {w : World} {x : Int} {s : Value} {t : Tm} (h : IsTm A w x s t) (hB : ∀ b, b < w.heap.size → B b → A b) : IsTm B w x s t := ⟨h.1, h.2.bar hB⟩
theorem Binds.bar {A B : Nat → Prop} {w : World} {s : Value} {bs : List Bd} (h : Binds A w s bs) (hB : ∀ b, b < w.heap.size → B b → A b) : Binds B w s bs := RepD.bar h hB

section
variable {P : Program} {W : World} {o : Oper} {a : Act} {K : Act → World → Prop} {Q : Exit → Act → World → Prop} {A : Nat → Prop}
theorem app_op (s x : Operand) (t : TypeId) (ho : o.op = .call { callee := .builtin .append, args := #[s, x], argTypes := #[t, t] }) (base : Nat) (e : TypeId) (z : Value) (bytes : Nat)
    (ht : P.underlying t = some (.slice e)) (hinfo : (P.info? e).map (fun i => (i.zero, i.size, i.bytes)) = some (some z, 2, bytes)) (hzs : z.cells.size = 2)
    {v : Value} {ds : List D} {d : D} {c1 c2 : Value} (hs : a.eval s = v) (hx : a.eval x = .slice (some ⟨W.heap.size, 0, none⟩) 1 1) (hown : OwnD A W base e 2 v ds) (hd : RepD (fun b => A b ∨ v.ownBlock = some b) W d [c1, c2])
    (h1 : c1.oneCell' = true) (h2 : c2.oneCell' = true) (hn : ds.length + 1 ≤ maxLen) (hbytes : (ds.length + 1) * bytes ≤ 140737488355328) (hbase : base ≤ W.heap.size)
    (h : ∀ v' w', OwnD A w' base e 2 v' (ds ++ [d]) → Keep (fun b => v.ownBlock ≠ some b) W w' → (∃ ad cap, v' = .slice ad (ds.length + 1) cap) → K (a.put o.dst v') w') :
    Oper.wp P o a (W.alloc (.cells #[c1, c2] e)) K Q := by
  obtain ⟨i, hi, hz⟩ := Option.map_eq_some_iff.1 hinfo
  simp only [Prod.mk.injEq] at hz
  obtain ⟨hz0, hz1, hz2⟩ := hz
  obtain ⟨css, g1, g2, g3⟩ := hown
  refine wp_append_lies _ s x t ho base e i z 2 bytes ht hi hz0 hz1 hz2 hzs (by omega) v ds.length css.flatten hs (g1.alloc _) ⟨W.heap.size, 0, none⟩ 1 1 [c1, c2] hx rfl
    (World.news_of_block (cs := #[c1, c2]) (World.alloc_heap_new _ _)) (by simp [h1, h2]) (by omega) hn hbytes (by simp; omega) (W.heap.size + 1) (by simp) ?_
  intro g cap w' r1 r2 r3 r4
  have hk : Keep (fun b => v.ownBlock ≠ some b) W w' := ((Keep.refl _ _).alloc _).grown r2 (fun k hk h => h hk)
  have hf : ∀ c d, RepD (fun b => A b ∨ v.ownBlock = some b) W d c → RepD (fun b => A b ∨ (Value.slice (some ⟨g, 0, none⟩) (ds.length + 1) cap).ownBlock = some b) w' d c := fun c d h => h.frame (fun b hb hlt => hk.block b hlt (fun h => hb (.inr h))) (fun b hb h => by
    rcases h with h | h
    · exact .inl h
    · have e1 : g = b := by simpa [Value.ownBlock] using h
      rcases r3 with r3 | r3
      · exact .inr (by rw [r3, e1])
      · omega)
  refine h _ w' ⟨css ++ [[c1, c2]], by simpa using r1, fun c hc => ?_, (g3.imp hf).append (.cons (hf _ _ hd) .nil)⟩ hk ⟨_, _, rfl⟩
  rcases List.mem_append.1 hc with h | h
  · exact g2 c h
  · simp at h; rw [h]; rfl
end

/-- A term that is being built: its box, its arguments' row. -/
structure Build (A : Nat → Prop) (w W : World) (bo base e : Nat) (bt : TypeId) (h : Int) (v : Value) (ds : List D) : Prop where
  below : Below w.heap.size w W
  box : W.heap[bo]? = some (.cells #[.int .i64 h, v] bt (0, 0))
  own : OwnD (fun b => A b ∨ b = bo) W base e 2 v ds
  old : w.heap.size ≤ bo
  lt : bo < base
  base : base ≤ W.heap.size
section
variable {A : Nat → Prop} {w W W' : World} {bo base e : Nat} {bt : TypeId} {h : Int} {v : Value} {ds : List D}
theorem Build.ownlt (hb : Build A w W bo base e bt h v ds) : ∀ b, v.ownBlock = some b → base ≤ b ∧ b < W.heap.size := hb.own.lt
/-- In a later world. -/
theorem Build.later (hb : Build A w W bo base e bt h v ds) (hB : Below W.heap.size W W') : Build A w W' bo base e bt h v ds :=
  ⟨more_below hb.below hB, (hB.block bo (Array.getElem?_eq_some_iff.1 hb.box).1).trans hb.box, hb.own.below hB, hb.old, hb.lt, Nat.le_trans hb.base hB.size⟩
/-- Behind the append and the store. -/
theorem Build.step {v' : Value} {d : D} (hb : Build A w W bo base e bt h v ds) (hk : Keep (fun b => v.ownBlock ≠ some b) W W') (ho : OwnD (fun b => A b ∨ b = bo) W' base e 2 v' (ds ++ [d])) :
    Build A w (W'.setCell ⟨bo, 1, none⟩ v') bo base e bt h v' (ds ++ [d]) := by
  have hbo : v.ownBlock ≠ some bo := fun e => by have := hb.ownlt bo e; have := hb.lt; omega
  have hlt := hb.lt
  have hold := hb.old
  refine ⟨?_, box2_set1 (hk.obj hbo hb.box) v', ?_, hb.old, hb.lt, Nat.le_trans hb.base (by simpa [World.setCell] using hk.size)⟩
  · refine (hb.below.trans (hk.below (fun b hb' e => ?_) hb.below.size)).setCell (p := ⟨bo, 1, none⟩) hb.old v'
    have := hb.ownlt b e
    omega
  · refine ho.keep (S := fun b => b ≠ bo) ((Keep.refl _ _).setCell (p := ⟨bo, 1, none⟩) (by simp) v') (fun b _ hb' e => hb' (.inr e)) (fun b hb' e => ?_)
    have := ho.lt b hb'
    omega
/-- What the append leaves alone. -/
theorem Build.grow (hb : Build A w W bo base e bt h v ds) (hk : Keep (fun b => v.ownBlock ≠ some b) W W') : Below base W W' :=
  hk.below (fun b hb' e => by have := hb.ownlt b e; omega) hb.base
/-- Built. -/
theorem Build.terms {ts : List Tm} (hb : Build A w W bo base e bt h v (ts.map Tm.d)) (hA : ∀ b, A b → b < base) : Terms A W v ts := by
  have h1 := hb.lt
  refine (hb.own.terms (fun b h => ?_)).bar fun b _ h => .inl h
  rcases h with h | h
  · exact hA b h
  · omega
end
/-- A result laid into its box; one block more behind it. -/
theorem fin2 {A : Nat → Prop} {w w4 : World} {r : Nat} {x y s : Value} {t : TypeId} {ts : List Tm} (hB : Below w.heap.size w w4) (hr : w.heap.size ≤ r) (hx : w4.heap[r]? = some (.cells #[x, y] t (0, 0))) (hT : Terms (fun b => A b ∨ b = r) w4 s ts) (u : Value) (o : Obj) :
    Below w.heap.size w (((w4.setCell ⟨r, 0, none⟩ u).setCell ⟨r, 1, none⟩ s).alloc o) ∧ Terms A (((w4.setCell ⟨r, 0, none⟩ u).setCell ⟨r, 1, none⟩ s).alloc o) s ts ∧
      (((w4.setCell ⟨r, 0, none⟩ u).setCell ⟨r, 1, none⟩ s).alloc o).cell? ⟨r, 0, none⟩ = some u ∧ (((w4.setCell ⟨r, 0, none⟩ u).setCell ⟨r, 1, none⟩ s).alloc o).cell? ⟨r, 1, none⟩ = some s := by
  obtain ⟨q, q0, q1, -, -⟩ := box2 (box2_set hx u s)
  have hT2 : Terms A ((w4.setCell ⟨r, 0, none⟩ u).setCell ⟨r, 1, none⟩ s) s ts := (hT.keep (S := fun b => b ≠ r) (((Keep.refl _ w4).setCell (p := ⟨r, 0, none⟩) (by simp) u).setCell (p := ⟨r, 1, none⟩) (by simp) s) (fun b _ hb' e => hb' (.inr e))).bar fun _ _ h => .inl h
  refine ⟨(set2_below hB hr u s).alloc (by have := hB.size; simpa [World.setCell] using this) o, hT2.below ((Below.refl _ _).alloc (Nat.le_refl _) o), ?_, ?_⟩
  · exact (World.cell?_alloc_lt _ _ _ q).trans q0
  · exact (World.cell?_alloc_lt _ _ _ q).trans q1
end Go.Proofs.YtneecjikdghchaaDoor
