/- What the proof of the law rests on: contracts of the functions, plain laws, and words. -/
import Derived.Test.YthplndalbfcbbaaKMatchUnifiesXBind
set_option linter.unusedSimpArgs false
set_option linter.unusedVariables false
namespace Go.Proofs.Ythplndalbfcbbaa
open Go.RowKit
def Pd (p : Tm × Tm) : D := .agg [p.1.d, p.2.d]
theorem repPd {A : Nat → Prop} {w : World} {p : Tm × Tm} {cs : List Value} : RepD A w (Pd p) cs ↔ ∃ s1 s2, cs = [.int .i64 p.1.h, s1, .int .i64 p.2.h, s2] ∧ Terms A w s1 p.1.args ∧ Terms A w s2 p.2.args := by
  simp only [Pd, RepD, RepL]
  constructor
  · rintro ⟨c1, c2, rfl, h1, c3, c4, rfl, h2, rfl⟩
    obtain ⟨s1, rfl, h3⟩ := repTm.1 h1
    obtain ⟨s2, rfl, h4⟩ := repTm.1 h2
    exact ⟨s1, s2, by simp, h3, h4⟩
  · rintro ⟨s1, s2, rfl, h1, h2⟩
    exact ⟨[.int .i64 p.1.h, s1], [.int .i64 p.2.h, s2], rfl, repTm.2 ⟨s1, rfl, h1⟩, [.int .i64 p.2.h, s2], [], by simp, repTm.2 ⟨s2, rfl, h2⟩, rfl⟩
section
variable {P : Program} {W : World} {o : Oper} {a : Act} {K : Act → World → Prop} {Q : Exit → Act → World → Prop} {A : Nat → Prop}
theorem app_op4 (s x : Operand) (t : TypeId) (ho : o.op = .call { callee := .builtin .append, args := #[s, x], argTypes := #[t, t] }) (base : Nat) (e : TypeId) (z : Value) (bytes : Nat)
    (ht : P.underlying t = some (.slice e)) (hinfo : (P.info? e).map (fun i => (i.zero, i.size, i.bytes)) = some (some z, 4, bytes)) (hzs : z.cells.size = 4)
    {v : Value} {ds : List D} {d : D} {c1 c2 c3 c4 : Value} (hs : a.eval s = v) (hx : a.eval x = .slice (some ⟨W.heap.size, 0, none⟩) 1 1) (hown : OwnD A W base e 4 v ds) (hd : RepD (fun b => A b ∨ v.ownBlock = some b) W d [c1, c2, c3, c4])
    (h1 : c1.oneCell' = true) (h2 : c2.oneCell' = true) (h3 : c3.oneCell' = true) (h4 : c4.oneCell' = true) (hn : ds.length + 1 ≤ maxLen) (hbytes : (ds.length + 1) * bytes ≤ 140737488355328) (hbase : base ≤ W.heap.size)
    (h : ∀ v' w', OwnD A w' base e 4 v' (ds ++ [d]) → Keep (fun b => v.ownBlock ≠ some b) W w' → (∀ b, v'.ownBlock = some b → v.ownBlock = some b ∨ W.heap.size ≤ b) → K (a.put o.dst v') w') :
    Oper.wp P o a (W.alloc (.cells #[c1, c2, c3, c4] e)) K Q := by
  obtain ⟨i, hi, hz⟩ := Option.map_eq_some_iff.1 hinfo
  simp only [Prod.mk.injEq] at hz
  obtain ⟨hz0, hz1, hz2⟩ := hz
  obtain ⟨css, g1, g2, g3⟩ := hown
  refine wp_append_lies _ s x t ho base e i z 4 bytes ht hi hz0 hz1 hz2 hzs (by omega) v ds.length css.flatten hs (g1.alloc _) ⟨W.heap.size, 0, none⟩ 1 1 [c1, c2, c3, c4] hx rfl
    (World.news_of_block (cs := #[c1, c2, c3, c4]) (World.alloc_heap_new _ _)) (by simp [h1, h2, h3, h4]) (by omega) hn hbytes (by simp; omega) (W.heap.size + 1) (by simp) ?_
  intro g cap w' r1 r2 r3 r4
  have hk : Keep (fun b => v.ownBlock ≠ some b) W w' := ((Keep.refl _ _).alloc _).grown r2 (fun k hk h => h hk)
  have hf : ∀ c d, RepD (fun b => A b ∨ v.ownBlock = some b) W d c → RepD (fun b => A b ∨ (Value.slice (some ⟨g, 0, none⟩) (ds.length + 1) cap).ownBlock = some b) w' d c := fun c d h => h.frame (fun b hb hlt => hk.block b hlt (fun h => hb (.inr h))) (fun b hb h => by
    rcases h with h | h
    · exact .inl h
    · have e1 : g = b := by simpa [Value.ownBlock] using h
      rcases r3 with r3 | r3
      · exact .inr (by rw [r3, e1])
      · omega)
  refine h _ w' ⟨css ++ [[c1, c2, c3, c4]], by simpa using r1, fun c hc => ?_, (g3.imp hf).append (.cons (hf _ _ hd) .nil)⟩ hk (fun b hb => ?_)
  · rcases List.mem_append.1 hc with h | h
    · exact g2 c h
    · simp at h; rw [h]; rfl
  · have e1 : g = b := by simpa [Value.ownBlock] using hb
    rcases r3 with r3 | r3
    · exact .inl (by rw [r3, e1])
    · exact .inr (by omega)
end
structure StackAt (A : Nat → Prop) (sb stb : Nat) (w : World) (v : Value) (ps : List (Tm × Tm)) : Prop where
  cell : w.heap[stb]? = some (.cells #[v] 183 (0, 0))
  own : OwnD (OldA sb A) w (stb + 1) 185 4 v (ps.map Pd)
theorem StackAt.keep {A S : Nat → Prop} {sb stb : Nat} {w w' : World} {v : Value} {ps : List (Tm × Tm)} (h : StackAt A sb stb w v ps) (hk : Keep S w w') (h1 : S stb) (h2 : ∀ b, b < sb → S b) (h3 : ∀ b, v.ownBlock = some b → S b) : StackAt A sb stb w' v ps :=
  ⟨hk.obj h1 h.cell, h.own.keep hk (fun b _ hb => h2 b (by simp only [OldA, not_or] at hb; omega)) h3⟩
theorem StackAt.below {A : Nat → Prop} {sb stb : Nat} {w w' : World} {v : Value} {ps : List (Tm × Tm)} (h : StackAt A sb stb w v ps) (hB : Below w.heap.size w w') : StackAt A sb stb w' v ps :=
  h.keep (S := fun _ => True) (.of_below hB) trivial (fun _ _ => trivial) (fun _ _ => trivial)
def PutPost (A : Nat → Prop) (sb stb : Nat) (v : Value) (ps : List (Tm × Tm)) (xs ys : List Tm) (w : World) (e : Ending) (w' : World) : Prop :=
  e = .returned (.tuple #[]) ∧ ∃ v', StackAt A sb stb w' v' (ps ++ (xs.zip ys).reverse) ∧ Keep (fun b => b ≠ stb ∧ v.ownBlock ≠ some b) w w'
theorem zip_drop {xs ys : List Tm} {k : Nat} (h : k < xs.length) (hl : xs.length = ys.length) : ((xs.zip ys).drop k).reverse = ((xs.zip ys).drop (k + 1)).reverse ++ [(xs[k], ys[k])] := by
  have hk : k < (xs.zip ys).length := by simp; omega
  rw [List.drop_eq_getElem_cons hk, List.reverse_cons, List.getElem_zip]
set_option maxHeartbeats 4000000 in
set_option maxRecDepth 100000 in
theorem putp_calls (A : Nat → Prop) (sb stb : Nat) (v : Value) (ps : List (Tm × Tm)) (xs ys : List Tm) (s1 s2 : Value) (w : World) (hsb : sb ≤ stb) (hl : xs.length = ys.length) (hn : ps.length + xs.length ≤ 1000000000) (hst : StackAt A sb stb w v ps) (ha : Terms (OldA sb A) w s1 xs) (hb : Terms (OldA sb A) w s2 ys) :
    Calls Try.prog 152 #[s1, s2, .pointer (some ⟨stb, 0, none⟩)] w fun e w' => PutPost A sb stb v ps xs ys w e w' := by
  obtain ⟨a1, c1, rfl, hc1, hc1'⟩ := ha.shape
  obtain ⟨a2, c2, rfl, hc2, hc2'⟩ := hb.shape
  have HA := hide ha
  have HB := hide hb
  have HL := hide hl
  have HST0 := hide hst
  clear ha hb hl hst
  have hstl : stb < w.heap.size := (Array.getElem?_eq_some_iff.1 HST0.out.cell).1
  go_enter Try.func152, Try.ntmps152
  go_wp2
  go_loopw [5] (fun i wr => ∃ (k : Nat) (v' : Value), k ≤ xs.length ∧ i = .int .i64 ((k : Int) - 1) ∧ StackAt A sb stb wr v' (ps ++ ((xs.zip ys).drop k).reverse) ∧ Keep (fun b => b ≠ stb ∧ v.ownBlock ≠ some b) w wr ∧ (∀ b, v'.ownBlock = some b → v.ownBlock = some b ∨ w.heap.size ≤ b)) (fun i _ => (intOf i + 1).toNat)
  case atStart => exact ⟨xs.length, v, Nat.le_refl _, rfl, by rw [List.drop_eq_nil_of_le (by rw [List.length_zip, HL.out]; omega)]; simpa using HST0.out, Keep.refl _ _, fun b h => .inl h⟩
  case round =>
    obtain ⟨k, v', hk, rfl, hso, hkp, hob⟩ := hrel
    have hsl := hso.cell
    obtain ⟨hlw, y0, y1⟩ := box1 hsl
    have HSO := hide hso
    have HKP := hide hkp
    have HOB := hide hob
    clear hso hkp hob
    by_cases h0 : 0 < k
    · obtain ⟨k, rfl⟩ : ∃ m, k = m + 1 := ⟨k - 1, by omega⟩
      have hlt : k < xs.length := by omega
      have hlt2 : k < ys.length := by have := HL.out; omega
      obtain ⟨bx, ox, ax, cx, rfl, hbx, hbxA, g0, g1, g2⟩ := HA.out.get k hlt
      obtain ⟨by_, oy, ay, cy, rfl, hby, hbyA, e0, e1, e2⟩ := HB.out.get k hlt2
      have hbx1 : bx < sb := by simp only [OldA, not_or] at hbxA; omega
      have hby1 : by_ < sb := by simp only [OldA, not_or] at hbyA; omega
      have HKK := hide (show Keep (fun b => b < sb) w wr from HKP.out.mono fun b _ hb => ⟨by omega, fun e => by
        have := (HST0.out.own.lt b e).1; omega⟩)
      have l0 := HKK.out.cell (p := ⟨bx, ox + k * 2, none⟩) hbx1 g0
      have l1 := HKK.out.cell (p := ⟨bx, ox + k * 2 + 1, none⟩) hbx1 g1
      have m0 := HKK.out.cell (p := ⟨by_, oy + k * 2, none⟩) hby1 e0
      have m1 := HKK.out.cell (p := ⟨by_, oy + k * 2 + 1, none⟩) hby1 e1
      have tx : IsTm (OldA sb A) wr xs[k].h (.slice ax xs[k].args.length cx) xs[k] := IsTm.keep9 (⟨rfl, g2⟩ : IsTm (OldA sb A) w _ _ _) HKK.out (fun b _ hb => by simp only [OldA, not_or] at hb; omega)
      have ty : IsTm (OldA sb A) wr ys[k].h (.slice ay ys[k].args.length cy) ys[k] := IsTm.keep9 (⟨rfl, e2⟩ : IsTm (OldA sb A) w _ _ _) HKK.out (fun b _ hb => by simp only [OldA, not_or] at hb; omega)
      have HTX := hide tx
      have HTY := hide ty
      have hkn : ((k + 1 : Nat) : Int) - 1 = (k : Int) := by omega
      rw [hkn]
      have hlenp : (ps ++ ((xs.zip ys).drop (k + 1)).reverse).length = ps.length + (xs.length - (k + 1)) := by simp [HL.out.symm]
      have HLP := hide hlenp
      obtain ⟨av, cv, hv⟩ := HSO.out.own.shape
      rw [List.length_map, hlenp] at hv
      have hvk := hide hv
      clear g0 g1 g2 e0 e1 e2 tx ty hkn hlenp
      subst hv
      go_wp2
      have CL : ∀ W' : World, Keep (fun b => b < sb) wr W' → W'.cell? ⟨bx, ox + k * 2, none⟩ = some (.int .i64 xs[k].h) ∧ W'.cell? ⟨bx, ox + k * 2 + 1, none⟩ = some (.slice ax xs[k].args.length cx) ∧ W'.cell? ⟨by_, oy + k * 2, none⟩ = some (.int .i64 ys[k].h) ∧ W'.cell? ⟨by_, oy + k * 2 + 1, none⟩ = some (.slice ay ys[k].args.length cy) := fun W' hW =>
        ⟨hW.cell (p := ⟨bx, ox + k * 2, none⟩) hbx1 l0, hW.cell (p := ⟨bx, ox + k * 2 + 1, none⟩) hbx1 l1, hW.cell (p := ⟨by_, oy + k * 2, none⟩) hby1 m0, hW.cell (p := ⟨by_, oy + k * 2 + 1, none⟩) hby1 m1⟩
      refine drawn_until (fun W' => W'.cell? ⟨bx, ox + k * 2, none⟩ = some (.int .i64 xs[k].h) ∧ W'.cell? ⟨bx, ox + k * 2 + 1, none⟩ = some (.slice ax xs[k].args.length cx) ∧ W'.cell? ⟨by_, oy + k * 2, none⟩ = some (.int .i64 ys[k].h) ∧ W'.cell? ⟨by_, oy + k * 2 + 1, none⟩ = some (.slice ay ys[k].args.length cy))
        (fun W' => W'.cell? ⟨stb, 0, none⟩ = some (.slice av (ps.length + (xs.length - (k + 1))) cv)) 11 [(0, 1), (1, 0), (2, 0), (3, 0), (4, 0), (5, 0), (6, 0), (7, 0), (8, 0), (9, 0), (10, 2), (11, 3), (12, 3)] (by kernel_rfl) (by kernel_rfl) (by kernel_rfl) (by kernel_rfl) (fun _ _ _ _ _ h => h) (CL _ (Keep.refl _ _).drew) y0 ?_
      iterate 1 (refine v_takeD (v := ?_) rfl (by rfl) ?_ ?_; rotate_left; (intro w hS; obtain ⟨-, hS1⟩ := hS; go_simp; try with_reducible rfl); simp only [Act.put, List.setIfInBounds_toArray, List.set_cons_zero, List.set_cons_succ])
      iterate 9 (refine v_take (v := ?_) rfl (by rfl) ?_ ?_; rotate_left; (intro w hS; obtain ⟨hS1, hS2, hS3, hS4⟩ := hS; go_simp; try with_reducible rfl); simp only [Act.put, List.setIfInBounds_toArray, List.set_cons_zero, List.set_cons_succ])
      refine v_do2 rfl (by rfl) ?_
      intro K hK
      go_simp
      have hdr : Below wr.heap.size wr wr.drew := (Below.refl _ _).drew
      have hal : Below wr.heap.size wr (wr.drew.alloc (.cells #[.int .i64 xs[k].h, .slice ax xs[k].args.length cx, .int .i64 ys[k].h, .slice ay ys[k].args.length cy] 185)) := hdr.alloc (Nat.le_refl _) _
      show K _ (wr.drew.alloc (.cells #[.int .i64 xs[k].h, .slice ax xs[k].args.length cx, .int .i64 ys[k].h, .slice ay ys[k].args.length cy] 185))
      refine hK.out _ _ (CL _ (.of_below hal)) ((World.cell?_alloc_lt _ _ _ (show (⟨stb, 0, none⟩ : Addr).block < wr.drew.heap.size from hlw)).trans y0) ?_
      clear hK K
      have HO := hide (HSO.out.own.below hdr)
      have HOL := hide HSO.out.own.lt
      refine v_do3 rfl (by rfl) ?_
      intro K hK
      have hbd : stb + 1 ≤ wr.drew.heap.size := hlw
      refine app_op4 (.tmp 13) (.tmp 23) 183 rfl (stb + 1) 185 (.agg #[.int .i64 0, .slice none 0 0, .int .i64 0, .slice none 0 0]) 64 Try.underlying183 (by kernel_rfl) rfl (v := .slice av (ps.length + (xs.length - (k + 1))) cv) (d := Pd (xs[k], ys[k])) rfl rfl HO.out (repPd.2 ⟨_, _, rfl, ?_, ?_⟩) rfl rfl rfl rfl (by rw [List.length_map, HLP.out]; unfold maxLen; omega) (by rw [List.length_map, HLP.out]; omega) hbd ?_
      · exact ((HTX.out.below hdr).2.bar fun b _ h => h.elim id fun h => .inl (by have := (HOL.out b h).1; omega))
      · exact ((HTY.out.below hdr).2.bar fun b _ h => h.elim id fun h => .inl (by have := (HOL.out b h).1; omega))
      intro v' w2 o1 k1 ob1
      have hk2 : Keep (fun b => (Value.slice av (ps.length + (xs.length - (k + 1))) cv).ownBlock ≠ some b) wr w2 := Keep.trans (.of_below hdr) k1
      have hown : ∀ b, b ≤ stb → (Value.slice av (ps.length + (xs.length - (k + 1))) cv).ownBlock ≠ some b := fun b hb e => by have := (HOL.out b e).1; omega
      have hst2 := hk2.obj (hown _ (Nat.le_refl _)) hsl
      obtain ⟨hl2, q0, q1⟩ := box1 hst2
      obtain ⟨av', cv', hv'⟩ := o1.shape
      rw [List.length_append, List.length_map, HLP.out, List.length_singleton] at hv'
      have hkl : Keep (fun b => b < sb) wr w2 := hk2.mono fun b _ hb => hown b (by omega)
      refine hK.out _ _ (CL _ hkl) ?_
      clear hK K
      refine v_do3 rfl (by rfl) ?_
      intro K hK
      subst hv'
      go_simp
      refine hK.out _ _ (CL _ (hkl.setCell (p := ⟨stb, 0, none⟩) (by show ¬ stb < sb; omega) _)) ?_
      clear hK K CL
      refine v_done ?_
      have hcell3 : ∀ v : Value, (w2.setCell ⟨stb, 0, none⟩ v).heap[stb]? = some (.cells #[v] 183 (0, 0)) := fun v => by simp [World.setCell, Array.getElem?_modify, hst2]
      have hks : ∀ v : Value, Keep (fun b => b ≠ stb) w2 (w2.setCell ⟨stb, 0, none⟩ v) := fun v => (Keep.refl _ _).setCell (p := ⟨stb, 0, none⟩) (by simp) v
      have hlist : (ps ++ ((xs.zip ys).drop (k + 1)).reverse).map Pd ++ [Pd (xs[k], ys[k])] = (ps ++ ((xs.zip ys).drop k).reverse).map Pd := by rw [zip_drop hlt HL.out]; simp
      rw [hlist] at o1
      have HREL := hide (show StackAt A sb stb (w2.setCell ⟨stb, 0, none⟩ (.slice av' (ps.length + (xs.length - (k + 1)) + 1) cv')) (.slice av' (ps.length + (xs.length - (k + 1)) + 1) cv') (ps ++ ((xs.zip ys).drop k).reverse) ∧ Keep (fun b => b ≠ stb ∧ v.ownBlock ≠ some b) w (w2.setCell ⟨stb, 0, none⟩ (.slice av' (ps.length + (xs.length - (k + 1)) + 1) cv')) ∧ (∀ b, (Value.slice av' (ps.length + (xs.length - (k + 1)) + 1) cv').ownBlock = some b → v.ownBlock = some b ∨ w.heap.size ≤ b) from
        ⟨⟨hcell3 _, o1.keep (hks _) (fun b _ hb => by simp only [OldA, not_or] at hb; omega) (fun b hb => by have := (o1.lt b hb).1; omega)⟩,
          ⟨(hks _).os.trans (hk2.os.trans HKP.out.os), (hks _).tape.trans (hk2.tape.trans HKP.out.tape), (hks _).output.trans (hk2.output.trans HKP.out.output), Nat.le_trans HKP.out.size (Nat.le_trans hk2.size (hks _).size), fun b hb hS => ((hks _).block b (by have := HKP.out.size; have := hk2.size; omega) hS.1).trans ((hk2.block b (by have := HKP.out.size; omega) (fun e => (HOB.out b e).elim hS.2 fun h => by omega)).trans (HKP.out.block b hb hS))⟩,
          fun b hb => (ob1 b hb).elim (HOB.out b) fun h => .inr (by have := HKP.out.size; exact Nat.le_trans this h)⟩)
      go_wp2
      go_roundw
      case rel => exact ⟨k, _, by omega, by go_num, HREL.out⟩
      case measure => simp [intOf] <;> omega
    · obtain rfl : k = 0 := by omega
      have HR := hide (show StackAt A sb stb wr v' (ps ++ (xs.zip ys).reverse) by have := HSO.out; rwa [List.drop_zero] at this)
      have HE := hide (show PutPost A sb stb v ps xs ys w (.returned (.tuple #[])) wr from ⟨rfl, v', HR.out, HKP.out⟩)
      go_wp2
      exact bodyPost_end (results_none rfl _ _ _) rfl HE.out
end Go.Proofs.Ythplndalbfcbbaa
