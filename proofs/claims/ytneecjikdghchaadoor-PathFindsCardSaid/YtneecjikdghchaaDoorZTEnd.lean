/- (*unify.solver).end. -/
import Derived.Test.YtneecjikdghchaaDoorZTMatch
import Derived.Test.YtneecjikdghchaaDoorCheck
import Derived.Laws.EntriesVeiled
import Derived.Test.YtneecjikdghchaaDoorZTUniFun
set_option linter.unusedSimpArgs false
set_option linter.unusedVariables false
namespace Go.Proofs.YtneecjikdghchaaDoor
section
open Go.RowKit

def posN (v : Int) : List Int → Nat
  | [] => 0
  | x :: l => if x = v then 0 else 1 + posN v l
def numStep (ns : List Int) (v : Int) : List Int := if v ∈ ns then ns else ns ++ [v]
def numF (ns : List Int) : Int → Option Value := fun v => if v ∈ ns then some (.int .i64 (posN v ns)) else none
/-- The numbers given so far: the variable's cell (pb), the map (mb). -/
structure NumAt (w : World) (mb pb : Nat) (ns : List Int) : Prop where
  cell : w.heap[pb]? = some (.cells #[.map (some mb)] 88 (0, 0))
  map : MapAt w mb (numF ns)
  nodup : ns.Nodup
  rng : ∀ x, x ∈ ns → 0 ≤ x ∧ x ≤ 255
  ne : pb ≠ mb
theorem NumAt.keep {w w' : World} {mb pb : Nat} {ns : List Int} {S : Nat → Prop} (h : NumAt w mb pb ns) (hk : Keep S w w') (h1 : S pb) (h2 : S mb) : NumAt w' mb pb ns :=
  ⟨hk.obj h1 h.cell, h.map.keep hk h2, h.nodup, h.rng, h.ne⟩
theorem NumAt.below {w w' : World} {mb pb : Nat} {ns : List Int} (h : NumAt w mb pb ns) (hk : Below w.heap.size w w') : NumAt w' mb pb ns := h.keep (S := fun _ => True) (.of_below hk) trivial trivial
theorem NumAt.len {w : World} {mb pb : Nat} {ns : List Int} (h : NumAt w mb pb ns) : ns.length ≤ 256 :=
  pigeon 256 ns (List.nodup_iff_pairwise_ne.1 h.nodup |> List.nodup_iff_pairwise_ne.2) fun x hx => ⟨(h.rng x hx).1, by have := (h.rng x hx).2; omega⟩
end
section
open Go.RowKit

mutual
def numT (ns : List Int) : Tm → List Int
  | .node h l => if h < 0 then numStep ns (-1 - h) else numL ns l
def numL (ns : List Int) : List Tm → List Int
  | [] => ns
  | t :: ts => numL (numT ns t) ts
end
/-- What a renamer leaves alone. -/
def KB (mb : Nat) (w w' : World) : Prop := Keep (fun b => b ≠ mb ∧ b < w.heap.size) w w'
theorem KB.of_below {mb : Nat} {w w' : World} (h : Below w.heap.size w w') : KB mb w w' := Keep.of_below h
theorem KB.more {mb : Nat} {w w1 w2 : World} (h : KB mb w w1) (k : Keep (fun b => b ≠ mb) w1 w2) : KB mb w w2 := Keep.trans h (k.mono fun _ _ h => h.1)
theorem KB.out {mb : Nat} {w w1 : World} (h : KB mb w w1) : Keep (fun b => b ≠ mb) w w1 := Keep.mono h fun _ hb hn => ⟨hn, hb⟩
theorem box1 {w : World} {b : Nat} {x : Value} {t : TypeId} (h : w.heap[b]? = some (.cells #[x] t (0, 0))) : b < w.heap.size ∧ w.cell? ⟨b, 0, none⟩ = some x ∧ w.frozen? ⟨b, 0, none⟩ = false :=
  ⟨(Array.getElem?_eq_some_iff.1 h).1, by simp [World.cell?, h], by simp [World.frozen?, h]⟩

/-- A term that is being built: its box, its arguments' row. -/
structure BuildK (mb pb : Nat) (ns : List Int) (A : Nat → Prop) (w W : World) (bo base e : Nat) (bt : TypeId) (h : Int) (v : Value) (ds : List D) : Prop where
  keep : KB mb w W
  box : W.heap[bo]? = some (.cells #[.int .i64 h, v] bt (0, 0))
  own : OwnD (fun b => A b ∨ b = bo) W base e 2 v ds
  old : w.heap.size ≤ bo
  lt : bo < base
  base : base ≤ W.heap.size
  am : A mb
  ml : mb < w.heap.size
  pl : pb < w.heap.size
  num : NumAt W mb pb ns
section
variable {mb pb : Nat} {ns : List Int} {A : Nat → Prop} {w W W' : World} {bo base e : Nat} {bt : TypeId} {h : Int} {v : Value} {ds : List D}
theorem BuildK.ownlt (hb : BuildK mb pb ns A w W bo base e bt h v ds) : ∀ b, v.ownBlock = some b → base ≤ b ∧ b < W.heap.size := hb.own.lt
/-- In a later world. -/
theorem BuildK.later (hb : BuildK mb pb ns A w W bo base e bt h v ds) (hB : Keep (fun b => b ≠ mb) W W') {ns' : List Int} (hn : NumAt W' mb pb ns') : BuildK mb pb ns' A w W' bo base e bt h v ds :=
  ⟨hb.keep.more hB, hB.obj (fun e => by have := hb.old; have := hb.ml; omega) hb.box, hb.own.keep hB (fun b _ hb' e => hb' (.inl (e ▸ hb.am))) (fun b hb' e => by have := (hb.ownlt b hb').1; have := hb.lt; have := hb.old; have := hb.ml; omega), hb.old, hb.lt, Nat.le_trans hb.base hB.size, hb.am, hb.ml, hb.pl, hn⟩
/-- Behind the append and the store. -/
theorem BuildK.step {v' : Value} {d : D} (hb : BuildK mb pb ns A w W bo base e bt h v ds) (hk : Keep (fun b => v.ownBlock ≠ some b) W W') (ho : OwnD (fun b => A b ∨ b = bo) W' base e 2 v' (ds ++ [d])) :
    BuildK mb pb ns A w (W'.setCell ⟨bo, 1, none⟩ v') bo base e bt h v' (ds ++ [d]) := by
  have hbo : v.ownBlock ≠ some bo := fun e => by have := hb.ownlt bo e; have := hb.lt; omega
  have hlt := hb.lt
  have hold := hb.old
  have hml := hb.ml
  have hpl := hb.pl
  have hkk : Keep (fun b => b < bo) W (W'.setCell ⟨bo, 1, none⟩ v') := (hk.mono (fun b _ hb' e => by have := hb.ownlt b e; omega)).setCell (p := ⟨bo, 1, none⟩) (by simp) v'
  refine ⟨?_, box2_set1 (hk.obj hbo hb.box) v', ?_, hb.old, hb.lt, Nat.le_trans hb.base (by simpa [World.setCell] using hk.size), hb.am, hb.ml, hb.pl, hb.num.keep hkk (by omega) (by omega)⟩
  · exact Keep.trans hb.keep (hkk.mono fun b _ h => by have := h.2; omega)
  · refine ho.keep (S := fun b => b ≠ bo) ((Keep.refl _ _).setCell (p := ⟨bo, 1, none⟩) (by simp) v') (fun b _ hb' e => hb' (.inr e)) (fun b hb' e => ?_)
    have := ho.lt b hb'
    omega
/-- What the append leaves alone. -/
theorem BuildK.grow (hb : BuildK mb pb ns A w W bo base e bt h v ds) (hk : Keep (fun b => v.ownBlock ≠ some b) W W') : Below base W W' :=
  hk.below (fun b hb' e => by have := hb.ownlt b e; omega) hb.base
/-- Built. -/
theorem BuildK.terms {ts : List Tm} (hb : BuildK mb pb ns A w W bo base e bt h v (ts.map Tm.d)) (hA : ∀ b, A b → b < base) : Terms A W v ts := by
  have h1 := hb.lt
  refine (hb.own.terms (fun b h => ?_)).bar fun b _ h => .inl h
  rcases h with h | h
  · exact hA b h
  · omega
end
theorem IsTm.keep9 {A S : Nat → Prop} {w w' : World} {x : Int} {s : Value} {t : Tm} (h : IsTm A w x s t) (hk : Keep S w w') (hS : ∀ b, b < w.heap.size → ¬ A b → S b) : IsTm A w' x s t := ⟨h.1, Terms.keep h.2 hk hS⟩
end
section
open Go.RowKit

theorem MapAt.made0 (W : World) : MapAt (W.alloc (.map #[] 0)) W.heap.size (numF []) :=
  (MapEnv.made (A := fun _ => False) W).elim fun F h => by
    have e : F = numF [] := by
      funext x
      rw [(h.2 x).1 rfl]; simp [numF]
    rw [← e]; exact h.1
end
section
open Go.RowKit

theorem exec_look {P : Program} {W : World} {o : Oper} {a : Act} (m x : Operand) (t : TypeId) (ho : o.op = .lookup t m x true) {mv xv v : Value} (hm : a.eval m = mv) (hx : a.eval x = xv) (hrun : (Instr.lookup t mv xv true).run P W = .ok v W) : (execOp a.eval o).run P W = .ok (.value v) W := by
  simp [execOp, ho, hm, hx, hrun, Result.andThen]
/-- What is new, and what is barred. -/
def OldA (sb : Nat) (A : Nat → Prop) : Nat → Prop := fun b => sb ≤ b ∨ A b
/-- The solver: its cell, its map. -/
structure SolAt (A : Nat → Prop) (w : World) (sb ss : Nat) (f : Env) : Prop where
  cell : w.heap[ss]? = some (.cells #[.map (some sb)] 102 (0, 0))
  env : MapEnv (OldA sb A) w sb f
  lt : sb < ss
theorem SolAt.keep {A S : Nat → Prop} {w w' : World} {sb ss : Nat} {f : Env} (h : SolAt A w sb ss f) (hk : Keep S w w') (hS : ∀ b, b ≤ ss → S b) : SolAt A w' sb ss f :=
  ⟨hk.obj (hS _ (Nat.le_refl _)) h.cell, h.env.keep hk (hS _ (Nat.le_of_lt h.lt)) (fun c _ hc => hS c (by have := h.lt; simp only [OldA, not_or] at hc; omega)), h.lt⟩
theorem SolAt.below {A : Nat → Prop} {w w' : World} {sb ss : Nat} {f : Env} (h : SolAt A w sb ss f) (hB : Below w.heap.size w w') : SolAt A w' sb ss f := h.keep (S := fun _ => True) (.of_below hB) (fun _ _ => trivial)
theorem SolAt.lt_size {A : Nat → Prop} {w : World} {sb ss : Nat} {f : Env} (h : SolAt A w sb ss f) : ss < w.heap.size := (Array.getElem?_eq_some_iff.1 h.cell).1
theorem SolAt.load {A : Nat → Prop} {w : World} {sb ss : Nat} {f : Env} (h : SolAt A w sb ss f) : w.cell? ⟨ss, 0, none⟩ = some (.map (some sb)) := (box1 h.cell).2.1
/-- What is looked up. -/
theorem SolAt.look {A : Nat → Prop} {w : World} {sb ss : Nat} {f : Env} (h : SolAt A w sb ss f) {x : Int} (h0 : 0 ≤ x) (h1 : x ≤ 255) :
    ∃ v is, (Instr.lookup 91 (.map (some sb)) (.int .i64 x) true).run Tryd.prog w = .ok (.tuple #[v, .bool is]) w ∧ (∀ W', Below w.heap.size w W' → (Instr.lookup 91 (.map (some sb)) (.int .i64 x) true).run Tryd.prog W' = .ok (.tuple #[v, .bool is]) W') ∧ is = (f x).isSome ∧ (∃ hh ad n cp, v = .agg #[.int .i64 hh, .slice ad n cp] ∧ ∀ t, f x = some t → IsTm (OldA sb A) w hh (.slice ad n cp) t) := by
  obtain ⟨F, h2, h3⟩ := h.env
  have hr := h2.look Tryd.underlying3 Tryd.underlying91 (zeroTerm w) (x := x) (by omega) (by omega)
  refine ⟨_, _, hr, fun W' hB => (h2.keep (S := fun _ => True) (.of_below hB) trivial).look Tryd.underlying3 Tryd.underlying91 (zeroTerm W') (x := x) (by omega) (by omega), ?_, ?_⟩
  · cases hf : f x with
    | none => rw [(h3 x).1 hf]; rfl
    | some t => obtain ⟨s, hs, -⟩ := (h3 x).2 t hf; rw [hs]; rfl
  · cases hf : f x with
    | none => rw [(h3 x).1 hf]; exact ⟨_, none, 0, 0, rfl, fun t ht => by cases ht⟩
    | some t =>
      obtain ⟨s, hs, ht⟩ := (h3 x).2 t hf
      rw [hs]
      obtain ⟨ad, cp, rfl, -, -⟩ := ht.shape
      exact ⟨_, ad, _, cp, rfl, fun u hu => by cases hu; exact ⟨rfl, ht⟩⟩
def hOf (w : World) (b : Nat) : Int := match w.cell? ⟨b, 0, none⟩ with
  | some (.int _ h) => h
  | _ => 0
def atM (S : Sub) (w : World) (b : Nat) : Nat := if hOf w b < 0 then rankU S (-1 - hOf w b) + 1 else 0
theorem hOf_box {w : World} {b : Nat} {h : Int} {s : Value} {t : TypeId} (hb : w.heap[b]? = some (.cells #[.int .i64 h, s] t (0, 0))) : hOf w b = h := by
  unfold hOf; rw [(box2 hb).2.1]
/-- What (*solver).at hands back. -/
def AtPost (A : Nat → Prop) (sb : Nat) (f : Env) (t : Tm) (w : World) (e : Ending) (w' : World) : Prop :=
  ∃ (r : Tm) (s' : Value), e = .returned (.agg #[.int .i64 r.h, s']) ∧ IsTm (OldA sb A) w' r.h s' r ∧ Leads f t r ∧ r.good = true ∧ (r.h < 0 → f (-1 - r.h) = none) ∧ Below w.heap.size w w'

set_option maxHeartbeats 4000000 in
set_option maxRecDepth 100000 in
theorem at_calls (A : Nat → Prop) (sb ss : Nat) (f : Env) (S : Sub) (hS : Solved f S) (t : Tm) (h : Int) (s : Value) (w : World) (hg : t.good = true) (hsol : SolAt A w sb ss f) (ht : IsTm (OldA sb A) w h s t) :
    Calls Tryd.prog 71 #[.pointer (some ⟨ss, 0, none⟩), .agg #[.int .i64 h, s]] w fun e w' => AtPost A sb f t w e w' := by
  obtain ⟨rfl, a, c, rfl, hlc, hc⟩ := ht.shape
  have HT := hide ht
  have HSO := hide hsol
  have HG := hide hg
  clear hsol ht hg
  go_enter Tryd.func71, Tryd.ntmps71
  refine seq_cut (fun a' w' => a' = { tmps := #[.pointer (some ⟨ss, 0, none⟩), .agg #[.int .i64 t.h, .slice a t.args.length c], undef, .pointer (some ⟨w.heap.size, 0, none⟩), .pointer (some ⟨w.heap.size + 1, 0, none⟩), undef, undef, undef, undef, undef, undef, undef, undef, undef, undef, undef, undef, undef, undef, undef, undef, undef, undef, undef, undef], defers := [] } ∧ w' = (w.alloc (.cells #[.int .i64 t.h, .slice a t.args.length c] 24)).alloc (.cells #[.int .i64 0, .slice none 0 0] 24)) ?_ ?_
  · go_wp2
    first | done | exact ⟨rfl, rfl⟩ | exact ⟨trivial, trivial⟩
  rintro _ W ⟨rfl, HW⟩
  have hWa : W = allocs w [.cells #[.int .i64 t.h, .slice a t.args.length c] 24, .cells #[.int .i64 0, .slice none 0 0] 24] := HW
  have hB : Below w.heap.size w W := by rw [hWa]; exact allocs_below _ _
  have b0 : W.heap[w.heap.size]? = some (.cells #[.int .i64 t.h, .slice a t.args.length c] 24 (0, 0)) := by rw [hWa]; exact allocs_get _ _ 0 _ rfl
  have b1 : W.heap[w.heap.size + 1]? = some (.cells #[.int .i64 0, .slice none 0 0] 24 (0, 0)) := by rw [hWa]; exact allocs_get _ _ 1 _ rfl
  clear HW hWa
  have hssw : ss < w.heap.size := HSO.out.lt_size
  go_wp2
  go_loopw [] (fun wr => ∃ (r : Tm) (s' : Value), Leads f t r ∧ r.good = true ∧ IsTm (OldA sb A) wr r.h s' r ∧ wr.heap[w.heap.size]? = some (.cells #[.int .i64 r.h, s'] 24 (0, 0)) ∧ wr.heap[w.heap.size + 1]? = some (.cells #[.int .i64 0, .slice none 0 0] 24 (0, 0)) ∧ SolAt A wr sb ss f ∧ Below w.heap.size w wr) (fun wr => atM S wr w.heap.size)
  case atStart => exact ⟨t, _, .refl _, HG.out, HT.out.below hB, b0, b1, HSO.out.below hB, hB⟩
  case round =>
    obtain ⟨r, s', hld, hgr, hT, x0, x1, hso, hBr⟩ := hrel
    obtain ⟨-, ar, cr, rfl, -, -⟩ := hT.shape
    have hfin : (r.h < 0 → f (-1 - r.h) = none) → Hid (∀ W4 : World, Keep (fun b => b ≠ w.heap.size + 1) wr W4 → AtPost A sb f t w (.returned (.agg #[.int .i64 r.h, .slice ar r.args.length cr])) W4) := fun hf => hide fun W4 hk4 => ⟨r, _, rfl, ⟨rfl, hT.2.keep hk4 (fun b hb hnb e => hnb (.inl (by have := hso.lt; omega)))⟩, hld, hgr, hf, hBr.trans (hk4.below (fun b hb e => by omega) hBr.size)⟩
    obtain ⟨xw, y0, y1, y2, y3⟩ := box2 x0
    by_cases hneg : r.h < 0
    · have hgo := good_args hgr
      obtain ⟨v, is, hrun, hrunW, his, hh, av, nv, cv, rfl, hTv⟩ := hso.look (x := -1 - r.h) (by omega) (by omega)
      have hl := hso.load
      have hw1 : IntKind.i64.wrap (-1 - r.h) = -1 - r.h := IntWalk.i64_in _ (by omega)
      have HSO' := hide hso
      have HTV := hide hTv
      have HIS := hide his
      have hst : Hid (∀ W', Below wr.heap.size wr W' → W'.cell? ⟨ss, 0, none⟩ = some (.map (some sb)) ∧ W'.cell? ⟨w.heap.size, 0, none⟩ = some (.int .i64 r.h) ∧ (Instr.lookup 91 (.map (some sb)) (.int .i64 (-1 - r.h)) true).run Tryd.prog W' = .ok (.tuple #[.agg #[.int .i64 hh, (.slice av nv cv)], .bool is]) W') := hide fun W' hW => ⟨(hso.below hW).load, (box2 ((hW.block _ xw).trans x0)).2.1, hrunW W' hW⟩
      clear hso hrun hrunW hTv his hl
      go_wp2
      refine drawn_text (fun W' => W'.cell? ⟨ss, 0, none⟩ = some (.map (some sb)) ∧ W'.cell? ⟨w.heap.size, 0, none⟩ = some (.int .i64 r.h) ∧ (Instr.lookup 91 (.map (some sb)) (.int .i64 (-1 - r.h)) true).run Tryd.prog W' = .ok (.tuple #[.agg #[.int .i64 hh, (.slice av nv cv)], .bool is]) W') [false, false, false, false, false, false, false, false, false, false, false, true, true, false] [some 11, some 12, some 13, some 14, some 15, some 16, some 17, some 18, some 10, some 19, some 20, some 5, none, some 6] (by kernel_rfl) rfl (by kernel_rfl) (by kernel_rfl) (by kernel_rfl) (fun _ _ _ _ _ h => h) (hst.out _ (Below.refl _ _).drew) ?_
      iterate 7 (refine txt_take (v := ?_) rfl ?_ ?_; rotate_left; (intro w hS; obtain ⟨hS0, hS1, hS2⟩ := hS; go_simp; try with_reducible rfl); simp only [Act.put, List.setIfInBounds_toArray, List.set_cons_zero, List.set_cons_succ])
      refine txt_take (v := .tuple #[.agg #[.int .i64 hh, (.slice av nv cv)], .bool is]) rfl (fun w hS => exec_look (.tmp 14) (.tmp 17) 91 rfl rfl rfl hS.2.2) ?_
      simp only [Act.put, List.setIfInBounds_toArray, List.set_cons_zero, List.set_cons_succ]
      iterate 3 (refine txt_take (v := ?_) rfl ?_ ?_; rotate_left; (intro w hS; obtain ⟨hS0, hS1, hS2⟩ := hS; go_simp; try with_reducible rfl); simp only [Act.put, List.setIfInBounds_toArray, List.set_cons_zero, List.set_cons_succ])
      refine txt_do rfl ?_
      intro K hK
      go_simp
      have hB1 : Below wr.heap.size wr (wr.alloc (.cells #[.int .i64 0, .slice none 0 0] 24)).drew := ((Below.refl wr.heap.size wr).alloc (Nat.le_refl _) (.cells #[.int .i64 0, .slice none 0 0] 24)).drew
      have hn : (wr.alloc (.cells #[.int .i64 0, .slice none 0 0] 24)).drew.heap[wr.heap.size]? = some (.cells #[.int .i64 0, .slice none 0 0] 24 (0, 0)) := World.alloc_heap_new _ _
      refine hK.out _ _ (hst.out _ hB1) ?_
      clear hK K
      generalize (wr.alloc (.cells #[.int .i64 0, .slice none 0 0] 24)).drew = W1 at *
      obtain ⟨-, n0, n1, n2, n3⟩ := box2 hn
      have hn2 := box2_set hn (.int .i64 hh) (.slice av nv cv)
      have hB2 : Below wr.heap.size wr ((W1.setCell ⟨wr.heap.size, 0, none⟩ (.int .i64 hh)).setCell ⟨wr.heap.size, 1, none⟩ (.slice av nv cv)) := set2_below hB1 (Nat.le_refl _) _ _
      refine txt_do rfl ?_
      intro K hK
      go_simp
      refine hK.out _ _ (hst.out _ hB2) ?_
      clear hK K
      generalize ((W1.setCell ⟨wr.heap.size, 0, none⟩ (.int .i64 hh)).setCell ⟨wr.heap.size, 1, none⟩ (.slice av nv cv)) = W2 at *
      iterate 1 (refine txt_take (v := ?_) rfl ?_ ?_; rotate_left; (intro w hS; obtain ⟨hS0, hS1, hS2⟩ := hS; go_simp; try with_reducible rfl); simp only [Act.put, List.setIfInBounds_toArray, List.set_cons_zero, List.set_cons_succ])
      refine txt_done ?_
      obtain ⟨-, m0, m1, m2, m3⟩ := box2 hn2
      have x0' := (hB2.block _ xw).trans x0
      have x1' := (hB2.block _ (Array.getElem?_eq_some_iff.1 x1).1).trans x1
      obtain ⟨-, p0, p1, p2, p3⟩ := box2 x0'
      have HSO2 := hide (HSO'.out.below hB2)
      have HBr2 := hide (more_below hBr hB2)
      clear n0 n1 n2 n3 hB1 hn y0 y1 y2 y3
      cases is
      · have HF := hide (hfin fun _ => by
          have := HIS.out
          cases hf : f (-1 - r.h) with
          | none => rfl
          | some u => rw [hf] at this; cases this)
        obtain ⟨-, q0, q1, q2, q3⟩ := box2 x1'
        obtain ⟨-, r0, r1, -, -⟩ := box2 (box2_set x1' (.int .i64 r.h) (.slice ar r.args.length cr))
        have HE := hide (HF.out _ (((Keep.of_below (S := fun b => b ≠ w.heap.size + 1) hB2).setCell (p := ⟨w.heap.size + 1, 0, none⟩) (by simp) (.int .i64 r.h)).setCell (p := ⟨w.heap.size + 1, 1, none⟩) (by simp) (.slice ar r.args.length cr)))
        clear hfin HF
        go_wp2
        exact bodyPost_ret (v := .agg #[.int .i64 r.h, .slice ar r.args.length cr]) (by simp [results, Tryd.results71, go_sem, r0, r1]) rfl HE.out
      · obtain ⟨u, hu⟩ : ∃ u, f (-1 - r.h) = some u := by
          have := HIS.out
          cases hf : f (-1 - r.h) with
          | none => rw [hf] at this; cases this
          | some u => exact ⟨u, rfl⟩
        have hTu := HTV.out u hu
        obtain rfl := hTu.1
        obtain ⟨-, a9, c9, hsl, -, -⟩ := hTu.shape
        obtain ⟨rfl, rfl, rfl⟩ : av = a9 ∧ nv = u.args.length ∧ cv = c9 := by simpa using hsl
        clear hsl
        have hk9 : Keep (fun b => b ≠ w.heap.size) W2 ((W2.setCell ⟨w.heap.size, 0, none⟩ (.int .i64 u.h)).setCell ⟨w.heap.size, 1, none⟩ (.slice av u.args.length cv)) := ((Keep.refl _ _).setCell (p := ⟨w.heap.size, 0, none⟩) (by simp) _).setCell (p := ⟨w.heap.size, 1, none⟩) (by simp) _
        have hT9 := hTu.2.below hB2
        have HREL := hide (show Leads f t u ∧ u.good = true ∧ IsTm (OldA sb A) ((W2.setCell ⟨w.heap.size, 0, none⟩ (.int .i64 u.h)).setCell ⟨w.heap.size, 1, none⟩ (.slice av u.args.length cv)) u.h (.slice av u.args.length cv) u ∧ ((W2.setCell ⟨w.heap.size, 0, none⟩ (.int .i64 u.h)).setCell ⟨w.heap.size, 1, none⟩ (.slice av u.args.length cv)).heap[w.heap.size]? = some (.cells #[.int .i64 u.h, .slice av u.args.length cv] 24 (0, 0)) ∧ ((W2.setCell ⟨w.heap.size, 0, none⟩ (.int .i64 u.h)).setCell ⟨w.heap.size, 1, none⟩ (.slice av u.args.length cv)).heap[w.heap.size + 1]? = some (.cells #[.int .i64 0, .slice none 0 0] 24 (0, 0)) ∧ SolAt A ((W2.setCell ⟨w.heap.size, 0, none⟩ (.int .i64 u.h)).setCell ⟨w.heap.size, 1, none⟩ (.slice av u.args.length cv)) sb ss f ∧ Below w.heap.size w ((W2.setCell ⟨w.heap.size, 0, none⟩ (.int .i64 u.h)).setCell ⟨w.heap.size, 1, none⟩ (.slice av u.args.length cv)) from
          ⟨hld.snoc hneg hu, (hS.rng _ _ hu).2.2, ⟨rfl, hT9.keep hk9 (fun b hb hnb e => hnb (.inl (by have := HSO2.out.lt; omega)))⟩, box2_set x0' _ _, hk9.obj (by omega) x1', HSO2.out.keep hk9 (fun b hb e => by omega), set2_below HBr2.out (Nat.le_refl _) _ _⟩)
        have HM := hide (show atM S ((W2.setCell ⟨w.heap.size, 0, none⟩ (.int .i64 u.h)).setCell ⟨w.heap.size, 1, none⟩ (.slice av u.args.length cv)) w.heap.size < atM S wr w.heap.size by
          have e1 := hOf_box x0
          have e2 := hOf_box (box2_set x0' (.int .i64 u.h) (.slice av u.args.length cv))
          unfold atM
          rw [e1, e2, if_pos hneg]
          split
          · rename_i hn
            have := rank_step hS hu (u := -1 - u.h) ⟨by omega, by rw [show -1 - (-1 - u.h) = u.h by omega, Tm.heads_eq]; exact List.mem_cons_self⟩
            omega
          · omega)
        clear hfin hk9 hT9 hTu
        go_wp2
        go_roundw
        case rel => exact ⟨u, _, HREL.out⟩
        case measure => exact HM.out
    · have HF := hide (hfin fun h => absurd h hneg)
      have hso' := hide hso
      obtain ⟨-, q0, q1, q2, q3⟩ := box2 x1
      obtain ⟨-, r0, r1, -, -⟩ := box2 (box2_set x1 (.int .i64 r.h) (.slice ar r.args.length cr))
      have HE := hide (HF.out _ (((Keep.refl (fun b => b ≠ w.heap.size + 1) _).setCell (p := ⟨w.heap.size + 1, 0, none⟩) (by simp) (.int .i64 r.h)).setCell (p := ⟨w.heap.size + 1, 1, none⟩) (by simp) (.slice ar r.args.length cr)))
      clear hfin HF hso
      go_wp2
      exact bodyPost_ret (v := .agg #[.int .i64 r.h, .slice ar r.args.length cr]) (by simp [results, Tryd.results71, go_sem, r0, r1]) rfl HE.out
end
section
open Go.RowKit

/-- The rows' cell, the map behind it: nothing told yet, or what is told. -/
def KnAt (T : TypeId) (w : World) (kb lo : Nat) (F : Int → Option Value) : Prop :=
  ∃ m : Option Nat, w.heap[kb]? = some (.cells #[.map m] T (0, 0)) ∧ (m = none → ∀ x, F x = none) ∧ ∀ mb, m = some mb → MapAt w mb F ∧ lo < mb
/-- What a step that tells leaves alone. -/
structure KStep (kb : Nat) (w w' : World) : Prop where
  keep : Keep (fun b => b ≠ kb ∧ w.cell? ⟨kb, 0, none⟩ ≠ some (.map (some b))) w w'
  map : ∀ mb, w'.cell? ⟨kb, 0, none⟩ = some (.map (some mb)) → w.cell? ⟨kb, 0, none⟩ = some (.map (some mb)) ∨ w.heap.size ≤ mb
  stay : ∀ mb, w.cell? ⟨kb, 0, none⟩ = some (.map (some mb)) → w'.cell? ⟨kb, 0, none⟩ = some (.map (some mb))
theorem KStep.trans {kb : Nat} {a b c : World} (h : KStep kb a b) (k : KStep kb b c) : KStep kb a c where
  keep := ⟨k.keep.os.trans h.keep.os, k.keep.tape.trans h.keep.tape, k.keep.output.trans h.keep.output, Nat.le_trans h.keep.size k.keep.size, fun x hx hs => (k.keep.block x (by have := h.keep.size; omega) ⟨hs.1, fun e => (h.map x e).elim hs.2 fun hle => by omega⟩).trans (h.keep.block x hx hs)⟩
  map := fun mb e => (k.map mb e).elim (h.map mb) fun hle => .inr (by have := h.keep.size; omega)
  stay := fun mb e => k.stay mb (h.stay mb e)
theorem KStep.of_below {kb : Nat} {w w' : World} (hB : Below w.heap.size w w') (hk : kb < w.heap.size) : KStep kb w w' := by
  have e : w'.cell? ⟨kb, 0, none⟩ = w.cell? ⟨kb, 0, none⟩ := by simp only [World.cell?, hB.block kb hk]
  exact ⟨.of_below hB, fun mb h => .inl (e ▸ h), fun mb h => e ▸ h⟩
/-- A block that a step leaves alone. -/
def Boxed (kb : Nat) (w : World) (b : Nat) (o : Obj) : Prop := w.heap[b]? = some o ∧ b ≠ kb ∧ w.cell? ⟨kb, 0, none⟩ ≠ some (.map (some b))
theorem Boxed.step {kb b : Nat} {w w' : World} {o : Obj} (h : Boxed kb w b o) (k : KStep kb w w') : Boxed kb w' b o :=
  ⟨k.keep.obj ⟨h.2.1, h.2.2⟩ h.1, h.2.1, fun e => (k.map b e).elim h.2.2 fun hle => by have := (Array.getElem?_eq_some_iff.1 h.1).1; omega⟩
theorem KnAt.lt {T : TypeId} {w : World} {kb lo : Nat} {F : Int → Option Value} (h : KnAt T w kb lo F) : kb < w.heap.size := by
  obtain ⟨m, h, -⟩ := h
  exact (Array.getElem?_eq_some_iff.1 h).1
/-- The map's block is an old one. -/
theorem KnAt.mlt {T : TypeId} {w : World} {kb lo : Nat} {F : Int → Option Value} (h : KnAt T w kb lo F) {b : Nat} (hc : w.cell? ⟨kb, 0, none⟩ = some (.map (some b))) : b < w.heap.size ∧ lo < b := by
  obtain ⟨m, h, -, h2⟩ := h
  rw [(box1 h).2.1] at hc
  simp only [Option.some.injEq, Value.map.injEq] at hc
  obtain ⟨h3, h4⟩ := h2 b hc
  exact ⟨h3.lt, h4⟩
theorem KnAt.boxed {T : TypeId} {w w' : World} {kb lo : Nat} {F : Int → Option Value} (h : KnAt T w kb lo F) {b : Nat} {o : Obj} (hB : Below w.heap.size w w') (hb : w'.heap[b]? = some o) (hn : w.heap.size ≤ b) : Boxed kb w' b o := by
  have hlt := h.lt
  refine ⟨hb, by omega, fun e => ?_⟩
  have e2 : w'.cell? ⟨kb, 0, none⟩ = w.cell? ⟨kb, 0, none⟩ := by simp only [World.cell?, hB.block kb hlt]
  rw [e2] at e
  have := (h.mlt e).1
  omega
theorem KnAt.below {T : TypeId} {w w' : World} {kb lo : Nat} {F : Int → Option Value} (h : KnAt T w kb lo F) (hB : Below w.heap.size w w') : KnAt T w' kb lo F := by
  obtain ⟨m, h1, h2, h3⟩ := h
  refine ⟨m, (hB.block kb (Array.getElem?_eq_some_iff.1 h1).1).trans h1, h2, fun mb hm => ⟨(h3 mb hm).1.keep (S := fun _ => True) (.of_below hB) trivial, (h3 mb hm).2⟩⟩
/-- A step, and what is below. -/
theorem KStep.low {T : TypeId} {w w' : World} {kb lo : Nat} {F : Int → Option Value} (h : KStep kb w w') (hk : KnAt T w kb lo F) (hlo : lo < kb) : Keep (fun b => b ≤ lo) w w' :=
  h.keep.mono fun b _ hb => ⟨by omega, fun e => by have := (hk.mlt e).2; omega⟩
/-- The map of a row of tellings. -/
theorem KnAt.made {T : TypeId} {w : World} {kb lo : Nat} {F : Int → Option Value} (h1 : w.heap[kb]? = some (.cells #[.map none] T (0, 0))) (hF : ∀ x, F x = none) (hlo : lo < w.heap.size) (hk : kb < w.heap.size) :
    KnAt T ((w.setCell ⟨kb, 0, none⟩ (.map (some w.heap.size))).alloc (.map #[] 0)) kb lo F ∧ KStep kb w ((w.setCell ⟨kb, 0, none⟩ (.map (some w.heap.size))).alloc (.map #[] 0)) ∧ ((w.setCell ⟨kb, 0, none⟩ (.map (some w.heap.size))).alloc (.map #[] 0)).cell? ⟨kb, 0, none⟩ = some (.map (some w.heap.size)) := by
  have hn : (w.setCell ⟨kb, 0, none⟩ (.map (some w.heap.size))).heap[kb]? = some (.cells #[.map (some w.heap.size)] T (0, 0)) := by
    simp [World.setCell, Array.getElem?_modify, h1]
  have hz : (w.setCell ⟨kb, 0, none⟩ (.map (some w.heap.size))).heap.size = w.heap.size := by simp [World.setCell]
  have hs : ((w.setCell ⟨kb, 0, none⟩ (.map (some w.heap.size))).alloc (.map #[] 0)).heap[kb]? = some (.cells #[.map (some w.heap.size)] T (0, 0)) := (Below.heap_alloc _ _ _ (by omega)).trans hn
  have hk2 : Keep (fun b => b ≠ kb) w ((w.setCell ⟨kb, 0, none⟩ (.map (some w.heap.size))).alloc (.map #[] 0)) := ((Keep.refl _ w).setCell (p := ⟨kb, 0, none⟩) (by simp) _).alloc _
  have hm := MapAt.made0 (w.setCell ⟨kb, 0, none⟩ (.map (some w.heap.size)))
  rw [hz] at hm
  have hF' : F = numF [] := by funext x; rw [hF x]; simp [numF]
  refine ⟨⟨_, hs, (fun h => by cases h), fun mb e => ?_⟩, ⟨hk2.mono fun b _ hb => hb.1, fun mb e => ?_, fun mb e => ?_⟩, (box1 hs).2.1⟩
  · cases e
    refine ⟨?_, hlo⟩
    rw [hF']
    exact hm
  · rw [(box1 hs).2.1] at e
    simp only [Option.some.injEq, Value.map.injEq] at e
    exact .inr (by omega)
  · rw [(box1 h1).2.1] at e
    simp at e
/-- One more is told. -/
theorem KnAt.told {T : TypeId} {w w' : World} {kb lo mb : Nat} {F G : Int → Option Value} (h : KnAt T w kb lo F) (hc : w.cell? ⟨kb, 0, none⟩ = some (.map (some mb))) (hm : MapAt w' mb G) (hk : Keep (fun c => c ≠ mb) w w') : KnAt T w' kb lo G ∧ KStep kb w w' := by
  obtain ⟨m, h1, h2, h3⟩ := h
  have e := hc
  rw [(box1 h1).2.1] at e
  simp only [Option.some.injEq, Value.map.injEq] at e
  subst e
  obtain ⟨k1, k2⟩ := h3 mb rfl
  have hne : kb ≠ mb := fun e => by
    obtain ⟨es, cl, k1, -⟩ := k1
    rw [← e, h1] at k1; cases k1
  have h1' := hk.obj hne h1
  have ec : w'.cell? ⟨kb, 0, none⟩ = some (.map (some mb)) := (box1 h1').2.1
  refine ⟨⟨_, h1', (fun h => by cases h), fun mb' e => by cases e; exact ⟨hm, k2⟩⟩, ⟨hk.mono fun b _ hb e => hb.2 (e ▸ hc), fun mb' e => .inl ?_, fun mb' e => ?_⟩⟩
  · rw [ec] at e; rw [hc]; exact e
  · rw [hc] at e; rw [ec]; exact e
theorem KnAt.cellOf {T : TypeId} {w : World} {kb lo mb : Nat} {F : Int → Option Value} (h : KnAt T w kb lo F) (hc : w.cell? ⟨kb, 0, none⟩ = some (.map (some mb))) : w.heap[kb]? = some (.cells #[.map (some mb)] T (0, 0)) ∧ MapAt w mb F := by
  obtain ⟨m, h1, h2, h3⟩ := h
  have e := hc
  rw [(box1 h1).2.1] at e
  simp only [Option.some.injEq, Value.map.injEq] at e
  subst e
  exact ⟨h1, (h3 mb rfl).1⟩
/-- How a telling ends. -/
def TellPost (T : TypeId) (kb lo : Nat) (x : Value) (Q : (Int → Option Value) → Prop) (w1 : World) (e : Ending) (w2 : World) : Prop :=
  e = .returned x ∧ ∃ F2, Q F2 ∧ KStep kb w1 w2 ∧ KnAt T w2 kb lo F2
def OfPost (T : TypeId) (kb lo : Nat) (n : Int) (F : Int → Option Value) (x : Value) (Q : (Int → Option Value) → Prop) (w : World) (e : Ending) (w' : World) : Prop :=
  ∃ F', KStep kb w w' ∧ KnAt T w' kb lo F' ∧ ((∃ v, F n = some v ∧ e = .returned v ∧ F' = F) ∨ (F n = none ∧ e = .returned x ∧ ∃ F2, Q F2 ∧ F' = fun z => if z = n then some x else F2 z))
theorem zeroBool (W : World) : (zeroValue 4).run Tryd.prog W = .ok (.bool false) W := by kernel_rfl

set_option maxHeartbeats 4000000 in
set_option maxRecDepth 100000 in
theorem ofB_calls (kb lo : Nat) (n : Int) (F : Int → Option Value) (xb : Bool) (Q : (Int → Option Value) → Prop) (p0 p1 : Value) (w : World) (h0 : 0 ≤ n) (h1 : n ≤ 255) (hlo : lo < kb) (hsh : ∀ y v, F y = some v → ∃ b, v = .bool b) (hk : KnAt 152 w kb lo F)
    (hT : ∀ w1, KStep kb w w1 → KnAt 152 w1 kb lo F → F n = none → Calls Tryd.prog 106 #[p0, p1] w1 fun e w2 => TellPost 152 kb lo (.bool xb) Q w1 e w2) :
    Calls Tryd.prog 105 #[.pointer (some ⟨kb, 0, none⟩), .int .i64 n, .func (.func 106) #[] #[p0, p1]] w fun e w' => OfPost 152 kb lo n F (.bool xb) Q w e w' := by
  have HK := hide hk
  have HT := hide hT
  have hlt := hk.lt
  obtain ⟨m, hm, hm0, hm1⟩ := hk
  obtain ⟨-, hm2, hm3⟩ := box1 hm
  have HM0 := hide hm0
  have HM1 := hide hm1
  have HM := hide hm
  have HSH := hide hsh
  have hmm := @run_makeMap Tryd.prog
  have he1 : ∀ W, (binOp .eql 78 (.map none) (.map none)).run Tryd.prog W = .ok (.bool true) W := fun W => by kernel_rfl
  have he2 : ∀ b W, (binOp .eql 78 (.map (some b)) (.map none)).run Tryd.prog W = .ok (.bool false) W := fun b W => by kernel_rfl
  clear hT hm0 hm1 hm hsh
  go_enter Tryd.func105, Tryd.ntmps105
  cases m with
  | none =>
    have HF := hide (HM0.out rfl n)
    obtain ⟨k1, k2, k3⟩ := KnAt.made (lo := lo) HM.out (HM0.out rfl) (by omega) hlt
    have K1 := hide k1
    have K2 := hide k2
    have K3 := hide k3
    have K4 := hide (k1.cellOf k3)
    clear k1 k2
    go_wp2_with (first | (at_lookup; refine look_pl rfl _ _ 78 rfl Tryd.underlying3 Tryd.underlying78 (zeroBool _) (w.heap.size) F rfl K4.out.2 n rfl (by omega) (by omega) ?_; rw [HF.out]))
    refine (HT.out _ K2.out K1.out HF.out).mono ?_
    rintro e w2 ⟨rfl, F2, hQ, hs2, hk2⟩
    have hc2 := hs2.stay _ K3.out
    obtain ⟨hb2, hma2⟩ := hk2.cellOf hc2
    have HMA2 := hide hma2
    have HK2 := hide hk2
    have HS2 := hide (KStep.trans K2.out hs2)
    clear hk2 hs2 hma2
    obtain ⟨-, c1, c2⟩ := box1 hb2
    go_wp2_with (at_mapUpdate; refine store_pl rfl _ _ _ 78 rfl Tryd.underlying3 Tryd.underlying78 (w.heap.size) F2 rfl HMA2.out n rfl (by omega) (by omega) (.bool xb) rfl ?_; intro W9 hm9 hk9)
    go_ret
    obtain ⟨k1, k2⟩ := HK2.out.told hc2 hm9 hk9
    exact ⟨_, HS2.out.trans k2, k1, .inr ⟨HF.out, rfl, F2, hQ, rfl⟩⟩
  | some mb =>
    have HMA := hide (HM1.out mb rfl).1
    cases hf : F n with
    | none =>
      have HF := hide hf
      have hrf := KStep.of_below (Below.refl w.heap.size w) hlt
      clear hf
      go_wp2_with (first | (at_lookup; refine look_pl rfl _ _ 78 rfl Tryd.underlying3 Tryd.underlying78 (zeroBool _) (mb) F rfl HMA.out n rfl (by omega) (by omega) ?_; rw [HF.out]))
      refine (HT.out _ hrf HK.out HF.out).mono ?_
      rintro e w2 ⟨rfl, F2, hQ, hs2, hk2⟩
      have hc2 := hs2.stay _ hm2
      obtain ⟨hb2, hma2⟩ := hk2.cellOf hc2
      have HMA2 := hide hma2
      have HK2 := hide hk2
      have HS2 := hide (KStep.trans hrf hs2)
      clear hk2 hs2 hma2
      obtain ⟨-, c1, c2⟩ := box1 hb2
      go_wp2_with (at_mapUpdate; refine store_pl rfl _ _ _ 78 rfl Tryd.underlying3 Tryd.underlying78 (mb) F2 rfl HMA2.out n rfl (by omega) (by omega) (.bool xb) rfl ?_; intro W9 hm9 hk9)
      go_ret
      obtain ⟨k1, k2⟩ := HK2.out.told hc2 hm9 hk9
      exact ⟨_, HS2.out.trans k2, k1, .inr ⟨HF.out, rfl, F2, hQ, rfl⟩⟩
    | some v =>
      have HF := hide hf
      obtain ⟨b, rfl⟩ := HSH.out n v hf
      clear hf
      go_wp2_with (first | (at_lookup; refine look_pl rfl _ _ 78 rfl Tryd.underlying3 Tryd.underlying78 (zeroBool _) (mb) F rfl HMA.out n rfl (by omega) (by omega) ?_; rw [HF.out]))
      go_ret
      exact ⟨F, KStep.of_below (Below.refl w.heap.size w) hlt, HK.out, .inl ⟨_, HF.out, rfl, rfl⟩⟩

theorem zeroPair (W : World) : (zeroValue 120).run Tryd.prog W = .ok (.agg #[.int .i64 0, .int .i64 0]) W := by kernel_rfl
theorem store_op {P : Program} {W : World} {o : Oper} {a : Act} {K : Act → World → Prop} {Q : Exit → Act → World → Prop} {k e : TypeId} (m x v : Operand) (t : TypeId) (hop : o.op = .mapUpdate t m x v) (hk : P.underlying k = some (.int .i64)) (ht : P.underlying t = some (.map k e))
    (b : Nat) (f : Int → Option Value) (hm : a.eval m = .map (some b)) (h : MapAt W b f) (y : Int) (hx : a.eval x = .int .i64 y) (h0 : -9223372036854775808 ≤ y) (h1 : y ≤ 9223372036854775807) (u : Value) (hv : a.eval v = u)
    (hK : ∀ W', MapAt W' b (fun z => if z = y then some u else f z) → Keep (fun c => c ≠ b) W W' → K (a.put o.dst undef) W') : Oper.wp P o a W K Q := by
  obtain ⟨w', hrun, r1, r2⟩ := h.store hk ht h0 h1 u
  unfold Oper.wp
  simp [execOp, hop, hm, hx, hv, hrun, Result.andThen]
  exact hK w' r1 r2
set_option maxHeartbeats 4000000 in
set_option maxRecDepth 100000 in
theorem ofA_calls (kb lo : Nat) (n : Int) (F : Int → Option Value) (xa xb : Int) (Q : (Int → Option Value) → Prop) (p0 p1 p2 : Value) (w0 : World) (h0 : 0 ≤ n) (h1 : n ≤ 255) (hlo : lo < kb) (hsh : ∀ y v, F y = some v → ∃ a b, v = .agg #[.int .i64 a, .int .i64 b]) (hk : KnAt 119 w0 kb lo F)
    (hT : ∀ w1, KStep kb w0 w1 → KnAt 119 w1 kb lo F → F n = none → Calls Tryd.prog 93 #[p0, p1, p2] w1 fun e w2 => TellPost 119 kb lo (.agg #[.int .i64 xa, .int .i64 xb]) Q w1 e w2) :
    Calls Tryd.prog 92 #[.pointer (some ⟨kb, 0, none⟩), .int .i64 n, .func (.func 93) #[] #[p0, p1, p2]] w0 fun e w' => OfPost 119 kb lo n F (.agg #[.int .i64 xa, .int .i64 xb]) Q w0 e w' := by
  have HT0 := hide hT
  have HSH := hide hsh
  have hmm := @run_makeMap Tryd.prog
  have he1 : ∀ W, (binOp .eql 117 (.map none) (.map none)).run Tryd.prog W = .ok (.bool true) W := fun W => by kernel_rfl
  have he2 : ∀ b W, (binOp .eql 117 (.map (some b)) (.map none)).run Tryd.prog W = .ok (.bool false) W := fun b W => by kernel_rfl
  clear hT hsh
  go_enter Tryd.func92, Tryd.ntmps92
  refine seq_cut (fun a' w' => a' = { tmps := #[.pointer (some ⟨kb, 0, none⟩), .int .i64 n, .func (.func 93) #[] #[p0, p1, p2], undef, undef, undef, .pointer (some ⟨w0.heap.size, 0, none⟩), undef, undef, undef, undef, undef, undef, undef, undef, undef, undef, undef, undef, undef, undef, undef, undef, undef, undef, undef, undef, undef, undef, undef, undef, undef, undef, undef, undef, undef, undef, undef, undef], defers := [] } ∧ w' = w0.alloc (.cells #[.int .i64 0, .int .i64 0] 120)) ?_ ?_
  · go_wp2
    first | done | exact ⟨rfl, rfl⟩ | exact ⟨trivial, trivial⟩
  rintro _ w ⟨rfl, hw⟩
  have hB0 : Below w0.heap.size w0 w := by rw [hw]; exact (Below.refl _ _).alloc (Nat.le_refl _) _
  have hb0 : w.heap[w0.heap.size]? = some (.cells #[.int .i64 0, .int .i64 0] 120 (0, 0)) := by rw [hw]; exact World.alloc_heap_new _ _
  clear hw
  have HBX := hide (hk.boxed hB0 hb0 (Nat.le_refl _))
  have HS0 := hide (KStep.of_below hB0 hk.lt)
  replace hk := hk.below hB0
  have hrb : w0.heap.size < w.heap.size := (Array.getElem?_eq_some_iff.1 hb0).1
  clear hB0 hb0
  have HT := hide (show ∀ w1, KStep kb w w1 → KnAt 119 w1 kb lo F → F n = none → Calls Tryd.prog 93 #[p0, p1, p2] w1 fun e w2 => TellPost 119 kb lo (.agg #[.int .i64 xa, .int .i64 xb]) Q w1 e w2 from fun w1 h => HT0.out w1 (HS0.out.trans h))
  have HFIN : Hid (∀ (w9 : World) (F9 : Int → Option Value) (va vb : Int), KStep kb w w9 → KnAt 119 w9 kb lo F9 → ((∃ v, F n = some v ∧ Ending.returned (.agg #[.int .i64 va, .int .i64 vb]) = .returned v ∧ F9 = F) ∨ (F n = none ∧ Ending.returned (.agg #[.int .i64 va, .int .i64 vb]) = .returned (.agg #[.int .i64 xa, .int .i64 xb]) ∧ ∃ F2, Q F2 ∧ F9 = fun z => if z = n then some (.agg #[.int .i64 xa, .int .i64 xb]) else F2 z)) → OfPost 119 kb lo n F (.agg #[.int .i64 xa, .int .i64 xb]) Q w0 (.returned (.agg #[.int .i64 va, .int .i64 vb])) ((w9.setCell ⟨w0.heap.size, 0, none⟩ (.int .i64 va)).setCell ⟨w0.heap.size, 1, none⟩ (.int .i64 vb))) := by
    refine hide fun w9 F9 va vb hs9 hk9 hor => ?_
    have hbx := HBX.out.step hs9
    obtain ⟨m9, e1, e2, e3⟩ := hk9
    have hkp : Keep (fun b => b ≠ w0.heap.size) w9 ((w9.setCell ⟨w0.heap.size, 0, none⟩ (.int .i64 va)).setCell ⟨w0.heap.size, 1, none⟩ (.int .i64 vb)) := ((Keep.refl _ _).setCell (p := ⟨w0.heap.size, 0, none⟩) (by simp) _).setCell (p := ⟨w0.heap.size, 1, none⟩) (by simp) _
    have hkne : kb ≠ w0.heap.size := fun e => hbx.2.1 e.symm
    have hcc := (box1 e1).2.1
    have hmne : ∀ mb, m9 = some mb → mb ≠ w0.heap.size := fun mb e h => hbx.2.2 (by rw [hcc, e, h])
    have hk9' : KnAt 119 ((w9.setCell ⟨w0.heap.size, 0, none⟩ (.int .i64 va)).setCell ⟨w0.heap.size, 1, none⟩ (.int .i64 vb)) kb lo F9 := ⟨m9, hkp.obj hkne e1, e2, fun mb e => ⟨(e3 mb e).1.keep hkp (hmne mb e), (e3 mb e).2⟩⟩
    refine ⟨F9, ?_, hk9', hor⟩
    have h1 := HS0.out.trans hs9
    have hcell : ((w9.setCell ⟨w0.heap.size, 0, none⟩ (.int .i64 va)).setCell ⟨w0.heap.size, 1, none⟩ (.int .i64 vb)).cell? ⟨kb, 0, none⟩ = w9.cell? ⟨kb, 0, none⟩ := by rw [hcc]; exact (box1 (hkp.obj hkne e1)).2.1
    exact ⟨⟨hkp.os.trans h1.keep.os, hkp.tape.trans h1.keep.tape, hkp.output.trans h1.keep.output, Nat.le_trans h1.keep.size hkp.size, fun x hx hs => (hkp.block x (by have := h1.keep.size; omega) (by omega)).trans (h1.keep.block x hx hs)⟩, fun mb e => h1.map mb (hcell ▸ e), fun mb e => hcell.symm ▸ h1.stay mb e⟩
  have HK := hide hk
  have hlt := hk.lt
  obtain ⟨m, hm, hm0, hm1⟩ := hk
  obtain ⟨-, hm2, hm3⟩ := box1 hm
  have HM0 := hide hm0
  have HM1 := hide hm1
  have HM := hide hm
  clear hm0 hm1 hm HT0
  cases m with
  | none =>
    have HF := hide (HM0.out rfl n)
    obtain ⟨k1, k2, k3⟩ := KnAt.made (lo := lo) HM.out (HM0.out rfl) (by have := HK.out.lt; omega) hlt
    have K1 := hide k1
    have K2 := hide k2
    have K3 := hide k3
    have K4 := hide (k1.cellOf k3)
    clear k1 k2
    go_wp2_with (first | (at_lookup; refine look_pl rfl _ _ 117 rfl Tryd.underlying3 Tryd.underlying117 (zeroPair _) (w.heap.size) F rfl K4.out.2 n rfl (by omega) (by omega) ?_; rw [HF.out]))
    have hal : Below ((w.setCell ⟨kb, 0, none⟩ (.map (some w.heap.size))).alloc (.map #[] 0)).heap.size ((w.setCell ⟨kb, 0, none⟩ (.map (some w.heap.size))).alloc (.map #[] 0)) (((w.setCell ⟨kb, 0, none⟩ (.map (some w.heap.size))).alloc (.map #[] 0)).alloc (.cells #[.int .i64 0, .int .i64 0] 120)) := (Below.refl _ _).alloc (Nat.le_refl _) _
    have ST := hide (KStep.trans K2.out (KStep.of_below hal (K1.out.lt)))
    refine (HT.out _ ST.out (K1.out.below hal) HF.out).mono ?_
    rintro e w2 ⟨rfl, F2, hQ, hs2, hk2⟩
    have hc1 : (((w.setCell ⟨kb, 0, none⟩ (.map (some w.heap.size))).alloc (.map #[] 0)).alloc (.cells #[.int .i64 0, .int .i64 0] 120)).cell? ⟨kb, 0, none⟩ = some (.map (some (w.heap.size))) := (World.cell?_alloc_lt _ _ _ (K1.out.lt)).trans K3.out
    have hc2 := hs2.stay _ hc1
    have HS2 := hide (ST.out.trans hs2)
    have HQ := hide hQ
    clear hal hs2 hc1 hQ
    go_wp2
    have hal : Below w2.heap.size w2 (w2.alloc (.cells #[.int .i64 xa, .int .i64 xb] 120)) := (Below.refl _ _).alloc (Nat.le_refl _) _
    have hn9 : (w2.alloc (.cells #[.int .i64 xa, .int .i64 xb] 120)).heap[w2.heap.size]? = some (.cells #[.int .i64 xa, .int .i64 xb] 120 (0, 0)) := World.alloc_heap_new _ _
    have hbx9 := hk2.boxed hal hn9 (Nat.le_refl _)
    have HS3 := hide (HS2.out.trans (KStep.of_below hal hk2.lt))
    have hc3 := (World.cell?_alloc_lt _ (.cells #[.int .i64 xa, .int .i64 xb] 120) _ (show (⟨kb, 0, none⟩ : Addr).block < w2.heap.size from hk2.lt)).trans hc2
    replace hk2 := hk2.below hal
    generalize (w2.alloc (.cells #[.int .i64 xa, .int .i64 xb] 120)) = w3 at *
    generalize hbb : w2.heap.size = bb at *
    clear hal hc2
    obtain ⟨hb3, hma3⟩ := hk2.cellOf hc3
    have HK3 := hide hk2
    obtain ⟨-, n0, n1, -, -⟩ := box2 hn9
    clear hk2 hb3
    refine drawn_text (fun W' => W'.cell? ⟨kb, 0, none⟩ = some (.map (some (w.heap.size))) ∧ W'.cell? ⟨bb, 0, none⟩ = some (.int .i64 xa) ∧ W'.cell? ⟨bb, 1, none⟩ = some (.int .i64 xb)) [false, false, false, false, false, false, true] [some 32, some 33, some 34, some 35, some 36, some 37, none] (by kernel_rfl) rfl (by kernel_rfl) (by kernel_rfl) (by kernel_rfl) (fun _ _ _ _ _ h => h) ⟨hc3, n0, n1⟩ ?_
    iterate 6 (refine txt_take (v := ?_) rfl ?_ ?_; rotate_left; (intro w hS; obtain ⟨hS0, hS1, hS2⟩ := hS; go_simp; try with_reducible rfl); simp only [Act.put, List.setIfInBounds_toArray, List.set_cons_zero, List.set_cons_succ])
    refine txt_do rfl ?_
    intro K hK
    refine store_op (.tmp 35) (.tmp 36) (.tmp 37) 117 rfl Tryd.underlying3 Tryd.underlying117 (w.heap.size) F2 rfl (hma3.keep (S := fun _ => True) (.of_below (Below.refl _ _).drew) trivial) n rfl (by omega) (by omega) (.agg #[.int .i64 xa, .int .i64 xb]) rfl ?_
    intro W9 hm9 hk9
    have hk9' : Keep (fun c => c ≠ (w.heap.size)) w3 W9 := Keep.trans ((Keep.refl _ _).drew) hk9
    obtain ⟨k1, k2⟩ := HK3.out.told hc3 hm9 hk9'
    have hc9 := k2.stay _ hc3
    obtain ⟨hb9, -, -⟩ := hbx9.step k2
    obtain ⟨-, u0, u1, -, -⟩ := box2 hb9
    refine hK.out _ _ ⟨hc9, u0, u1⟩ ?_
    clear hK K
    refine txt_done ?_
    have hst9 := HS3.out.trans k2
    have HF9 := hide (HFIN.out W9 _ xa xb hst9 k1 (.inr ⟨HF.out, rfl, F2, HQ.out, rfl⟩))
    obtain ⟨hbr, -, -⟩ := HBX.out.step hst9
    obtain ⟨-, q0, q1, q2, q3⟩ := box2 hbr
    obtain ⟨-, r0, r1, -, -⟩ := box2 (box2_set hbr (.int .i64 xa) (.int .i64 xb))
    clear k1 k2 hm9 hk9 hk9' hst9 hbx9 hma3 n0 n1 hc3 hc9 hbr hb9
    go_wp2
    exact bodyPost_ret (v := .agg #[.int .i64 xa, .int .i64 xb]) (by simp [results, Tryd.results92, go_sem, r0, r1]) rfl HF9.out
  | some mb =>
    have HMA := hide (HM1.out mb rfl).1
    cases hf : F n with
    | none =>
      have HF := hide hf
      have hrf := KStep.of_below (Below.refl w.heap.size w) hlt
      clear hf
      go_wp2_with (first | (at_lookup; refine look_pl rfl _ _ 117 rfl Tryd.underlying3 Tryd.underlying117 (zeroPair _) (mb) F rfl HMA.out n rfl (by omega) (by omega) ?_; rw [HF.out]))
      have hal : Below (w).heap.size (w) ((w).alloc (.cells #[.int .i64 0, .int .i64 0] 120)) := (Below.refl _ _).alloc (Nat.le_refl _) _
      have ST := hide (KStep.trans hrf (KStep.of_below hal (HK.out.lt)))
      refine (HT.out _ ST.out (HK.out.below hal) HF.out).mono ?_
      rintro e w2 ⟨rfl, F2, hQ, hs2, hk2⟩
      have hc1 : ((w).alloc (.cells #[.int .i64 0, .int .i64 0] 120)).cell? ⟨kb, 0, none⟩ = some (.map (some (mb))) := (World.cell?_alloc_lt _ _ _ (HK.out.lt)).trans hm2
      have hc2 := hs2.stay _ hc1
      have HS2 := hide (ST.out.trans hs2)
      have HQ := hide hQ
      clear hal hs2 hc1 hQ
      go_wp2
      have hal : Below w2.heap.size w2 (w2.alloc (.cells #[.int .i64 xa, .int .i64 xb] 120)) := (Below.refl _ _).alloc (Nat.le_refl _) _
      have hn9 : (w2.alloc (.cells #[.int .i64 xa, .int .i64 xb] 120)).heap[w2.heap.size]? = some (.cells #[.int .i64 xa, .int .i64 xb] 120 (0, 0)) := World.alloc_heap_new _ _
      have hbx9 := hk2.boxed hal hn9 (Nat.le_refl _)
      have HS3 := hide (HS2.out.trans (KStep.of_below hal hk2.lt))
      have hc3 := (World.cell?_alloc_lt _ (.cells #[.int .i64 xa, .int .i64 xb] 120) _ (show (⟨kb, 0, none⟩ : Addr).block < w2.heap.size from hk2.lt)).trans hc2
      replace hk2 := hk2.below hal
      generalize (w2.alloc (.cells #[.int .i64 xa, .int .i64 xb] 120)) = w3 at *
      generalize hbb : w2.heap.size = bb at *
      clear hal hc2
      obtain ⟨hb3, hma3⟩ := hk2.cellOf hc3
      have HK3 := hide hk2
      obtain ⟨-, n0, n1, -, -⟩ := box2 hn9
      clear hk2 hb3
      refine drawn_text (fun W' => W'.cell? ⟨kb, 0, none⟩ = some (.map (some (mb))) ∧ W'.cell? ⟨bb, 0, none⟩ = some (.int .i64 xa) ∧ W'.cell? ⟨bb, 1, none⟩ = some (.int .i64 xb)) [false, false, false, false, false, false, true] [some 32, some 33, some 34, some 35, some 36, some 37, none] (by kernel_rfl) rfl (by kernel_rfl) (by kernel_rfl) (by kernel_rfl) (fun _ _ _ _ _ h => h) ⟨hc3, n0, n1⟩ ?_
      iterate 6 (refine txt_take (v := ?_) rfl ?_ ?_; rotate_left; (intro w hS; obtain ⟨hS0, hS1, hS2⟩ := hS; go_simp; try with_reducible rfl); simp only [Act.put, List.setIfInBounds_toArray, List.set_cons_zero, List.set_cons_succ])
      refine txt_do rfl ?_
      intro K hK
      refine store_op (.tmp 35) (.tmp 36) (.tmp 37) 117 rfl Tryd.underlying3 Tryd.underlying117 (mb) F2 rfl (hma3.keep (S := fun _ => True) (.of_below (Below.refl _ _).drew) trivial) n rfl (by omega) (by omega) (.agg #[.int .i64 xa, .int .i64 xb]) rfl ?_
      intro W9 hm9 hk9
      have hk9' : Keep (fun c => c ≠ (mb)) w3 W9 := Keep.trans ((Keep.refl _ _).drew) hk9
      obtain ⟨k1, k2⟩ := HK3.out.told hc3 hm9 hk9'
      have hc9 := k2.stay _ hc3
      obtain ⟨hb9, -, -⟩ := hbx9.step k2
      obtain ⟨-, u0, u1, -, -⟩ := box2 hb9
      refine hK.out _ _ ⟨hc9, u0, u1⟩ ?_
      clear hK K
      refine txt_done ?_
      have hst9 := HS3.out.trans k2
      have HF9 := hide (HFIN.out W9 _ xa xb hst9 k1 (.inr ⟨HF.out, rfl, F2, HQ.out, rfl⟩))
      obtain ⟨hbr, -, -⟩ := HBX.out.step hst9
      obtain ⟨-, q0, q1, q2, q3⟩ := box2 hbr
      obtain ⟨-, r0, r1, -, -⟩ := box2 (box2_set hbr (.int .i64 xa) (.int .i64 xb))
      clear k1 k2 hm9 hk9 hk9' hst9 hbx9 hma3 n0 n1 hc3 hc9 hbr hb9
      go_wp2
      exact bodyPost_ret (v := .agg #[.int .i64 xa, .int .i64 xb]) (by simp [results, Tryd.results92, go_sem, r0, r1]) rfl HF9.out
    | some v =>
      have HF := hide hf
      obtain ⟨va, vb, rfl⟩ := HSH.out n v hf
      have HF9 := hide (show OfPost 119 kb lo n F (.agg #[.int .i64 xa, .int .i64 xb]) Q w0 (.returned (.agg #[.int .i64 va, .int .i64 vb])) (((w.setCell ⟨w0.heap.size, 0, none⟩ (.int .i64 va)).setCell ⟨w0.heap.size, 1, none⟩ (.int .i64 vb)).alloc (.cells #[.int .i64 va, .int .i64 vb] 120)) by
        obtain ⟨F', s1, k1, hor⟩ := HFIN.out w F va vb (KStep.of_below (Below.refl w.heap.size w) hlt) HK.out (.inl ⟨_, hf, rfl, rfl⟩)
        have hal := (Below.refl ((w.setCell ⟨w0.heap.size, 0, none⟩ (.int .i64 va)).setCell ⟨w0.heap.size, 1, none⟩ (.int .i64 vb)).heap.size ((w.setCell ⟨w0.heap.size, 0, none⟩ (.int .i64 va)).setCell ⟨w0.heap.size, 1, none⟩ (.int .i64 vb))).alloc (Nat.le_refl _) (.cells #[.int .i64 va, .int .i64 vb] 120)
        exact ⟨F', s1.trans (KStep.of_below hal k1.lt), k1.below hal, hor⟩)
      obtain ⟨hbr, -, -⟩ := HBX.out
      obtain ⟨-, q0, q1, q2, q3⟩ := box2 hbr
      have hbs := box2_set hbr (.int .i64 va) (.int .i64 vb)
      obtain ⟨-, r0, r1, -, -⟩ := box2 ((Below.heap_alloc _ (.cells #[.int .i64 va, .int .i64 vb] 120) _ (Array.getElem?_eq_some_iff.1 hbs).1).trans hbs)
      clear hf hbr hbs
      go_wp2_with (first | (at_lookup; refine look_pl rfl _ _ 117 rfl Tryd.underlying3 Tryd.underlying117 (zeroPair _) (mb) F rfl HMA.out n rfl (by omega) (by omega) ?_; rw [HF.out]))
      exact bodyPost_ret (v := .agg #[.int .i64 va, .int .i64 vb]) (by simp [results, Tryd.results92, go_sem, r0, r1]) rfl HF9.out
end
section
open Go.RowKit

theorem look_run_pl {P : Program} {W : World} {ops : Array Oper} {rest : List Oper} {o : Oper} {a : Act} {Q : Exit → Act → World → Prop} (hg : o.guard = none) (m x : Operand) (t : TypeId) (hop : o.op = .lookup t m x true) {mv xv v : Value} (hm : a.eval m = mv) (hx : a.eval x = xv)
    (hrun : (Instr.lookup t mv xv true).run P W = .ok v W) (hK : wpList P ops Q rest (a.put o.dst v) W) : wpList P ops Q (o :: rest) a W := by
  refine wpList_plain hg fun K' hK' => ?_
  unfold Oper.wp
  simp [execOp, hop, hm, hx, hrun, Result.andThen]
  exact hK' _ _ hK
def occB (v : Int) (t : Tm) : Bool := hasB v (varsT t)
theorem occB_iff {v : Int} {t : Tm} : occB v t = true ↔ occ v t := by rw [occB, hasB_iff, occ_iff]
theorem occB_var {v u : Int} (hu : 0 ≤ u) : occB v (varT u) = decide (v = u) := by
  rw [Bool.eq_iff_iff, occB_iff, occ_var hu, decide_eq_true_iff]
theorem occB_args {v : Int} {S : Sub} {t : Tm} (h : ¬ t.h < 0) : occB v (app S t) = t.args.any fun c => occB v (app S c) := by
  rw [Bool.eq_iff_iff, occB_iff, app_pos h, occ_args (by simpa [Tm.h] using h), List.any_eq_true]
  simp only [Tm.args, appL_map, List.mem_map]
  constructor
  · rintro ⟨c, ⟨d, hd, rfl⟩, hc⟩; exact ⟨d, hd, occB_iff.2 hc⟩
  · rintro ⟨d, hd, hc⟩; exact ⟨_, ⟨d, hd, rfl⟩, occB_iff.1 hc⟩
theorem any_drop {α : Type} (p : α → Bool) (l : List α) (k : Nat) (h : k < l.length) : (l.drop k).any p = (p l[k] || (l.drop (k + 1)).any p) := by
  rw [List.drop_eq_getElem_cons h, List.any_cons]

/-- What (*solver).has keeps: its boxes, the solver, what is known. -/
structure HCtx (A : Nat → Prop) (sb ss : Nat) (f : Env) (S : Sub) (v : Int) (vb sbx lb kb : Nat) (w : World) (F : Int → Option Value) : Prop where
  bv : Boxed kb w vb (.cells #[.int .i64 v] 3 (0, 0))
  bs : Boxed kb w sbx (.cells #[.pointer (some ⟨ss, 0, none⟩)] 100 (0, 0))
  bl : Boxed kb w lb (.cells #[.func (.func 104) #[] #[.pointer (some ⟨vb, 0, none⟩), .pointer (some ⟨sbx, 0, none⟩), .pointer (some ⟨kb, 0, none⟩), .pointer (some ⟨lb, 0, none⟩)]] 26 (0, 0))
  sol : SolAt A w sb ss f
  kn : KnAt 152 w kb ss F
  lt : ss < kb
  ok : ∀ x u, F x = some u → u = .bool (occB v (S x))
section
variable {A : Nat → Prop} {sb ss : Nat} {f : Env} {S : Sub} {v : Int} {vb sbx lb kb : Nat}
theorem HCtx.step {w w' : World} {F F' : Int → Option Value} (h : HCtx A sb ss f S v vb sbx lb kb w F) (k : KStep kb w w') (hk : KnAt 152 w' kb ss F') (ho : ∀ x u, F' x = some u → u = .bool (occB v (S x))) : HCtx A sb ss f S v vb sbx lb kb w' F' :=
  ⟨h.bv.step k, h.bs.step k, h.bl.step k, h.sol.keep (k.low h.kn h.lt) (fun _ hb => hb), hk, h.lt, ho⟩
theorem HCtx.below {w w' : World} {F : Int → Option Value} (h : HCtx A sb ss f S v vb sbx lb kb w F) (hB : Below w.heap.size w w') : HCtx A sb ss f S v vb sbx lb kb w' F :=
  h.step (.of_below hB h.kn.lt) (h.kn.below hB) h.ok
/-- An old term, in a later world. -/
theorem HCtx.old {w w' : World} {F : Int → Option Value} (h : HCtx A sb ss f S v vb sbx lb kb w F) (k : KStep kb w w') {x : Int} {s : Value} {t : Tm} (ht : IsTm (OldA sb A) w x s t) : IsTm (OldA sb A) w' x s t :=
  ht.keep9 (k.low h.kn h.lt) fun b _ hb => by have := h.sol.lt; simp only [OldA, not_or] at hb; omega
theorem HCtx.olds {w w' : World} {F : Int → Option Value} (h : HCtx A sb ss f S v vb sbx lb kb w F) (k : KStep kb w w') {s : Value} {l : List Tm} (ht : Terms (OldA sb A) w s l) : Terms (OldA sb A) w' s l :=
  Terms.keep ht (k.low h.kn h.lt) fun b _ hb => by have := h.sol.lt; simp only [OldA, not_or] at hb; omega
end
def LookPost (A : Nat → Prop) (sb ss : Nat) (f : Env) (S : Sub) (v : Int) (vb sbx lb kb : Nat) (r : Bool) (w : World) (e : Ending) (w' : World) : Prop :=
  e = .returned (.bool r) ∧ ∃ F', HCtx A sb ss f S v vb sbx lb kb w' F' ∧ KStep kb w w'
def LookC (A : Nat → Prop) (sb ss : Nat) (f : Env) (S : Sub) (v : Int) (vb sbx lb kb : Nat) (t : Tm) : Prop :=
  ∀ (w : World) (F : Int → Option Value) (h : Int) (s : Value), HCtx A sb ss f S v vb sbx lb kb w F → IsTm (OldA sb A) w h s t →
    Calls Tryd.prog 104 #[.agg #[.int .i64 h, s], .pointer (some ⟨vb, 0, none⟩), .pointer (some ⟨sbx, 0, none⟩), .pointer (some ⟨kb, 0, none⟩), .pointer (some ⟨lb, 0, none⟩)] w fun e w' => LookPost A sb ss f S v vb sbx lb kb (occB v (app S t)) w e w'

set_option maxHeartbeats 2000000 in
set_option maxRecDepth 100000 in
theorem lookindex_calls (A : Nat → Prop) (sb ss : Nat) (f : Env) (S : Sub) (v : Int) (vb sbx lb kb : Nat) (ts : List Tm) (F : Int → Option Value) (s : Value) (w : World) (hc : HCtx A sb ss f S v vb sbx lb kb w F) (hs : Terms (OldA sb A) w s ts)
    (hL : ∀ t, t ∈ ts → LookC A sb ss f S v vb sbx lb kb t) :
    Calls Tryd.prog 69 #[s, .func (.func 104) #[] #[.pointer (some ⟨vb, 0, none⟩), .pointer (some ⟨sbx, 0, none⟩), .pointer (some ⟨kb, 0, none⟩), .pointer (some ⟨lb, 0, none⟩)]] w fun e w' =>
      (∃ i : Int, e = .returned (.int .i64 i) ∧ decide (0 ≤ i) = ts.any fun t => occB v (app S t)) ∧ ∃ F', HCtx A sb ss f S v vb sbx lb kb w' F' ∧ KStep kb w w' := by
  obtain ⟨a, c, rfl, hlc, hcc⟩ := hs.shape
  have hl : ts.length ≤ 9223372036854775807 := by omega
  have HL := hide hL
  have HC := hide hc
  have HTS := hide hs
  clear hL hc
  have HG := hide (show (ts.drop 0).any (fun t => occB v (app S t)) = ts.any fun t => occB v (app S t) by simp)
  go_enter Tryd.func69, Tryd.ntmps69
  go_wp2
  go_loopw [8] (fun i wr => ∃ (k : Nat) (F' : Int → Option Value), k ≤ ts.length ∧ i = .int .i64 k ∧ Hid ((ts.drop k).any (fun t => occB v (app S t)) = ts.any fun t => occB v (app S t)) ∧ Hid (HCtx A sb ss f S v vb sbx lb kb wr F') ∧ Hid (KStep kb w wr)) (fun i _ => ts.length - (intOf i).toNat)
  case atStart => exact ⟨0, F, by omega, rfl, HG, HC, hide (KStep.of_below (Below.refl _ _) HC.out.kn.lt)⟩
  case round =>
    obtain ⟨k, F', hk, rfl, hx, hcx, hst⟩ := hrel
    by_cases hlt : k < ts.length
    · obtain ⟨b, off, a', c', rfl, hbs, -, g0, g1, gt⟩ := (HC.out.olds hst.out HTS.out).get k hlt
      have hlk := HL.out ts[k] (List.getElem_mem hlt)
      have HX2 := hide (hx.out.symm.trans (any_drop _ _ _ hlt))
      clear hx
      go_wp2_with fail
      refine (hlk wr F' _ _ hcx.out ⟨rfl, gt⟩).mono ?_
      rintro e w4 ⟨rfl, F4, h4, k4⟩
      have hcx4 := hide h4
      have hst4 := hide (hst.out.trans k4)
      generalize occB v (app S ts[k]) = x at *
      clear h4 k4 g0 g1 gt hlk hcx hst
      cases x
      · have HX := hide (show (ts.drop (k + 1)).any (fun t => occB v (app S t)) = ts.any fun t => occB v (app S t) by rw [HX2.out]; rfl)
        clear HX2
        go_wp2
        go_roundw
        case rel => exact ⟨k + 1, F4, by omega, by go_num, HX, hcx4, hst4⟩
        case measure => simp [intOf]; omega
      · have HX := hide (show ts.any (fun t => occB v (app S t)) = true by rw [HX2.out]; rfl)
        clear HX2
        go_wp2
        go_ret
        exact ⟨⟨_, rfl, by rw [HX.out]; simp⟩, F4, hcx4.out, hst4.out⟩
    · have HX := hide (show ts.any (fun t => occB v (app S t)) = false by have := hx.out; rw [List.drop_of_length_le (by omega)] at this; simpa using this.symm)
      clear hx
      go_wp2
      go_ret
      exact ⟨⟨_, rfl, by rw [HX.out]; rfl⟩, F', hcx.out, hst.out⟩
theorem lookany_calls (A : Nat → Prop) (sb ss : Nat) (f : Env) (S : Sub) (v : Int) (vb sbx lb kb : Nat) (ts : List Tm) (F : Int → Option Value) (s : Value) (w : World) (hc : HCtx A sb ss f S v vb sbx lb kb w F) (hs : Terms (OldA sb A) w s ts)
    (hL : ∀ t, t ∈ ts → LookC A sb ss f S v vb sbx lb kb t) :
    Calls Tryd.prog 56 #[s, .func (.func 104) #[] #[.pointer (some ⟨vb, 0, none⟩), .pointer (some ⟨sbx, 0, none⟩), .pointer (some ⟨kb, 0, none⟩), .pointer (some ⟨lb, 0, none⟩)]] w fun e w' =>
      LookPost A sb ss f S v vb sbx lb kb (ts.any fun t => occB v (app S t)) w e w' := by
  have hi := lookindex_calls A sb ss f S v vb sbx lb kb ts F s w hc hs hL
  clear hL hc hs
  go_enter Tryd.func56, Tryd.ntmps56
  go_wp2_with fail
  refine hi.mono ?_
  rintro e w1 ⟨⟨i, rfl, hx⟩, F', h1, h2⟩
  have HX := hide hx
  have H1 := hide h1
  have H2 := hide h2
  clear hi hx h1 h2
  go_wp2
  go_ret
  exact ⟨by rw [← HX.out]; rfl, F', H1.out, H2.out⟩
set_option maxHeartbeats 2000000 in
set_option maxRecDepth 100000 in
/-- The closure that tells. -/
theorem looktell_calls (A : Nat → Prop) (sb ss : Nat) (f : Env) (S : Sub) (v : Int) (vb sbx lb kb ub : Nat) (u : Tm) (au : Option Addr) (cu : Nat) (F : Int → Option Value) (w : World) (hc : HCtx A sb ss f S v vb sbx lb kb w F)
    (hu : w.heap[ub]? = some (.cells #[.int .i64 u.h, .slice au u.args.length cu] 24 (0, 0))) (ht : IsTm (OldA sb A) w u.h (.slice au u.args.length cu) u) (hL : LookC A sb ss f S v vb sbx lb kb u) :
    Calls Tryd.prog 106 #[.pointer (some ⟨lb, 0, none⟩), .pointer (some ⟨ub, 0, none⟩)] w fun e w' => LookPost A sb ss f S v vb sbx lb kb (occB v (app S u)) w e w' := by
  have hi := hL w F _ _ hc ht
  obtain ⟨-, z0, z1, -, -⟩ := box2 hu
  obtain ⟨-, y0, -⟩ := box1 hc.bl.1
  clear hL hc hu ht
  go_enter Tryd.func106, Tryd.ntmps106
  go_wp2_with fail
  refine hi.mono ?_
  rintro e w1 ⟨rfl, F', h1, h2⟩
  have H1 := hide h1
  have H2 := hide h2
  clear hi h1 h2 z0 z1 y0
  go_wp2
  go_ret
  exact ⟨rfl, F', H1.out, H2.out⟩
set_option maxHeartbeats 4000000 in
set_option maxRecDepth 100000 in
theorem look_calls (A : Nat → Prop) (sb ss : Nat) (f : Env) (S : Sub) (hS : Solved f S) (v : Int) (h0 : 0 ≤ v) (h1 : v ≤ 255) (hfv : f v = none) (vb sbx lb kb : Nat) : ∀ (n N : Nat) (t : Tm), t.size ≤ N → t.good = true → (∀ u, occ u t → rankU S u < n) → LookC A sb ss f S v vb sbx lb kb t := by
  intro n
  induction n using Nat.strongRecOn with
  | ind n ihn =>
  intro N
  induction N with
  | zero => intro t ht; have := t.size_eq; omega
  | succ N ih =>
    intro t hts hg hr w F h s hc ht
    obtain ⟨rfl, a, c, rfl, hlc, hcc⟩ := ht.shape
    have hgo := good_args hg
    have HC0 := hide hc
    have HT0 := hide ht
    clear hc ht
    go_enter Tryd.func104, Tryd.ntmps104
    refine seq_cut (fun a' w' => a' = { tmps := #[.agg #[.int .i64 t.h, .slice a t.args.length c], .pointer (some ⟨vb, 0, none⟩), .pointer (some ⟨sbx, 0, none⟩), .pointer (some ⟨kb, 0, none⟩), .pointer (some ⟨lb, 0, none⟩), .pointer (some ⟨w.heap.size, 0, none⟩), .bool false, undef, undef, undef, undef, undef, undef, undef, undef, undef, undef, undef, undef, undef, undef, undef, undef, undef, undef, undef, undef, undef, undef, undef, undef, undef, undef, undef, undef, undef, undef, undef], defers := [] } ∧ w' = w.alloc (.cells #[.int .i64 t.h, .slice a t.args.length c] 24)) ?_ ?_
    · go_wp2
      first | done | exact ⟨rfl, rfl⟩ | exact ⟨trivial, trivial⟩
    rintro _ W ⟨rfl, HW⟩
    have hB : Below w.heap.size w W := by rw [HW]; exact (Below.refl _ _).alloc (Nat.le_refl _) _
    have hb : W.heap[w.heap.size]? = some (.cells #[.int .i64 t.h, .slice a t.args.length c] 24 (0, 0)) := by rw [HW]; exact World.alloc_heap_new _ _
    have HC := hide (HC0.out.below hB)
    have HT := hide (HC0.out.old (KStep.of_below hB HC0.out.kn.lt) HT0.out)
    have HS0 := hide (KStep.of_below hB HC0.out.kn.lt)
    obtain ⟨-, z0, z1, -, -⟩ := box2 hb
    obtain ⟨-, y0, -⟩ := box1 HC.out.bv.1
    obtain ⟨-, y1, -⟩ := box1 HC.out.bs.1
    obtain ⟨-, y2, -⟩ := box1 HC.out.bl.1
    have y3 := HC.out.sol.load
    clear HW hB hb HC0 HT0
    by_cases hneg : t.h < 0
    · have hx0 : 0 ≤ -1 - t.h := by omega
      have hx1 : -1 - t.h ≤ 255 := by omega
      have hap : app S t = S (-1 - t.h) := app_neg hneg
      by_cases hxv : -1 - t.h = v
      · have hd : (-1 - t.h == v) = true := by simpa using hxv
        have HR := hide (show occB v (app S t) = true by rw [hap, hxv, hS.free v hfv, occB_var h0]; simp)
        clear hxv hap
        go_wp2
        go_ret
        exact ⟨by rw [HR.out]; rfl, F, HC.out, HS0.out⟩
      · have hd : (-1 - t.h == v) = false := by simpa using hxv
        obtain ⟨vl, is, hrun, -, his, hh, av, nv, cv, rfl, hTv⟩ := HC.out.sol.look hx0 hx1
        have HRUN := hide hrun
        have HIS := hide his
        have HTV := hide hTv
        have HAP := hide hap
        have HRK := hide (hr (-1 - t.h) ⟨hx0, by rw [show -1 - (-1 - t.h) = t.h by omega, Tm.heads_eq]; exact List.mem_cons_self⟩)
        have HXV := hide hxv
        clear hrun his hTv hap hr hxv
        cases is
        · have HF : Hid (f (-1 - t.h) = none) := hide (by
            have := HIS.out
            cases hf : f (-1 - t.h) with
            | none => rfl
            | some u => rw [hf] at this; cases this)
          have HR := hide (show occB v (app S t) = false by rw [HAP.out, hS.free _ HF.out, occB_var hx0]; simp; intro e; exact HXV.out e.symm)
          go_wp2_with (at_lookup; refine look_run_pl rfl (.tmp 23) (.tmp 24) 91 rfl rfl rfl HRUN.out ?_)
          go_ret
          have hal := (Below.refl W.heap.size W).alloc (Nat.le_refl _) (.cells #[.int .i64 hh, .slice av nv cv] 24)
          exact ⟨by rw [HR.out]; rfl, F, HC.out.below hal, HS0.out.trans (KStep.of_below hal HC.out.kn.lt)⟩
        · obtain ⟨u, hu⟩ : ∃ u, f (-1 - t.h) = some u := by
            have := HIS.out
            cases hf : f (-1 - t.h) with
            | none => rw [hf] at this; cases this
            | some u => exact ⟨u, rfl⟩
          have hTu := HTV.out u hu
          obtain rfl := hTu.1
          obtain ⟨-, a9, c9, hsl, -, -⟩ := hTu.shape
          obtain ⟨rfl, rfl, rfl⟩ : av = a9 ∧ nv = u.args.length ∧ cv = c9 := by simpa using hsl
          clear hsl
          have hal := (Below.refl W.heap.size W).alloc (Nat.le_refl _) (.cells #[.int .i64 u.h, .slice av u.args.length cv] 24)
          have hub : (W.alloc (.cells #[.int .i64 u.h, .slice av u.args.length cv] 24)).heap[W.heap.size]? = some (.cells #[.int .i64 u.h, .slice av u.args.length cv] 24 (0, 0)) := World.alloc_heap_new _ _
          have HUB := hide (HC.out.kn.boxed hal hub (Nat.le_refl _))
          have HC2 := hide (HC.out.below hal)
          have HS2 := hide (HS0.out.trans (KStep.of_below hal HC.out.kn.lt))
          have HT2 := hide (HC.out.old (KStep.of_below hal HC.out.kn.lt) hTu)
          have HL : Hid (LookC A sb ss f S v vb sbx lb kb u) := hide (ihn _ HRK.out u.size u (Nat.le_refl _) (hS.rng _ _ hu).2.2 fun y hy => rank_step hS hu hy)
          have HFX := hide (show app S t = app S u by rw [HAP.out, hS.fix _ _ hu])
          have HFX2 := hide (hS.fix _ _ hu)
          clear hal hub hTu hu
          go_wp2_with (at_lookup; refine look_run_pl rfl (.tmp 23) (.tmp 24) 91 rfl rfl rfl HRUN.out ?_)
          refine (ofB_calls kb ss (-1 - t.h) F (occB v (S (-1 - t.h))) (fun F2 => ∀ x u, F2 x = some u → u = .bool (occB v (S x))) _ _ _ hx0 hx1 HC2.out.lt (fun y u hy => ⟨_, HC2.out.ok y u hy⟩) HC2.out.kn ?_).mono ?_
          · intro w1 hs1 hk1 hF1
            refine (looktell_calls A sb ss f S v vb sbx lb kb _ u av cv F w1 (HC2.out.step hs1 hk1 HC2.out.ok) (HUB.out.step hs1).1 (HC2.out.old hs1 HT2.out) HL.out).mono ?_
            rintro e w2 ⟨rfl, F2, hc2, hs2⟩
            exact ⟨by rw [← HFX2.out], F2, hc2.ok, hs2, hc2.kn⟩
          rintro e w3 ⟨F3, hs3, hk3, hor⟩
          have HE : Hid (e = .returned (.bool (occB v (app S t))) ∧ ∀ x u, F3 x = some u → u = .bool (occB v (S x))) := by
            refine hide ?_
            rw [HAP.out]
            rcases hor with ⟨vv, h9, rfl, rfl⟩ | ⟨h9, rfl, F2, h10, rfl⟩
            · exact ⟨by rw [HC2.out.ok _ _ h9], HC2.out.ok⟩
            · refine ⟨rfl, fun x u hx => ?_⟩
              dsimp only at hx
              by_cases e : x = -1 - t.h
              · rw [if_pos e, Option.some.injEq] at hx
                rw [← hx, e]
              · rw [if_neg e] at hx
                exact h10 x u hx
          obtain ⟨rfl, hok⟩ := HE.out
          have HC3 := hide (HC2.out.step hs3 hk3 hok)
          have HS3 := hide (HS2.out.trans hs3)
          clear HE hor hs3 hk3 hok
          generalize hrr : occB v (app S t) = rr
          have HRR := hide hrr
          clear hrr
          go_wp2
          go_ret
          exact ⟨by rw [HRR.out]; rfl, F3, HC3.out, HS3.out⟩
    · have HR := hide (occB_args (v := v) (S := S) hneg)
      have hL : ∀ c, c ∈ t.args → LookC A sb ss f S v vb sbx lb kb c := fun c hcm => by
        have hsz := t.size_eq
        obtain ⟨i, hi, rfl⟩ := List.getElem_of_mem hcm
        have := Tm.size_get t.args i hi
        exact ih _ (by omega) (hgo.2.2 i hi) fun u hu => hr u ((occ_args hneg).2 ⟨_, hcm, hu⟩)
      have hla := lookany_calls A sb ss f S v vb sbx lb kb t.args F (.slice a t.args.length c) W HC.out HT.out.2 hL
      clear hL hr
      go_wp2_with fail
      refine hla.mono ?_
      rintro e w1 ⟨rfl, F', h1, h2⟩
      have H1 := hide h1
      have H2 := hide (HS0.out.trans h2)
      clear hla h1 h2
      rw [← HR.out]
      generalize hrr : occB v (app S t) = rr
      have HRR := hide hrr
      clear hrr
      go_wp2
      go_ret
      exact ⟨by rw [HRR.out]; rfl, F', H1.out, H2.out⟩
end
section
open Go.RowKit

/-- A box of the call's own, filled. -/
theorem KnAt.boxset {T : TypeId} {w w0 : World} {kb lo b : Nat} {F : Int → Option Value} {x y : Value} {t : TypeId} (hk : KnAt T w kb lo F) (hb : Boxed kb w b (.cells #[x, y] t (0, 0))) (hs : KStep kb w0 w) (h0 : w0.heap.size ≤ b) (u v : Value) :
    KnAt T ((w.setCell ⟨b, 0, none⟩ u).setCell ⟨b, 1, none⟩ v) kb lo F ∧ KStep kb w0 ((w.setCell ⟨b, 0, none⟩ u).setCell ⟨b, 1, none⟩ v) := by
  obtain ⟨m9, e1, e2, e3⟩ := hk
  have hkp : Keep (fun c => c ≠ b) w ((w.setCell ⟨b, 0, none⟩ u).setCell ⟨b, 1, none⟩ v) := ((Keep.refl _ _).setCell (p := ⟨b, 0, none⟩) (by simp) _).setCell (p := ⟨b, 1, none⟩) (by simp) _
  have hkne : kb ≠ b := fun e => hb.2.1 e.symm
  have hcc := (box1 e1).2.1
  have hmne : ∀ mb, m9 = some mb → mb ≠ b := fun mb e h => hb.2.2 (by rw [hcc, e, h])
  have hcell : ((w.setCell ⟨b, 0, none⟩ u).setCell ⟨b, 1, none⟩ v).cell? ⟨kb, 0, none⟩ = w.cell? ⟨kb, 0, none⟩ := by rw [hcc]; exact (box1 (hkp.obj hkne e1)).2.1
  exact ⟨⟨m9, hkp.obj hkne e1, e2, fun mb e => ⟨(e3 mb e).1.keep hkp (hmne mb e), (e3 mb e).2⟩⟩,
    ⟨⟨hkp.os.trans hs.keep.os, hkp.tape.trans hs.keep.tape, hkp.output.trans hs.keep.output, Nat.le_trans hs.keep.size hkp.size, fun x hx hS => (hkp.block x (by have := hs.keep.size; omega) (by omega)).trans (hs.keep.block x hx hS)⟩, fun mb e => hs.map mb (hcell ▸ e), fun mb e => hcell.symm ▸ hs.stay mb e⟩⟩
theorem Boxed.set {w : World} {kb b : Nat} {x y : Value} {t : TypeId} (h : Boxed kb w b (.cells #[x, y] t (0, 0))) (u v : Value) : Boxed kb ((w.setCell ⟨b, 0, none⟩ u).setCell ⟨b, 1, none⟩ v) b (.cells #[u, v] t (0, 0)) := by
  refine ⟨box2_set h.1 u v, h.2.1, fun e => h.2.2 ?_⟩
  have e1 : ((w.setCell ⟨b, 0, none⟩ u).setCell ⟨b, 1, none⟩ v).heap[kb]? = w.heap[kb]? := (Below.heap_setCell _ _ _ _ (by show kb ≠ b; exact fun e => h.2.1 e.symm)).trans (Below.heap_setCell _ _ _ _ (by show kb ≠ b; exact fun e => h.2.1 e.symm))
  simp only [World.cell?, e1] at e ⊢
  exact e
theorem KnAt.boxset1 {T : TypeId} {w w0 : World} {kb lo b : Nat} {F : Int → Option Value} {x y : Value} {t : TypeId} (hk : KnAt T w kb lo F) (hb : Boxed kb w b (.cells #[x, y] t (0, 0))) (hs : KStep kb w0 w) (h0 : w0.heap.size ≤ b) (v : Value) :
    KnAt T (w.setCell ⟨b, 1, none⟩ v) kb lo F ∧ KStep kb w0 (w.setCell ⟨b, 1, none⟩ v) ∧ (∀ c o, c ≠ b → Boxed kb w c o → Boxed kb (w.setCell ⟨b, 1, none⟩ v) c o) ∧ (w.setCell ⟨b, 1, none⟩ v).heap[b]? = some (.cells #[x, v] t (0, 0)) := by
  obtain ⟨m9, e1, e2, e3⟩ := hk
  have hkp : Keep (fun c => c ≠ b) w (w.setCell ⟨b, 1, none⟩ v) := (Keep.refl _ _).setCell (p := ⟨b, 1, none⟩) (by simp) _
  have hkne : kb ≠ b := fun e => hb.2.1 e.symm
  have hcc := (box1 e1).2.1
  have hmne : ∀ mb, m9 = some mb → mb ≠ b := fun mb e h => hb.2.2 (by rw [hcc, e, h])
  have hcell : (w.setCell ⟨b, 1, none⟩ v).cell? ⟨kb, 0, none⟩ = w.cell? ⟨kb, 0, none⟩ := by rw [hcc]; exact (box1 (hkp.obj hkne e1)).2.1
  exact ⟨⟨m9, hkp.obj hkne e1, e2, fun mb e => ⟨(e3 mb e).1.keep hkp (hmne mb e), (e3 mb e).2⟩⟩,
    ⟨⟨hkp.os.trans hs.keep.os, hkp.tape.trans hs.keep.tape, hkp.output.trans hs.keep.output, Nat.le_trans hs.keep.size hkp.size, fun x hx hS => (hkp.block x (by have := hs.keep.size; omega) (by omega)).trans (hs.keep.block x hx hS)⟩, fun mb e => hs.map mb (hcell ▸ e), fun mb e => hcell.symm ▸ hs.stay mb e⟩,
    fun c o hc h => ⟨hkp.obj hc h.1, h.2.1, fun e => h.2.2 (hcell ▸ e)⟩, box2_set1 hb.1 v⟩
def zm (t : Tm) : Int := min (t.size : Int) 401
def dm (t : Tm) : Int := min (t.depth : Int) 41
def okMS (S : Sub) (F : Int → Option Value) : Prop := ∀ x u, F x = some u → u = .agg #[.int .i64 (zm (S x)), .int .i64 (dm (S x))]
/-- Of a variable that is bound something is told. -/
def toldM (f : Env) (t : Tm) (F : Int → Option Value) : Prop := t.h < 0 → (∃ u, f (-1 - t.h) = some u) → ∃ u, F (-1 - t.h) = some u
def MeasPost (kb ss : Nat) (f : Env) (S : Sub) (t : Tm) (w : World) (e : Ending) (w' : World) : Prop :=
  e = .returned (.agg #[.int .i64 (zm (app S t)), .int .i64 (dm (app S t))]) ∧ ∃ F', KStep kb w w' ∧ KnAt 119 w' kb ss F' ∧ okMS S F' ∧ toldM f t F'
def MeasC (A : Nat → Prop) (sb ss : Nat) (f : Env) (S : Sub) (kb : Nat) (t : Tm) : Prop :=
  ∀ (w : World) (F : Int → Option Value) (h : Int) (s : Value), SolAt A w sb ss f → KnAt 119 w kb ss F → okMS S F → IsTm (OldA sb A) w h s t →
    Calls Tryd.prog 73 #[.pointer (some ⟨ss, 0, none⟩), .pointer (some ⟨kb, 0, none⟩), .agg #[.int .i64 h, s]] w fun e w' => MeasPost kb ss f S t w e w'
theorem SolAt.kstep {A : Nat → Prop} {T : TypeId} {w w' : World} {sb ss kb : Nat} {f : Env} {F : Int → Option Value} (h : SolAt A w sb ss f) (hk : KnAt T w kb ss F) (hlt : ss < kb) (k : KStep kb w w') : SolAt A w' sb ss f := h.keep (k.low hk hlt) fun _ hb => hb
theorem IsTm.kstep {A : Nat → Prop} {T : TypeId} {w w' : World} {sb ss kb : Nat} {F : Int → Option Value} (hsb : sb < ss) (hk : KnAt T w kb ss F) (hlt : ss < kb) (k : KStep kb w w') {x : Int} {s : Value} {t : Tm} (ht : IsTm (OldA sb A) w x s t) : IsTm (OldA sb A) w' x s t :=
  ht.keep9 (k.low hk hlt) fun b _ hb => by simp only [OldA, not_or] at hb; omega

set_option maxHeartbeats 4000000 in
set_option maxRecDepth 100000 in
theorem meastell_calls (A : Nat → Prop) (sb ss : Nat) (f : Env) (S : Sub) (kb p q ub : Nat) (hlt : ss < kb) (u : Tm) (au : Option Addr) (cu : Nat) (F : Int → Option Value) (w : World) (hsol : SolAt A w sb ss f) (hk : KnAt 119 w kb ss F) (hok : okMS S F)
    (hp : w.heap[p]? = some (.cells #[.pointer (some ⟨ss, 0, none⟩)] 100 (0, 0))) (hq : w.heap[q]? = some (.cells #[.pointer (some ⟨kb, 0, none⟩)] 122 (0, 0)))
    (hu : w.heap[ub]? = some (.cells #[.int .i64 u.h, .slice au u.args.length cu] 24 (0, 0))) (ht : IsTm (OldA sb A) w u.h (.slice au u.args.length cu) u) (hL : MeasC A sb ss f S kb u) :
    Calls Tryd.prog 93 #[.pointer (some ⟨p, 0, none⟩), .pointer (some ⟨q, 0, none⟩), .pointer (some ⟨ub, 0, none⟩)] w fun e w' => MeasPost kb ss f S u w e w' := by
  have hsb := hsol.lt
  have hB : Below w.heap.size w (w.alloc (.cells #[.int .i64 0, .int .i64 0] 120)) := (Below.refl _ _).alloc (Nat.le_refl _) _
  have hb : (w.alloc (.cells #[.int .i64 0, .int .i64 0] 120)).heap[w.heap.size]? = some (.cells #[.int .i64 0, .int .i64 0] 120 (0, 0)) := World.alloc_heap_new _ _
  have HBX := hide (hk.boxed hB hb (Nat.le_refl _))
  have HS0 := hide (KStep.of_below hB hk.lt)
  have hi := hL _ F _ _ (hsol.below hB) (hk.below hB) hok (ht.below hB)
  obtain ⟨-, z0, -⟩ := box1 ((hB.block _ (Array.getElem?_eq_some_iff.1 hp).1).trans hp)
  obtain ⟨-, z1, -⟩ := box1 ((hB.block _ (Array.getElem?_eq_some_iff.1 hq).1).trans hq)
  obtain ⟨-, z2, z3, -, -⟩ := box2 ((hB.block _ (Array.getElem?_eq_some_iff.1 hu).1).trans hu)
  clear hL hsol hk hok hp hq hu ht hb hB
  go_enter Tryd.func93, Tryd.ntmps93
  go_wp2_with fail
  refine hi.mono ?_
  rintro e w1 ⟨rfl, F', h1, h2, h3, h4⟩
  have K4 := hide h4
  obtain ⟨k1, k2⟩ := h2.boxset (HBX.out.step h1) (HS0.out.trans h1) (Nat.le_refl _) (.int .i64 (zm (app S u))) (.int .i64 (dm (app S u)))
  have K1 := hide k1
  have K2 := hide k2
  have K3 := hide h3
  have hbx := (HBX.out.step h1).1
  obtain ⟨-, q0, q1, q2, q3⟩ := box2 hbx
  obtain ⟨-, r0, r1, -, -⟩ := box2 (box2_set hbx (.int .i64 (zm (app S u))) (.int .i64 (dm (app S u))))
  clear hi h1 h2 h3 h4 k1 k2 z0 z1 z2 z3 hbx
  generalize hzz : zm (app S u) = zz at *
  generalize hdd : dm (app S u) = dd at *
  have HZ := hide hzz
  have HD := hide hdd
  clear hzz hdd
  go_wp2
  exact bodyPost_ret (v := .agg #[.int .i64 zz, .int .i64 dd]) (by simp [results, Tryd.results93, go_sem, r0, r1]) rfl ⟨by rw [HZ.out, HD.out], F', K2.out, K1.out, K3.out, K4.out⟩

theorem depths_snoc : ∀ (l : List Tm) (t : Tm), Tm.depths (l ++ [t]) = max (Tm.depths l) t.depth
  | [], t => by simp [Tm.depths]
  | x :: l, t => by simp only [List.cons_append, Tm.depths, depths_snoc l t]; omega
theorem depth_eq (t : Tm) : t.depth = 1 + Tm.depths t.args := by cases t; simp [Tm.depth, Tm.args]
def zk (S : Sub) (l : List Tm) : Int := min (1 + (Tm.sizes (appL S l) : Int)) 401
def dk (S : Sub) (l : List Tm) : Int := min (Tm.depths (appL S l) : Int) 41
theorem appL_take (S : Sub) (l : List Tm) (k : Nat) (h : k < l.length) : appL S (l.take (k + 1)) = appL S (l.take k) ++ [app S l[k]] := by
  rw [appL_map, appL_map, List.take_succ_eq_append_getElem h, List.map_append]; rfl
theorem zk_step (S : Sub) (l : List Tm) (k : Nat) (h : k < l.length) : min (zk S (l.take k) + zm (app S l[k])) 401 = zk S (l.take (k + 1)) := by
  unfold zk zm
  rw [appL_take S l k h, Tm.sizes_append]
  simp only [Tm.sizes]
  push_cast
  omega
theorem dk_step (S : Sub) (l : List Tm) (k : Nat) (h : k < l.length) : max (dk S (l.take k)) (dm (app S l[k])) = dk S (l.take (k + 1)) := by
  unfold dk dm
  rw [appL_take S l k h, depths_snoc]
  push_cast
  omega
theorem zk_end {S : Sub} {t : Tm} (h : ¬ t.h < 0) : zk S t.args = zm (app S t) := by
  unfold zk zm; rw [app_pos h, Tm.size]; push_cast; rfl
theorem dk_end {S : Sub} {t : Tm} (h : ¬ t.h < 0) : min (dk S t.args + 1) 41 = dm (app S t) := by
  unfold dk dm; rw [app_pos h, depth_eq]; simp only [Tm.args]; push_cast
  omega
theorem zk_range (S : Sub) (l : List Tm) : 1 ≤ zk S l ∧ zk S l ≤ 401 := by unfold zk; omega
theorem dk_range (S : Sub) (l : List Tm) : 0 ≤ dk S l ∧ dk S l ≤ 41 := by unfold dk; omega
theorem zm_range (t : Tm) : 1 ≤ zm t ∧ zm t ≤ 401 := by have := t.size_eq; unfold zm; omega
theorem dm_range (t : Tm) : 0 ≤ dm t ∧ dm t ≤ 41 := by unfold dm; omega
theorem zm_var (v : Int) : zm (varT v) = 1 ∧ dm (varT v) = 1 := by
  unfold zm dm varT
  simp [Tm.size, Tm.sizes, Tm.depth, Tm.depths]
  omega

set_option maxHeartbeats 8000000 in
set_option maxRecDepth 100000 in
theorem measure_calls (A : Nat → Prop) (sb ss : Nat) (f : Env) (S : Sub) (hS : Solved f S) (kb : Nat) (hlt : ss < kb) : ∀ (n N : Nat) (t : Tm), t.size ≤ N → t.good = true → (∀ u, occ u t → rankU S u < n) → MeasC A sb ss f S kb t := by
  intro n
  induction n using Nat.strongRecOn with
  | ind n ihn =>
  intro N
  induction N with
  | zero => intro t ht; have := t.size_eq; omega
  | succ N ih =>
    intro t hts hg hr w F h s hsol hk hok ht
    obtain ⟨rfl, a, c, rfl, hlc, hcc⟩ := ht.shape
    have hgo := good_args hg
    have hsb := hsol.lt
    have HSO0 := hide hsol
    have HK0 := hide hk
    have HOK := hide hok
    have HT0 := hide ht
    clear hsol hk hok ht
    go_enter Tryd.func73, Tryd.ntmps73
    refine seq_cut (fun a' w' => a' = { tmps := #[.pointer (some ⟨ss, 0, none⟩), .pointer (some ⟨kb, 0, none⟩), .agg #[.int .i64 t.h, .slice a t.args.length c], .pointer (some ⟨w.heap.size, 0, none⟩), .pointer (some ⟨w.heap.size + 1, 0, none⟩), .pointer (some ⟨w.heap.size + 1 + 1, 0, none⟩), .pointer (some ⟨w.heap.size + 1 + 1 + 1, 0, none⟩), undef, undef, undef, undef, undef, undef, undef, undef, undef, undef, undef, undef, undef, undef, undef, undef, undef, undef, undef, undef, undef, undef, undef, undef, undef, undef, undef, undef, undef, undef, undef, undef, undef, undef, undef, undef, undef, undef, undef, undef, undef, undef, undef, undef, undef, undef, undef, undef, undef, undef, undef, undef, undef, undef, undef, undef, undef, undef, undef, undef, undef], defers := [] } ∧ w' = allocs w [.cells #[.pointer (some ⟨ss, 0, none⟩)] 100, .cells #[.pointer (some ⟨kb, 0, none⟩)] 122, .cells #[.int .i64 t.h, .slice a t.args.length c] 24, .cells #[.int .i64 0, .int .i64 0] 120]) ?_ ?_
    · go_wp2
      first | done | exact ⟨rfl, rfl⟩ | exact ⟨trivial, rfl⟩ | exact ⟨trivial, trivial⟩
    rintro _ W ⟨rfl, hWa⟩
    have hB : Below w.heap.size w W := by rw [hWa]; exact allocs_below _ _
    have hz : W.heap.size = w.heap.size + 4 := by rw [hWa]; exact allocs_size _ _
    have b0 : W.heap[w.heap.size]? = some (.cells #[.pointer (some ⟨ss, 0, none⟩)] 100 (0, 0)) := by rw [hWa]; exact allocs_get _ _ 0 _ rfl
    have b1 : W.heap[w.heap.size + 1]? = some (.cells #[.pointer (some ⟨kb, 0, none⟩)] 122 (0, 0)) := by rw [hWa]; exact allocs_get _ _ 1 _ rfl
    have b2 : W.heap[w.heap.size + 1 + 1]? = some (.cells #[.int .i64 t.h, .slice a t.args.length c] 24 (0, 0)) := by rw [hWa]; exact allocs_get _ _ 2 _ rfl
    have b3 : W.heap[w.heap.size + 1 + 1 + 1]? = some (.cells #[.int .i64 0, .int .i64 0] 120 (0, 0)) := by rw [hWa]; exact allocs_get _ _ 3 _ rfl
    have HB0 := hide (HK0.out.boxed hB b0 (by omega))
    have HB1 := hide (HK0.out.boxed hB b1 (by omega))
    have HB3 := hide (HK0.out.boxed hB b3 (by omega))
    have HS := hide (KStep.of_below hB HK0.out.lt)
    have HK := hide (HK0.out.below hB)
    have HSO := hide (HSO0.out.below hB)
    have HT := hide (HT0.out.below hB)
    have HRB := hide (show w.heap.size ≤ w.heap.size + 1 + 1 + 1 by omega)
    obtain ⟨-, x0, -⟩ := box1 b0
    obtain ⟨-, x1, -⟩ := box1 b1
    obtain ⟨-, x2, x3, -, -⟩ := box2 b2
    obtain ⟨hrl, q0, q1, q2, q3⟩ := box2 b3
    have x4 := HSO.out.load
    have hw0 : w.heap.size < W.heap.size := by omega
    have hw1 : w.heap.size + 1 < W.heap.size := by omega
    have hw2 : w.heap.size + 1 + 1 < W.heap.size := by omega
    have HSZ := hide hz
    clear hWa hB b0 b1 b2 b3 HK0 HSO0 HT0 hz
    by_cases hneg : t.h < 0
    · have hx0 : 0 ≤ -1 - t.h := by omega
      have hx1 : -1 - t.h ≤ 255 := by omega
      have hap : app S t = S (-1 - t.h) := app_neg hneg
      obtain ⟨vl, is, hrun, -, his, hh, av, nv, cv, rfl, hTv⟩ := HSO.out.look hx0 hx1
      have HRUN := hide hrun
      have HIS := hide his
      have HTV := hide hTv
      have HAP := hide hap
      have HRK := hide (hr (-1 - t.h) ⟨hx0, by rw [show -1 - (-1 - t.h) = t.h by omega, Tm.heads_eq]; exact List.mem_cons_self⟩)
      clear hrun his hTv hap hr
      cases is
      · have HF : Hid (f (-1 - t.h) = none) := hide (by
          have := HIS.out
          cases hf : f (-1 - t.h) with
          | none => rfl
          | some u => rw [hf] at this; cases this)
        have HR := hide (show MeasPost kb ss f S t w (.returned (.agg #[.int .i64 1, .int .i64 1])) (((W.setCell ⟨w.heap.size + 1 + 1 + 1, 0, none⟩ (.int .i64 1)).setCell ⟨w.heap.size + 1 + 1 + 1, 1, none⟩ (.int .i64 1)).alloc (.cells #[.int .i64 hh, .slice av nv cv] 24)) by
          obtain ⟨k1, k2⟩ := HK.out.boxset HB3.out HS.out HRB.out (.int .i64 1) (.int .i64 1)
          have hal := (Below.refl ((W.setCell ⟨w.heap.size + 1 + 1 + 1, 0, none⟩ (.int .i64 1)).setCell ⟨w.heap.size + 1 + 1 + 1, 1, none⟩ (.int .i64 1)).heap.size ((W.setCell ⟨w.heap.size + 1 + 1 + 1, 0, none⟩ (.int .i64 1)).setCell ⟨w.heap.size + 1 + 1 + 1, 1, none⟩ (.int .i64 1))).alloc (Nat.le_refl _) (.cells #[.int .i64 hh, .slice av nv cv] 24)
          exact ⟨by rw [HAP.out, hS.free _ HF.out, (zm_var _).1, (zm_var _).2], F, k2.trans (KStep.of_below hal k1.lt), k1.below hal, HOK.out, fun _ ⟨u, hu⟩ => by rw [HF.out] at hu; cases hu⟩)
        have hbs := box2_set HB3.out.1 (.int .i64 1) (.int .i64 1)
        obtain ⟨-, r0, r1, -, -⟩ := box2 ((Below.heap_alloc _ (.cells #[.int .i64 hh, .slice av nv cv] 24) _ (Array.getElem?_eq_some_iff.1 hbs).1).trans hbs)
        clear hbs
        go_wp2_with (at_lookup; refine look_run_pl rfl (.tmp 24) (.tmp 25) 91 rfl rfl rfl HRUN.out ?_)
        exact bodyPost_ret (v := .agg #[.int .i64 1, .int .i64 1]) (by simp [results, Tryd.results73, go_sem, r0, r1]) rfl HR.out
      · obtain ⟨u, hu⟩ : ∃ u, f (-1 - t.h) = some u := by
          have := HIS.out
          cases hf : f (-1 - t.h) with
          | none => rw [hf] at this; cases this
          | some u => exact ⟨u, rfl⟩
        have hTu := HTV.out u hu
        obtain rfl := hTu.1
        obtain ⟨-, a9, c9, hsl, -, -⟩ := hTu.shape
        obtain ⟨rfl, rfl, rfl⟩ : av = a9 ∧ nv = u.args.length ∧ cv = c9 := by simpa using hsl
        clear hsl
        have hal := (Below.refl W.heap.size W).alloc (Nat.le_refl _) (.cells #[.int .i64 u.h, .slice av u.args.length cv] 24)
        have hub : (W.alloc (.cells #[.int .i64 u.h, .slice av u.args.length cv] 24)).heap[W.heap.size]? = some (.cells #[.int .i64 u.h, .slice av u.args.length cv] 24 (0, 0)) := World.alloc_heap_new _ _
        have hst := KStep.of_below hal HK.out.lt
        have HUB := hide (HK.out.boxed hal hub (Nat.le_refl _))
        have HK2 := hide (HK.out.below hal)
        have HSO2 := hide (HSO.out.below hal)
        have HS2 := hide (HS.out.trans hst)
        have HT2 := hide (hTu.below hal)
        have HB02 := hide (HB0.out.step hst)
        have HB12 := hide (HB1.out.step hst)
        have HB32 := hide (HB3.out.step hst)
        have HL : Hid (MeasC A sb ss f S kb u) := hide (ihn _ HRK.out u.size u (Nat.le_refl _) (hS.rng _ _ hu).2.2 fun y hy => rank_step hS hu hy)
        have HFX2 := hide (hS.fix _ _ hu)
        clear hal hub hst hTu hu
        go_wp2_with (at_lookup; refine look_run_pl rfl (.tmp 24) (.tmp 25) 91 rfl rfl rfl HRUN.out ?_)
        refine (ofA_calls kb ss (-1 - t.h) F (zm (S (-1 - t.h))) (dm (S (-1 - t.h))) (okMS S) _ _ _ _ hx0 hx1 hlt (fun y v hy => ⟨_, _, HOK.out y v hy⟩) HK2.out ?_).mono ?_
        · intro w1 hs1 hk1 hF1
          refine (meastell_calls A sb ss f S kb _ _ _ hlt u av cv F w1 (HSO2.out.kstep HK2.out hlt hs1) hk1 HOK.out (HB02.out.step hs1).1 (HB12.out.step hs1).1 (HUB.out.step hs1).1 (IsTm.kstep hsb HK2.out hlt hs1 HT2.out) HL.out).mono ?_
          rintro e w2 ⟨rfl, F2, g1, g2, g3, -⟩
          exact ⟨by rw [← HFX2.out], F2, g3, g1, g2⟩
        rintro e w3 ⟨F3, hs3, hk3, hor⟩
        have HE : Hid (e = .returned (.agg #[.int .i64 (zm (app S t)), .int .i64 (dm (app S t))]) ∧ okMS S F3 ∧ ∃ v, F3 (-1 - t.h) = some v) := by
          refine hide ?_
          rw [HAP.out]
          rcases hor with ⟨vv, h9, rfl, rfl⟩ | ⟨h9, rfl, F2, h10, rfl⟩
          · exact ⟨by rw [HOK.out _ _ h9], HOK.out, _, h9⟩
          · refine ⟨rfl, fun x u hx => ?_, _, if_pos rfl⟩
            dsimp only at hx
            by_cases e : x = -1 - t.h
            · rw [if_pos e, Option.some.injEq] at hx
              rw [← hx, e]
            · rw [if_neg e] at hx
              exact h10 x u hx
        obtain ⟨rfl, hok3, htd3⟩ := HE.out
        have HTD3 : Hid (toldM f t F3) := hide fun _ _ => htd3
        have HOK3 := hide hok3
        obtain ⟨k1, k2⟩ := hk3.boxset (HB32.out.step hs3) (HS2.out.trans hs3) HRB.out (.int .i64 (zm (app S t))) (.int .i64 (dm (app S t)))
        have K1 := hide k1
        have K2 := hide k2
        have hbx := (HB32.out.step hs3).1
        obtain ⟨-, p0, p1, p2, p3⟩ := box2 hbx
        obtain ⟨-, r0, r1, -, -⟩ := box2 (box2_set hbx (.int .i64 (zm (app S t))) (.int .i64 (dm (app S t))))
        clear HE hor hs3 hk3 hok3 htd3 k1 k2 hbx q0 q1 q2 q3
        generalize hzz : zm (app S t) = zz at *
        generalize hdd : dm (app S t) = dd at *
        have HZ := hide hzz
        have HD := hide hdd
        clear hzz hdd
        go_wp2
        exact bodyPost_ret (v := .agg #[.int .i64 zz, .int .i64 dd]) (by simp [results, Tryd.results73, go_sem, r0, r1]) rfl ⟨by rw [HZ.out, HD.out], F3, K2.out, K1.out, HOK3.out, HTD3.out⟩
    · have hL : ∀ c, c ∈ t.args → MeasC A sb ss f S kb c := fun c hcm => by
        have hsz := t.size_eq
        obtain ⟨i, hi, rfl⟩ := List.getElem_of_mem hcm
        have := Tm.size_get t.args i hi
        exact ih _ (by omega) (hgo.2.2 i hi) fun u hu => hr u ((occ_args hneg).2 ⟨_, hcm, hu⟩)
      have HL := hide hL
      have HZE := hide (zk_end (S := S) hneg)
      have HDE := hide (dk_end (S := S) hneg)
      have hal := (Below.refl W.heap.size W).alloc (Nat.le_refl _) (.cells #[.int .i64 1, .int .i64 0] 120)
      have hob : (W.alloc (.cells #[.int .i64 1, .int .i64 0] 120)).heap[W.heap.size]? = some (.cells #[.int .i64 1, .int .i64 0] 120 (0, 0)) := World.alloc_heap_new _ _
      have hst := KStep.of_below hal HK.out.lt
      have HOB := hide (HK.out.boxed hal hob (Nat.le_refl _))
      have HST := hide hst
      have HKI := hide (HK.out.below hal)
      clear hL hr hob hal hst q0 q1 q2 q3
      go_wp2
      generalize (W.alloc (.cells #[.int .i64 1, .int .i64 0] 120)) = W1 at *
      generalize hbo : W.heap.size = bo at *
      have HBO := hide (Nat.le_of_eq hbo)
      clear hbo
      go_loopw [40] (fun i wr => ∃ (k : Nat) (F' : Int → Option Value), k ≤ t.args.length ∧ i = .int .i64 k ∧ Hid (Boxed kb wr bo (.cells #[.int .i64 (zk S (t.args.take k)), .int .i64 (dk S (t.args.take k))] 120 (0, 0))) ∧ Hid (KStep kb W wr) ∧ Hid (KnAt 119 wr kb ss F') ∧ Hid (okMS S F')) (fun i _ => t.args.length - (intOf i).toNat)
      case atStart => exact ⟨0, F, by omega, rfl, hide (by have := HOB.out; rw [List.take_zero, show zk S [] = 1 by simp [zk, dk, appL, Tm.sizes, Tm.depths] <;> omega, show dk S [] = 0 by simp [zk, dk, appL, Tm.sizes, Tm.depths] <;> omega]; exact this), HST, HKI, HOK⟩
      case round =>
        obtain ⟨k, F', hk, rfl, hbx, hst, hkn, hok⟩ := hrel
        have HB02 := hide (HB0.out.step hst.out)
        have HB12 := hide (HB1.out.step hst.out)
        have HB32 := hide (HB3.out.step hst.out)
        obtain ⟨hv0, x0', -⟩ := box1 HB02.out.1
        obtain ⟨hv1, x1', -⟩ := box1 HB12.out.1
        by_cases hlk : k < t.args.length
        · obtain ⟨b, off, a', c', rfl, hbs, hbA, l0, l1, g2⟩ := (IsTm.kstep hsb HK.out hlt hst.out HT.out).2.get k hlk
          have HSO3 := hide (HSO.out.kstep HK.out hlt hst.out)
          have HMC := hide (HL.out t.args[k] (List.getElem_mem hlk))
          have hal := (Below.refl wr.heap.size wr).alloc (Nat.le_refl _) (.cells #[.int .i64 t.args[k].h, .slice a' t.args[k].args.length c'] 24)
          have HAL := hide hal
          have hmc := HMC.out (wr.alloc (.cells #[.int .i64 t.args[k].h, .slice a' t.args[k].args.length c'] 24)) F' _ _ (HSO3.out.below hal) (hkn.out.below hal) hok.out (IsTm.below (A := OldA sb A) (⟨rfl, g2⟩ : IsTm (OldA sb A) wr _ _ _) hal)
          have HZS := hide (zk_step S t.args k hlk)
          have HDS := hide (dk_step S t.args k hlk)
          have hr1 := zk_range S (t.args.take k)
          have hr2 := dk_range S (t.args.take k)
          have hr3 := zm_range (app S t.args[k])
          have hr4 := dm_range (app S t.args[k])
          clear hal g2 x0 x1 x2 x3 x4
          go_wp2_with fail
          refine hmc.mono ?_
          rintro e w4 ⟨rfl, F4, s4, k4, o4, -⟩
          have HBX4 := hide (((hbx.out.step (KStep.of_below HAL.out hkn.out.lt)).step s4))
          have HST4 := hide ((hst.out.trans (KStep.of_below HAL.out hkn.out.lt)).trans s4)
          have HK4 := hide k4
          have HO4 := hide o4
          generalize zm (app S t.args[k]) = zc at *
          generalize dm (app S t.args[k]) = dc at *
          generalize zk S (t.args.take k) = z at *
          generalize dk S (t.args.take k) = d at *
          clear hmc s4 k4 o4 l0 l1 hbx hst hkn hok x0' x1'
          go_wp2
          have hal := (Below.refl w4.heap.size w4).alloc (Nat.le_refl _) (.cells #[.int .i64 zc, .int .i64 dc] 120)
          have hn3 : (w4.alloc (.cells #[.int .i64 zc, .int .i64 dc] 120)).heap[w4.heap.size]? = some (.cells #[.int .i64 zc, .int .i64 dc] 120 (0, 0)) := World.alloc_heap_new _ _
          have hs5 := KStep.of_below hal HK4.out.lt
          have HBX5 := hide (HBX4.out.step hs5)
          have HST5 := hide (HST4.out.trans hs5)
          have HK5 := hide (HK4.out.below hal)
          have hbne : bo ≠ w4.heap.size := by have := (Array.getElem?_eq_some_iff.1 HBX4.out.1).1; omega
          generalize (w4.alloc (.cells #[.int .i64 zc, .int .i64 dc] 120)) = W5 at *
          generalize w4.heap.size = b3 at *
          clear hal hs5 HBX4 HST4 HK4
          obtain ⟨-, m0, m1, -, -⟩ := box2 hn3
          obtain ⟨-, o0, o1, o2, o3⟩ := box2 HBX5.out.1
          have hwr : IntKind.i64.wrap (z + zc) = z + zc := IntWalk.i64_in _ (by omega)
          have CL : ∀ W' : World, W'.heap[b3]? = some (.cells #[.int .i64 zc, .int .i64 dc] 120 (0, 0)) → W'.cell? ⟨b3, 0, none⟩ = some (.int .i64 zc) ∧ W'.cell? ⟨b3, 1, none⟩ = some (.int .i64 dc) := fun W' e => by
            obtain ⟨-, h1, h2, -, -⟩ := box2 e
            exact ⟨h1, h2⟩
          refine drawn_until (fun W' => W'.cell? ⟨b3, 0, none⟩ = some (.int .i64 zc) ∧ W'.cell? ⟨b3, 1, none⟩ = some (.int .i64 dc)) (fun W' => W'.cell? ⟨bo, 0, none⟩ = some (.int .i64 z) ∧ W'.cell? ⟨bo, 1, none⟩ = some (.int .i64 d)) 12
            [(0, 0), (1, 1), (2, 0), (3, 0), (4, 0), (5, 0), (6, 0), (7, 1), (8, 0), (9, 0), (10, 0), (11, 0), (12, 3), (13, 0), (14, 3)] (by kernel_rfl) (by kernel_rfl) (by kernel_rfl) (by kernel_rfl) (fun _ _ _ _ _ h => h) ⟨m0, m1⟩ ⟨o0, o1⟩ ?_
          iterate 1 (refine v_take (v := ?_) rfl (by rfl) ?_ ?_; rotate_left; (intro w hS; obtain ⟨hS1, hS2⟩ := hS; go_simp; try with_reducible rfl); simp only [Act.put, List.setIfInBounds_toArray, List.set_cons_zero, List.set_cons_succ])
          iterate 1 (refine v_takeD (v := ?_) rfl (by rfl) ?_ ?_; rotate_left; (intro w hS; obtain ⟨-, hS1, hS2⟩ := hS; go_simp; try with_reducible rfl); simp only [Act.put, List.setIfInBounds_toArray, List.set_cons_zero, List.set_cons_succ])
          iterate 5 (refine v_take (v := ?_) rfl (by rfl) ?_ ?_; rotate_left; (intro w hS; obtain ⟨hS1, hS2⟩ := hS; go_simp; try with_reducible rfl); simp only [Act.put, List.setIfInBounds_toArray, List.set_cons_zero, List.set_cons_succ])
          iterate 1 (refine v_takeD (v := ?_) rfl (by rfl) ?_ ?_; rotate_left; (intro w hS; obtain ⟨-, hS1, hS2⟩ := hS; go_simp; try with_reducible rfl); simp only [Act.put, List.setIfInBounds_toArray, List.set_cons_zero, List.set_cons_succ])
          iterate 4 (refine v_take (v := ?_) rfl (by rfl) ?_ ?_; rotate_left; (intro w hS; obtain ⟨hS1, hS2⟩ := hS; go_simp; try with_reducible rfl); simp only [Act.put, List.setIfInBounds_toArray, List.set_cons_zero, List.set_cons_succ])
          refine v_do3 rfl (by rfl) ?_
          intro K hK
          go_simp
          have hn4 : (W5.setCell ⟨bo, 0, none⟩ (.int .i64 (min (z + zc) 401))).heap[b3]? = some (.cells #[.int .i64 zc, .int .i64 dc] 120 (0, 0)) := (Below.heap_setCell _ _ _ _ (by show b3 ≠ bo; exact fun e => hbne e.symm)).trans hn3
          refine hK.out _ _ (CL _ hn4) ?_
          clear hK K
          iterate 1 (refine v_take (v := ?_) rfl (by rfl) ?_ ?_; rotate_left; (intro w hS; obtain ⟨hS1, hS2⟩ := hS; go_simp; try with_reducible rfl); simp only [Act.put, List.setIfInBounds_toArray, List.set_cons_zero, List.set_cons_succ])
          have p1 : (W5.setCell ⟨bo, 0, none⟩ (.int .i64 (min (z + zc) 401))).heap[bo]? = some (.cells #[.int .i64 (min (z + zc) 401), .int .i64 d] 120 (0, 0)) := by
            have := HBX5.out.1
            simp [World.setCell, Array.getElem?_modify, this]
          obtain ⟨-, s0, s1, s2, s3⟩ := box2 p1
          refine v_do3 rfl (by rfl) ?_
          intro K hK
          go_simp
          refine hK.out _ _ (CL _ ((Below.heap_setCell _ _ _ _ (by show b3 ≠ bo; exact fun e => hbne e.symm)).trans hn4)) ?_
          clear hK K CL
          refine v_done ?_
          obtain ⟨g1, g2⟩ := HK5.out.boxset HBX5.out HST5.out HBO.out (.int .i64 (min (z + zc) 401)) (.int .i64 (max d dc))
          have g3 := HBX5.out.set (.int .i64 (min (z + zc) 401)) (.int .i64 (max d dc))
          have g4 := (Below.refl ((W5.setCell ⟨bo, 0, none⟩ (.int .i64 (min (z + zc) 401))).setCell ⟨bo, 1, none⟩ (.int .i64 (max d dc))).heap.size ((W5.setCell ⟨bo, 0, none⟩ (.int .i64 (min (z + zc) 401))).setCell ⟨bo, 1, none⟩ (.int .i64 (max d dc)))).drew
          have HG1 := hide (g1.below g4)
          have HG2 := hide (g2.trans (KStep.of_below g4 g1.lt))
          have HG3 := hide (show Boxed kb ((W5.setCell ⟨bo, 0, none⟩ (.int .i64 (min (z + zc) 401))).setCell ⟨bo, 1, none⟩ (.int .i64 (max d dc))).drew bo (.cells #[.int .i64 (zk S (t.args.take (k + 1))), .int .i64 (dk S (t.args.take (k + 1)))] 120 (0, 0)) by rw [← HZS.out, ← HDS.out]; exact g3.step (KStep.of_below g4 g1.lt))
          clear g4
          clear g1 g2 g3 s0 s1 s2 s3 p1 hn3 hn4 m0 m1 o0 o1 o2 o3
          go_wp2
          go_roundw
          case rel => exact ⟨k + 1, F4, by omega, by go_num, HG3, HG2, HG1, HO4⟩
          case measure => simp [intOf]; omega
        · obtain rfl : k = t.args.length := by omega
          have HBX := hide (show Boxed kb wr bo (.cells #[.int .i64 (zk S t.args), .int .i64 (dk S t.args)] 120 (0, 0)) by have := hbx.out; rwa [List.take_length] at this)
          have hr2 := dk_range S t.args
          have hwr : IntKind.i64.wrap (dk S t.args + 1) = dk S t.args + 1 := IntWalk.i64_in _ (by omega)
          have hne : w.heap.size + 1 + 1 + 1 ≠ bo := by omega
          obtain ⟨g1, g2, g3, g4⟩ := hkn.out.boxset1 HBX.out hst.out HBO.out (.int .i64 (min (dk S t.args + 1) 41))
          have hb6 := g3 _ _ hne HB32.out
          obtain ⟨k1, k2⟩ := g1.boxset hb6 (HS.out.trans g2) HRB.out (.int .i64 (zk S t.args)) (.int .i64 (min (dk S t.args + 1) 41))
          have K1 := hide k1
          have K2 := hide k2
          have K3 := hok
          obtain ⟨-, o0, o1, o2, o3⟩ := box2 HBX.out.1
          obtain ⟨-, p0, p1, -, -⟩ := box2 g4
          obtain ⟨-, q0, q1, q2, q3⟩ := box2 hb6.1
          obtain ⟨-, r0, r1, -, -⟩ := box2 (box2_set hb6.1 (.int .i64 (zk S t.args)) (.int .i64 (min (dk S t.args + 1) 41)))
          have HE := hide (show MeasPost kb ss f S t w (.returned (.agg #[.int .i64 (zk S t.args), .int .i64 (min (dk S t.args + 1) 41)])) (((wr.setCell ⟨bo, 1, none⟩ (.int .i64 (min (dk S t.args + 1) 41))).setCell ⟨w.heap.size + 1 + 1 + 1, 0, none⟩ (.int .i64 (zk S t.args))).setCell ⟨w.heap.size + 1 + 1 + 1, 1, none⟩ (.int .i64 (min (dk S t.args + 1) 41))) from ⟨by rw [HZE.out, HDE.out], F', K2.out, K1.out, K3.out, fun h => absurd h (by omega)⟩)
          clear g1 g2 g3 g4 hb6 k1 k2 hbx hst hkn hok x0 x1 x2 x3 x4 x0' x1'
          generalize zk S t.args = z at *
          generalize dk S t.args = d at *
          go_wp2
          exact bodyPost_ret (v := .agg #[.int .i64 z, .int .i64 (min (d + 1) 41)]) (by simp [results, Tryd.results73, go_sem, r0, r1]) rfl HE.out
end
section
open Go.RowKit

theorem app_full {f : Env} {S : Sub} (hS : Solved f S) {r : Tm} (hg : r.good = true) (hf : r.h < 0 → f (-1 - r.h) = none) : app S r = .node r.h (appL S r.args) := by
  by_cases hn : r.h < 0
  · rw [app_neg hn, hS.free _ (hf hn)]
    have : r.args = [] := by cases r; exact good_var hg hn
    rw [this]
    simp only [varT, appL]
    congr 1; omega
  · exact app_pos hn

set_option maxHeartbeats 4000000 in
set_option maxRecDepth 100000 in
theorem full_calls (A0 : Nat → Prop) (sb ss : Nat) (f : Env) (S : Sub) (hS : Solved f S) (n0 : Nat) : ∀ (t : Tm) (A : Nat → Prop) (h : Int) (s : Value) (w : World), (app S t).size ≤ n0 → (∀ b, A b → b < w.heap.size) → t.good = true → SolAt A0 w sb ss f → IsTm (OldA sb A0) w h s t →
    Calls Tryd.prog 74 #[.pointer (some ⟨ss, 0, none⟩), .agg #[.int .i64 h, s]] w fun e w' => Gives A w (app S t) e w' := by
  induction n0 with
  | zero => intro t A h s w ht; have := (app S t).size_eq; omega
  | succ n0 ih =>
    rintro t A h s w ht hA hgood hsol hs
    obtain ⟨rfl, a, c, rfl, hlc, hc⟩ := hs.shape
    have HSO := hide hsol
    have HTS := hide hs
    have hssl := hsol.lt_size
    have hsbl := hsol.lt
    clear hsol hs
    go_enter Tryd.func74, Tryd.ntmps74
    refine seq_cut (fun a' w' => a' = { tmps := #[.pointer (some ⟨ss, 0, none⟩), .agg #[.int .i64 t.h, .slice a t.args.length c], undef, .pointer (some ⟨w.heap.size, 0, none⟩), .pointer (some ⟨w.heap.size + 1, 0, none⟩), undef, undef, undef, undef, undef, undef, undef, undef, undef, undef, undef, undef, undef, undef, undef, undef, undef, undef, undef, undef, undef, undef, undef, undef, undef, undef], defers := [] } ∧ w' = (w.alloc (.cells #[.int .i64 t.h, .slice a t.args.length c] 24)).alloc (.cells #[.int .i64 0, .slice none 0 0] 24)) ?_ ?_
    · go_wp2
      first | done | exact ⟨rfl, rfl⟩ | exact ⟨trivial, trivial⟩
    rintro _ W0 ⟨rfl, HW⟩
    have hWa : W0 = allocs w [.cells #[.int .i64 t.h, .slice a t.args.length c] 24, .cells #[.int .i64 0, .slice none 0 0] 24] := HW
    have hB : Below w.heap.size w W0 := by rw [hWa]; exact allocs_below _ _
    have hz0 : W0.heap.size = w.heap.size + 2 := by rw [hWa]; exact allocs_size _ _
    have b0 : W0.heap[w.heap.size]? = some (.cells #[.int .i64 t.h, .slice a t.args.length c] 24 (0, 0)) := by rw [hWa]; exact allocs_get _ _ 0 _ rfl
    have b1 : W0.heap[w.heap.size + 1]? = some (.cells #[.int .i64 0, .slice none 0 0] 24 (0, 0)) := by rw [hWa]; exact allocs_get _ _ 1 _ rfl
    clear HW hWa
    obtain ⟨-, z0, z1, -, -⟩ := box2 b0
    go_wp2_with fail
    refine (at_calls A0 sb ss f S hS t _ _ W0 hgood (HSO.out.below hB) (HTS.out.below hB)).mono ?_
    rintro e w1 ⟨r, s', rfl, hT, hle, hgr, hfr, hB1⟩
    obtain ⟨-, a1, c1, rfl, hlc1, hc1⟩ := hT.shape
    obtain ⟨hh, hl8, hkids⟩ := good_args hgr
    have hap : app S t = .node r.h (appL S r.args) := (leads_app (solved_resp hS) hle).trans (app_full hS hgr hfr)
    have HP := hide hap
    have hsz := hide (show Tm.sizes (appL S r.args) + 1 ≤ n0 + 1 by rw [hap, Tm.size] at ht; omega)
    have b0' := (hB1.block _ (Array.getElem?_eq_some_iff.1 b0).1).trans b0
    have b1' := (hB1.block _ (Array.getElem?_eq_some_iff.1 b1).1).trans b1
    obtain ⟨hlt0, y0, y1, y2, y3⟩ := box2 b0'
    have hWL : Hid (∀ W, W = ((w1.setCell ⟨w.heap.size, 0, none⟩ (.int .i64 r.h)).setCell ⟨w.heap.size, 1, none⟩ (.slice a1 r.args.length c1)).alloc (.cells #[.int .i64 r.h, .slice none 0 0] 24) →
        Below w.heap.size w W ∧ W.heap.size = w1.heap.size + 1 ∧ W.heap[w.heap.size]? = some (.cells #[.int .i64 r.h, .slice a1 r.args.length c1] 24 (0, 0)) ∧ W.heap[w.heap.size + 1]? = some (.cells #[.int .i64 0, .slice none 0 0] 24 (0, 0)) ∧ W.heap[w1.heap.size]? = some (.cells #[.int .i64 r.h, .slice none 0 0] 24 (0, 0)) ∧ SolAt A0 W sb ss f ∧ Terms (OldA sb A0) W (.slice a1 r.args.length c1) r.args) := by
      refine hide ?_
      rintro W rfl
      have hs1 : ((w1.setCell ⟨w.heap.size, 0, none⟩ (.int .i64 r.h)).setCell ⟨w.heap.size, 1, none⟩ (.slice a1 r.args.length c1)).heap.size = w1.heap.size := by simp [World.setCell]
      have hk0 : Keep (fun b => b ≠ w.heap.size) w1 ((w1.setCell ⟨w.heap.size, 0, none⟩ (.int .i64 r.h)).setCell ⟨w.heap.size, 1, none⟩ (.slice a1 r.args.length c1)) := ((Keep.refl _ _).setCell (p := ⟨w.heap.size, 0, none⟩) (by simp) _).setCell (p := ⟨w.heap.size, 1, none⟩) (by simp) _
      have hk : Keep (fun b => b ≠ w.heap.size) w1 (((w1.setCell ⟨w.heap.size, 0, none⟩ (.int .i64 r.h)).setCell ⟨w.heap.size, 1, none⟩ (.slice a1 r.args.length c1)).alloc (.cells #[.int .i64 r.h, .slice none 0 0] 24)) := hk0.alloc _
      have hBw := more_below hB hB1
      refine ⟨hBw.trans (hk.below (fun b hb => by omega) hBw.size), by rw [World.size_alloc, hs1], ?_, hk.obj (by omega) b1', ?_, ((HSO.out.below hB).below hB1).keep hk (fun b hb => by omega), hT.2.keep hk (fun b _ hb => by simp only [OldA, not_or] at hb; omega)⟩
      · exact (Below.heap_alloc _ _ _ (by rw [hs1]; exact hlt0)).trans (box2_set b0' _ _)
      · have := World.alloc_heap_new ((w1.setCell ⟨w.heap.size, 0, none⟩ (.int .i64 r.h)).setCell ⟨w.heap.size, 1, none⟩ (.slice a1 r.args.length c1)) (.cells #[.int .i64 r.h, .slice none 0 0] 24)
        rw [hs1] at this; exact this
    have hb5 : w.heap.size + 2 ≤ w1.heap.size := by have := hB1.size; omega
    clear hB hB1 b0 b1 b0' b1' z0 z1 hT hle hap ht
    go_wp2
    obtain ⟨BW, hsW, k0, k1, k2, hso, htr⟩ := hWL.out _ rfl
    generalize ((w1.setCell ⟨w.heap.size, 0, none⟩ (.int .i64 r.h)).setCell ⟨w.heap.size, 1, none⟩ (.slice a1 r.args.length c1)).alloc (.cells #[.int .i64 r.h, .slice none 0 0] 24) = W at *
    generalize w1.heap.size = bo at *
    have HSW := hide hsW
    have HSO1 := hide hso
    have HTR := hide htr
    have HBW := hide BW
    clear hWL hsW hso htr BW y0 y1 y2 y3
    have hl2 : (appL S r.args).length = r.args.length := appL_length _ _
    have HL2 := hide hl2
    clear hl2
    go_loopw [17] (fun i wr => ∃ k v, k ≤ r.args.length ∧ i = .int .i64 k ∧ Build (fun b => A b ∨ b = w.heap.size + 1) w wr bo (bo + 1) 24 24 r.h v (((appL S r.args).take k).map Tm.d) ∧ wr.heap[w.heap.size + 1]? = some (.cells #[.int .i64 0, .slice none 0 0] 24 (0, 0)) ∧ Hid (SolAt A0 wr sb ss f) ∧ Hid (Terms (OldA sb A0) wr (.slice a1 r.args.length c1) r.args)) (fun i _ => r.args.length - (intOf i).toNat)
    case atStart => exact ⟨0, .slice none 0 0, by omega, rfl, ⟨HBW.out, k2, OwnD.nil _ _ _ _ _, by omega, by omega, by rw [HSW.out]; omega⟩, k1, HSO1, HTR⟩
    case round =>
      obtain ⟨k, v, hk, rfl, hbd, x1, hso, htr⟩ := hrel
      by_cases hlt : k < r.args.length
      · obtain ⟨b, off, a', c', rfl, hbs, hbA, l0, l1, g2⟩ := htr.out.get k hlt
        have hts : (app S r.args[k]).size ≤ n0 := by have := hsz.out; have := arg_size (S := S) (List.getElem_mem hlt); omega
        have hkg := hkids k hlt
        have hlenk : (((appL S r.args).take k).map Tm.d).length = k := by have := HL2.out; simp; omega
        have HLK := hide hlenk
        obtain ⟨av, cv, hv⟩ := hbd.own.shape
        rw [hlenk] at hv
        clear hlenk
        have HSO2 := hso
        have HTR2 := htr
        subst hv
        go_wp2
        have hal : Below wr.heap.size wr (wr.alloc (.cells #[.int .i64 r.args[k].h, .slice a' r.args[k].args.length c'] 24)) := (Below.refl _ _).alloc (Nat.le_refl _) _
        have hbA := hbd.later hal
        have heb : (wr.alloc (.cells #[.int .i64 r.args[k].h, .slice a' r.args[k].args.length c'] 24)).heap[wr.heap.size]? = some (.cells #[.int .i64 r.args[k].h, .slice a' r.args[k].args.length c'] 24 (0, 0)) := World.alloc_heap_new _ _
        have xA1 := (hal.block _ (by have := hbd.lt; have := hbd.base; omega)).trans x1
        have hown : ∀ c, (Value.slice av k cv).ownBlock = some c → bo + 1 ≤ c ∧ c < wr.heap.size := hbd.ownlt
        have hwb : bo + 1 ≤ wr.heap.size := hbd.base
        have HSO3 := hide (HSO2.out.below hal)
        have HTR3 := hide (HTR2.out.below hal)
        have HG2 := hide (g2.below hal)
        generalize (wr.alloc (.cells #[.int .i64 r.args[k].h, .slice a' r.args[k].args.length c'] 24)) = WA at *
        clear hbd x1 l0 l1 hal hso htr HSO2 HTR2 g2
        obtain ⟨-, u0, u1, u2, u3⟩ := box2 hbA.box
        obtain ⟨heA, i0, i1, -, -⟩ := box2 heb
        have CL : ∀ W', Below w.heap.size w W' → W'.heap[wr.heap.size]? = some (.cells #[.int .i64 r.args[k].h, .slice a' r.args[k].args.length c'] 24 (0, 0)) → Below w.heap.size w W' ∧ W'.cell? ⟨wr.heap.size, 0, none⟩ = some (.int .i64 r.args[k].h) ∧ W'.cell? ⟨wr.heap.size, 1, none⟩ = some (.slice a' r.args[k].args.length c') := by
          intro W' h1 h2
          obtain ⟨-, h3, h4, -, -⟩ := box2 h2
          exact ⟨h1, h3, h4⟩
        refine drawn_until (fun W' => Below w.heap.size w W' ∧ W'.cell? ⟨wr.heap.size, 0, none⟩ = some (.int .i64 r.args[k].h) ∧ W'.cell? ⟨wr.heap.size, 1, none⟩ = some (.slice a' r.args[k].args.length c'))
          (fun W' => W'.cell? ⟨bo, 1, none⟩ = some (.slice av k cv)) 6 [(0, 0), (1, 1), (2, 0), (3, 0), (4, 2), (5, 2), (6, 3), (7, 0), (8, 3)] (by kernel_rfl) (by kernel_rfl) (by kernel_rfl) (by kernel_rfl) (fun _ _ _ _ _ h => h) (CL _ hbA.below.drew heb) u1 ?_
        iterate 1 (refine v_take (v := ?_) rfl (by rfl) ?_ ?_; rotate_left; (intro w hS; obtain ⟨-, hS1, hS2⟩ := hS; go_simp; try with_reducible rfl); simp only [Act.put, List.setIfInBounds_toArray, List.set_cons_zero, List.set_cons_succ])
        iterate 1 (refine v_takeD (v := ?_) rfl (by rfl) ?_ ?_; rotate_left; (intro w hS; obtain ⟨-, hS1⟩ := hS; go_simp; try with_reducible rfl); simp only [Act.put, List.setIfInBounds_toArray, List.set_cons_zero, List.set_cons_succ])
        iterate 2 (refine v_take (v := ?_) rfl (by rfl) ?_ ?_; rotate_left; (intro w hS; obtain ⟨-, hS1, hS2⟩ := hS; go_simp; try with_reducible rfl); simp only [Act.put, List.setIfInBounds_toArray, List.set_cons_zero, List.set_cons_succ])
        refine v_do2 rfl (by rfl) ?_
        intro K hK
        go_simp
        have hdr : Below WA.heap.size WA WA.drew := (Below.refl _ _).drew
        refine (ih r.args[k] (fun b => ((A b ∨ b = w.heap.size + 1) ∨ b = bo) ∨ (Value.slice av k cv).ownBlock = some b) _ _ _ hts (fun b hb => ?_) hkg (HSO3.out.below hdr) ((⟨rfl, HG2.out.below hdr⟩ : IsTm (OldA sb A0) _ _ _ _))).mono ?_
        · show b < WA.heap.size
          rcases hb with ((hb | hb) | hb) | hb
          · have := hA b hb; omega
          · omega
          · omega
          · have := hown b hb; omega
        rintro e w2 ⟨s1, rfl, hT, h1⟩
        obtain ⟨a1', c1', hs1, -, -⟩ := hT.shape
        subst hs1
        have h1' : Below WA.heap.size WA w2 := more_below (Below.refl _ _).drew h1
        clear h1
        have hbd1 := hbA.later h1'
        obtain ⟨-, v0, v1, -, -⟩ := box2 hbd1.box
        have hba : bo + 1 ≤ w2.heap.size := hbd1.base
        have he1 := (h1'.block _ heA).trans heb
        have hl1 := h1'.size
        refine hK.out _ _ (CL _ hbd1.below he1) v1 ?_
        clear hK K
        refine v_do2 rfl (by rfl) ?_
        intro K hK
        go_simp
        refine hK.out _ _ (CL _ (hbd1.below.alloc hbd1.below.size _) ((Below.heap_alloc _ _ _ (by omega)).trans he1)) ((World.cell?_alloc_lt _ _ _ (by show bo < _; omega)).trans v1) ?_
        clear hK K
        refine v_do3 rfl (by rfl) ?_
        intro K hK
        refine app_op (.tmp 22) (.tmp 26) 22 rfl (bo + 1) 24 (.agg #[.int .i64 0, .slice none 0 0]) 32 Tryd.underlying22 (by kernel_rfl) rfl (v := .slice av k cv) (d := (app S r.args[k]).d) rfl rfl hbd1.own (repTm.2 ⟨_, rfl, hT⟩) rfl rfl (by rw [HLK.out]; unfold maxLen; omega) (by rw [HLK.out]; omega) hba ?_
        intro v' w3 o1 k1' o2
        obtain ⟨av', cv', o2⟩ := o2
        rw [HLK.out] at o2
        subst o2
        have hbw2 : Below w.heap.size w w3 := hbd1.below.trans ((hbd1.grow k1').mono (by omega))
        have he2 := k1'.obj (fun e => by have := hown _ e; omega) he1
        have hbd2 := hbd1.step k1' o1
        obtain ⟨-, -, v3, -, v4⟩ := box2 (k1'.obj (fun e => by have := hown _ e; omega) hbd1.box)
        refine hK.out _ _ (CL _ hbw2 he2) ?_
        clear hK K
        iterate 1 (refine v_take (v := ?_) rfl (by rfl) ?_ ?_; rotate_left; (intro w hS; obtain ⟨-, hS1, hS2⟩ := hS; go_simp; try with_reducible rfl); simp only [Act.put, List.setIfInBounds_toArray, List.set_cons_zero, List.set_cons_succ])
        refine v_do3 rfl (by rfl) ?_
        intro K hK
        go_simp
        refine hK.out _ _ (CL _ (hbw2.setCell (p := ⟨bo, 1, none⟩) (by show w.heap.size ≤ bo; omega) _) ((Below.heap_setCell _ _ _ _ (by show wr.heap.size ≠ bo; omega)).trans he2)) ?_
        clear hK K CL
        refine v_done ?_
        have hds : ((appL S r.args).take k).map Tm.d ++ [(app S r.args[k]).d] = ((appL S r.args).take (k + 1)).map Tm.d := by
          rw [appL_map, List.take_succ_eq_append_getElem (by simpa using hlt)]; simp
        rw [hds] at hbd2
        have hkl : Keep (fun b => b < bo) WA (w3.setCell ⟨bo, 1, none⟩ (.slice av' (k + 1) cv')) := (Keep.trans (.of_below h1') (k1'.mono fun b _ hb e => by have := hown _ e; omega)).setCell (p := ⟨bo, 1, none⟩) (by simp) _
        have x1' := hkl.obj (by omega) xA1
        have HSO4 := hide (HSO3.out.keep hkl (fun b hb => by omega))
        have HTR4 := hide (HTR3.out.keep hkl (fun b _ hb => by simp only [OldA, not_or] at hb; omega))
        clear hds v3 v4 v0 v1 u0 u1 u2 u3 i0 i1 hkl
        go_wp2
        go_roundw
        case rel => exact ⟨k + 1, _, by omega, by go_num, hbd2, x1', HSO4, HTR4⟩
        case measure => simp [intOf]; omega
      · have hk2 : k = r.args.length := by omega
        have HT := hide (show Terms (fun b => A b ∨ b = w.heap.size + 1) wr v (app S t).args by
          rw [HP.out]
          have h9 := hbd.terms (fun b h => by rcases h with h | h; (have := hA b h; omega); omega)
          rwa [List.take_of_length_le (by rw [HL2.out]; omega)] at h9)
        have hlenk : (((appL S r.args).take k).map Tm.d).length = k := by have := HL2.out; simp; omega
        obtain ⟨av, cv, hv⟩ := hbd.own.shape
        rw [hlenk] at hv
        subst hv
        obtain ⟨-, u0, u1, u2, u3⟩ := box2 hbd.box
        obtain ⟨-, q0, q1, q2, q3⟩ := box2 x1
        have hBe := set2_below (b := w.heap.size + 1) hbd.below (by omega) (.int .i64 r.h) (.slice av k cv)
        have hTe := HT.out.keep (S := fun b => b ≠ w.heap.size + 1) (((Keep.refl _ wr).setCell (p := ⟨w.heap.size + 1, 0, none⟩) (by simp) (.int .i64 r.h)).setCell (p := ⟨w.heap.size + 1, 1, none⟩) (by simp) (.slice av k cv)) (fun b _ hb' e => hb' (.inr e))
        obtain ⟨-, r0, r1, -, -⟩ := box2 (box2_set x1 (.int .i64 r.h) (.slice av k cv))
        clear hk2 hlenk hso htr
        go_wp2
        exact bodyPost_ret (v := .agg #[.int .i64 r.h, .slice av k cv]) (by simp [results, Tryd.results74, go_sem, r0, r1]) rfl ⟨_, by rw [HP.out]; rfl, hTe.bar (fun _ _ h => .inl h), hBe⟩
end
open Go.RowKit

/-- What the unifier is, or which error. -/
def endL (S : Sub) : List Int → List Bd → List Bd × Int
  | [], acc => (acc, 0)
  | v :: vs, acc => if 400 < (S v).size then ([], 2) else if 40 < (S v).depth then ([], 7) else endL S vs (acc ++ [⟨v, S v⟩])
def domL (f : Env) : List Int := (upto 256).filter fun v => (f v).isSome
theorem dom_eq {f : Env} {vs : List Int} (hs : vs.Pairwise (· < ·)) (hv : ∀ v, v ∈ vs ↔ ∃ t, f v = some t) (hr : ∀ v t, f v = some t → 0 ≤ v ∧ v ≤ 255) : vs = domL f := by
  unfold domL
  refine sorted_ext _ _ hs ((upto_sorted 256).filter _) fun v => ?_
  simp only [List.mem_filter, mem_upto, hv v, Option.isSome_iff_exists]
  constructor
  · rintro ⟨t, ht⟩; have := hr v t ht; exact ⟨⟨this.1, by have := this.2; omega⟩, t, ht⟩
  · rintro ⟨_, h⟩; exact h
/-- A number stays where it is. -/
theorem KStep.int {T : TypeId} {w w' : World} {kb lo b o : Nat} {F : Int → Option Value} {x : Int} (k : KStep kb w w') (hk : KnAt T w kb lo F) (h : w.cell? ⟨b, o, none⟩ = some (.int .i64 x)) : w'.cell? ⟨b, o, none⟩ = some (.int .i64 x) := by
  have hlt := World.block_lt_of_cell? _ _ h
  have hne : b ≠ kb := by
    rintro rfl
    obtain ⟨m, e1, -⟩ := hk
    simp only [World.cell?, e1] at h
    cases o with
    | zero => simp at h
    | succ o => simp at h
  cases hb : w.heap[b]? with
  | none => simp [World.cell?, hb] at h
  | some ob =>
    have hnm : w.cell? ⟨kb, 0, none⟩ ≠ some (.map (some b)) := fun e => by
      obtain ⟨-, h2⟩ := hk.cellOf e
      obtain ⟨es, cl, h3, -⟩ := h2
      simp [World.cell?, h3] at h
    have := k.keep.obj ⟨hne, hnm⟩ hb
    simp only [World.cell?, hb] at h
    simp only [World.cell?, this]
    exact h
/-- What is written into a row of the call's own. -/
theorem KStep.own {kb : Nat} {w0 w w' : World} {v : Value} (h : KStep kb w0 w) (kp : Keep (fun b => v.ownBlock ≠ some b) w w') (hv : ∀ b, v.ownBlock = some b → w0.heap.size ≤ b) (hkb : kb < w0.heap.size) : KStep kb w0 w' := by
  have hsz := h.keep.size
  have e : w'.cell? ⟨kb, 0, none⟩ = w.cell? ⟨kb, 0, none⟩ := by
    simp only [World.cell?, kp.block kb (by omega) (fun e => by have := hv _ e; omega)]
  exact ⟨⟨kp.os.trans h.keep.os, kp.tape.trans h.keep.tape, kp.output.trans h.keep.output, Nat.le_trans hsz kp.size, fun x hx hS => (kp.block x (by omega) (fun e => by have := hv _ e; omega)).trans (h.keep.block x hx hS)⟩, fun mb h1 => h.map mb (e ▸ h1), fun mb h1 => e.symm ▸ h.stay mb h1⟩
theorem KnAt.own {T : TypeId} {w w' : World} {kb lo mb : Nat} {F : Int → Option Value} {v : Value} (h : KnAt T w kb lo F) (hc : w.cell? ⟨kb, 0, none⟩ = some (.map (some mb))) (kp : Keep (fun b => v.ownBlock ≠ some b) w w') (h1 : v.ownBlock ≠ some kb) (h2 : v.ownBlock ≠ some mb) : KnAt T w' kb lo F ∧ w'.cell? ⟨kb, 0, none⟩ = some (.map (some mb)) := by
  obtain ⟨m, e1, e2, e3⟩ := h
  have e := hc
  rw [(box1 e1).2.1] at e
  simp only [Option.some.injEq, Value.map.injEq] at e
  subst e
  have e4 := kp.obj h1 e1
  exact ⟨⟨_, e4, e2, fun mb' e => by cases e; exact ⟨(e3 mb rfl).1.keep kp h2, (e3 mb rfl).2⟩⟩, (box1 e4).2.1⟩
set_option maxHeartbeats 8000000 in
set_option maxRecDepth 100000 in
theorem uend_calls (A A0 : Nat → Prop) (sb ss : Nat) (f : Env) (S : Sub) (hS : Solved f S) (w : World) (hA : ∀ b, A b → b < w.heap.size) (hsol : SolAt A0 w sb ss f) :
    Calls Tryd.prog 58 #[.pointer (some ⟨ss, 0, none⟩)] w fun e w' => ∃ v, e = .returned (.tuple #[v, .int .i64 (endL S (domL f) []).2]) ∧ Binds A w' v (endL S (domL f) []).1 ∧ Below w.heap.size w w' := by
  have HAO := hide hA
  have HSO := hide hsol
  have hssl := hsol.lt_size
  have hB0 : Below w.heap.size w (w.alloc (.cells #[.map none] 119)) := (Below.refl _ _).alloc (Nat.le_refl _) _
  have hn0 : (w.alloc (.cells #[.map none] 119)).heap[w.heap.size]? = some (.cells #[.map none] 119 (0, 0)) := World.alloc_heap_new _ _
  have HKN := hide (show KnAt 119 (w.alloc (.cells #[.map none] 119)) w.heap.size ss (fun _ => none) from ⟨none, hn0, fun _ _ => rfl, fun mb e => by cases e⟩)
  have HS0 := hide (hsol.below hB0)
  have y0 := HS0.out.load
  have HB0 := hide hB0
  have HN0 := hide (box1 hn0).2.1
  clear hA hsol hB0 hn0
  go_enter Tryd.func58, Tryd.ntmps58
  go_wp2_with fail
  obtain ⟨F, hF, hFv⟩ := HS0.out.env
  have HFW := hide hF
  have HFV := hide hFv
  have HR := hide (show ∀ x v, F x = some v → 0 ≤ x ∧ x ≤ 255 from fun x v hx => by
    cases hfx : f x with
    | none => rw [(hFv x).1 hfx] at hx; cases hx
    | some t => exact ⟨(hS.rng x t hfx).1, (hS.rng x t hfx).2.1⟩)
  clear hF hFv
  generalize w.alloc (.cells #[.map none] 119) = W0 at *
  refine (keys_calls sb W0).mono ?_
  rintro e w5 ⟨rfl, hw5⟩
  subst hw5
  go_wp2_with fail
  refine (sorted_calls sb F W0 HFW.out HR.out).mono ?_
  rintro e w6 ⟨vv, vs, rfl, hvs, hvm, iv, h6⟩
  have hvd := dom_eq (f := f) hvs (fun v => by
    rw [hvm v]
    constructor
    · rintro ⟨u, hu⟩
      cases hfx : f v with
      | none => rw [(HFV.out v).1 hfx] at hu; cases hu
      | some t => exact ⟨t, rfl⟩
    · rintro ⟨t, ht⟩
      obtain ⟨s, h1, _⟩ := (HFV.out v).2 t ht
      exact ⟨_, h1⟩) (fun v t ht => ⟨(hS.rng v t ht).1, (hS.rng v t ht).2.1⟩)
  have HVD := hide hvd
  have HVR := hide (show ∀ v, v ∈ vs → ∃ t, f v = some t from fun v hv => by
    obtain ⟨u, hu⟩ := (hvm v).1 hv
    cases hfx : f v with
    | none => rw [(HFV.out v).1 hfx] at hu; cases hu
    | some t => exact ⟨t, rfl⟩)
  have hvl : vs.length ≤ 256 := pigeon 256 vs (List.nodup_iff_pairwise_ne.2 (hvs.imp fun h => by omega)) fun x hx => by
    obtain ⟨t, ht⟩ := HVR.out x hx
    have := hS.rng x t ht
    omega
  obtain ⟨av, cv, rfl, hcv, hcv'⟩ := iv.shape
  have HB6 := hide (more_below HB0.out h6)
  have HK6 := hide (HKN.out.below h6)
  have HN6 := hide (show w6.cell? ⟨w.heap.size, 0, none⟩ = some (.map none) from (h6.cell (World.block_lt_of_cell? _ _ HN0.out)).trans HN0.out)
  have HS6 := hide (HS0.out.below h6)
  have HF6 := hide (HFW.out.below h6)
  have HIV := hide iv
  generalize hkb : w.heap.size = kb at *
  have HKB := hide hkb
  have hkl : kb < w6.heap.size := HK6.out.lt
  have hssk : ss < kb := hssl
  clear hvs hvm h6 hvd HFW HS0 HKN HB0 y0 iv hkb
  go_wp2
  go_loopw [4, 16] (fun v i wr => ∃ (k : Nat) (acc : List Bd) (F' : Int → Option Value), k ≤ vs.length ∧ i = .int .i64 k ∧ Hid (endL S (vs.drop k) acc = endL S vs []) ∧ Hid (KStep kb w6 wr) ∧ Hid (KnAt 119 wr kb ss F') ∧ Hid (okMS S F') ∧ acc.length ≤ k ∧
    Hid ((k = 0 ∧ v = .slice none 0 0 ∧ acc = []) ∨ ∃ B mb, w6.heap.size ≤ B ∧ B ≤ wr.heap.size ∧ mb < B ∧ wr.cell? ⟨kb, 0, none⟩ = some (.map (some mb)) ∧ OwnD (fun b => b < B) wr B 98 3 v (acc.map Bd.d))) (fun _ i _ => vs.length - (intOf i).toNat)
  case atStart => exact ⟨0, [], _, by omega, rfl, hide rfl, hide (KStep.of_below (Below.refl _ _) hkl), HK6, hide (fun x u h => by cases h), by simp, hide (.inl ⟨rfl, rfl, rfl⟩)⟩
  case round =>
    obtain ⟨k, acc, F', hk, rfl, he, hst, hkn, hok, hac, hown⟩ := hrel
    have HBE : Hid (∀ w9, KStep kb w6 w9 → Below kb w w9) := hide fun w9 h9 => HB6.out.trans (h9.keep.below (B := kb) (fun b hb => ⟨by omega, fun e => by rw [HN6.out] at e; simp at e⟩) (Nat.le_of_lt hkl))
    by_cases hlt : k < vs.length
    · obtain ⟨b, off, rfl, hbs, -, g0⟩ := HIV.out.get k hlt
      have q1 := hst.out.int HK6.out g0
      obtain ⟨t, ht⟩ := HVR.out vs[k] (List.getElem_mem hlt)
      have hrt := hS.rng _ _ ht
      have HSO6 := hide (HS6.out.kstep HK6.out hssk hst.out)
      have hvar : app S (varT vs[k]) = S vs[k] := app_var S hrt.1
      have hme := measure_calls A0 sb ss f S hS kb hssk (1000000 + (S vs[k]).size * 1000) 1 (varT vs[k]) (by simp [varT, Tm.size, Tm.sizes]) (good_varT hrt.1 hrt.2.1) (fun u hu => by
        rw [occ_var hrt.1] at hu
        subst hu
        unfold rankU; omega) wr F' (-1 - vs[k]) (.slice none 0 0) HSO6.out hkn.out hok.out ⟨rfl, Terms.nil _ _⟩
      clear g0
      go_wp2_with fail
      refine hme.mono ?_
      rintro e w7 ⟨rfl, F7, s7, k7, o7, t7⟩
      rw [hvar]
      have HS7 := hide s7
      have HK7 := hide k7
      have HO7 := hide o7
      obtain ⟨u7, hu7⟩ := t7 (by show -1 - vs[k] < 0; omega) ⟨t, by show f (-1 - (-1 - vs[k])) = some t; rw [show -1 - (-1 - vs[k]) = vs[k] by omega]; exact ht⟩
      obtain ⟨mb, hmc⟩ : ∃ mb, w7.cell? ⟨kb, 0, none⟩ = some (.map (some mb)) := by
        obtain ⟨m, e1, e2, e3⟩ := k7
        cases m with
        | none => rw [e2 rfl] at hu7; cases hu7
        | some mb => exact ⟨mb, (box1 e1).2.1⟩
      have HMC := hide hmc
      have HML := hide (k7.mlt hmc)
      clear t7 hu7 hmc
      have HV7 := hide (show endL S (vs.drop k) acc = if 400 < (S vs[k]).size then ([], 2) else if 40 < (S vs[k]).depth then ([], 7) else endL S (vs.drop (k + 1)) (acc ++ [⟨vs[k], S vs[k]⟩]) by rw [List.drop_eq_getElem_cons hlt, endL])
      have hz : (400 < zm (S vs[k]) ↔ 400 < (S vs[k]).size) := by unfold zm; omega
      have hd : (40 < dm (S vs[k]) ↔ 40 < (S vs[k]).depth) := by unfold dm; omega
      have HZ := hide hz
      have HD := hide hd
      generalize zm (S vs[k]) = zc at *
      generalize dm (S vs[k]) = dc at *
      clear hme s7 k7 o7 hvar hz hd q1
      have hal := (Below.refl w7.heap.size w7).alloc (Nat.le_refl _) (.cells #[.int .i64 zc, .int .i64 dc] 120)
      have HAL := hide hal
      have HST8 := hide ((hst.out.trans HS7.out).trans (KStep.of_below hal HK7.out.lt))
      clear hal
      by_cases h4 : 400 < (S vs[k]).size
      · have hzc := HZ.out.2 h4
        have HE := hide (show endL S (domL f) [] = ([], 2) by rw [← HVD.out, ← he.out, HV7.out, if_pos h4])
        have HBW := hide (HBE.out _ HST8.out)
        clear h4
        go_wp2
        exact bodyPost_ret (v := .tuple #[.slice none 0 0, .int .i64 2]) (by simp [results, Tryd.results58, go_sem]) rfl ⟨_, by rw [HE.out], by rw [HE.out]; (simp only [Binds, RepD, List.map_nil]; exact ⟨none, 0, 0, rfl, rfl, by omega, by omega, by simp⟩), by rw [HKB.out]; exact HBW.out⟩
      · have hzc : ¬ 400 < zc := fun h => h4 (HZ.out.1 h)
        by_cases h5 : 40 < (S vs[k]).depth
        · have hdc := HD.out.2 h5
          have HE := hide (show endL S (domL f) [] = ([], 7) by rw [← HVD.out, ← he.out, HV7.out, if_neg h4, if_pos h5])
          have HBW := hide (HBE.out _ HST8.out)
          clear h4 h5
          go_wp2
          exact bodyPost_ret (v := .tuple #[.slice none 0 0, .int .i64 7]) (by simp [results, Tryd.results58, go_sem]) rfl ⟨_, by rw [HE.out], by rw [HE.out]; (simp only [Binds, RepD, List.map_nil]; exact ⟨none, 0, 0, rfl, rfl, by omega, by omega, by simp⟩), by rw [HKB.out]; exact HBW.out⟩
        · have hdc : ¬ 40 < dc := fun h => h5 (HD.out.1 h)
          have HE := hide (show endL S (vs.drop (k + 1)) (acc ++ [⟨vs[k], S vs[k]⟩]) = endL S vs [] by rw [← he.out, HV7.out, if_neg h4, if_neg h5])
          have hsz4 : (S vs[k]).size ≤ 400 := by omega
          have HS8 := hide (((HSO6.out.kstep hkn.out hssk HS7.out).below HAL.out))
          have HK8 := hide (HK7.out.below HAL.out)
          have hap : app S t = S vs[k] := (hS.fix _ _ ht).symm
          have HAP := hide hap
          have hkn8 : kb < w7.heap.size := HK7.out.lt
          have HMC8 := hide (show (w7.alloc (.cells #[.int .i64 zc, .int .i64 dc] 120)).cell? ⟨kb, 0, none⟩ = some (.map (some mb)) from (HAL.out.cell (p := ⟨kb, 0, none⟩) hkn8).trans HMC.out)
          have HOWN := hide (show ∃ B, w6.heap.size ≤ B ∧ B ≤ (w7.alloc (.cells #[.int .i64 zc, .int .i64 dc] 120)).heap.size ∧ mb < B ∧ OwnD (fun b => b < B) (w7.alloc (.cells #[.int .i64 zc, .int .i64 dc] 120)) B 98 3 u4 (acc.map Bd.d) from by
            rcases hown.out with ⟨rfl, rfl, rfl⟩ | ⟨B, mb', hB1, hB0, hB2, hB3, hB4⟩
            · exact ⟨_, Nat.le_trans (hst.out.trans HS7.out).keep.size HAL.out.size, Nat.le_refl _, Nat.lt_of_lt_of_le HML.out.1 HAL.out.size, OwnD.nil _ _ _ _ _⟩
            · have h6 := HS7.out.stay mb' hB3
              rw [HMC.out] at h6
              simp only [Option.some.injEq, Value.map.injEq] at h6
              subst h6
              have hlt4 := hB4.lt
              have h8 := HS7.out.trans (KStep.of_below HAL.out hkn8)
              refine ⟨B, hB1, Nat.le_trans hB0 h8.keep.size, hB2, hB4.keep h8.keep (fun b hb hnb => ⟨by omega, fun e => ?_⟩) (fun b hb => ⟨?_, fun e => ?_⟩)⟩
              · rw [hB3] at e
                simp only [Option.some.injEq, Value.map.injEq] at e
                omega
              · have := (hlt4 b hb).1; omega
              · rw [hB3] at e
                simp only [Option.some.injEq, Value.map.injEq] at e
                have := (hlt4 b hb).1; omega)
          have HTD := hide ht
          have htD := (hS.rng _ _ ht).2.2
          clear h4 h5 hown hst hkn hok HSO6 HAL ht hap
          obtain ⟨F8, hF8, hFv8⟩ := HS8.out.env
          obtain ⟨s8, hFk, tt⟩ := (hFv8 vs[k]).2 t HTD.out
          obtain ⟨at8, ct8, rfl, -, -⟩ := tt.shape
          have HFA8 := hide hF8
          have HFX := hide hFk
          have HTT := hide (show IsTm (OldA sb A0) (w7.alloc (.cells #[.int .i64 zc, .int .i64 dc] 120)) t.h (.slice at8 t.args.length ct8) t from ⟨rfl, tt⟩)
          have y8 := HS8.out.load
          clear hF8 hFv8 hFk tt
          go_wp2_with (at_lookup; refine look1_pl rfl _ _ 91 rfl Tryd.underlying3 Tryd.underlying91 (zeroTerm _) sb F8 rfl HFA8.out vs[k] rfl (by omega) (by omega) ?_; rw [HFX.out])
          refine (full_calls A0 sb ss f S hS (app S t).size t (fun b => b < (w7.alloc (.cells #[.int .i64 zc, .int .i64 dc] 120)).heap.size) _ _ _ (Nat.le_refl _) (fun b h => h) htD HS8.out HTT.out).mono ?_
          rw [HAP.out]
          rintro e w9 ⟨s9, rfl, hT9, hB9⟩
          obtain ⟨a9, c9, rfl, -, -⟩ := hT9.shape
          have HST9 := hide (HST8.out.trans (KStep.of_below hB9 HK8.out.lt))
          have HK9 := hide (HK8.out.below hB9)
          have HMC9 := hide ((hB9.cell (p := ⟨kb, 0, none⟩) HK8.out.lt).trans HMC8.out)
          obtain ⟨B, hb1, hb2, hb3, hb4⟩ := HOWN.out
          have HO9 := hide (hb4.below hB9)
          have hz9 : B ≤ w9.heap.size := Nat.le_trans hb2 hB9.size
          have hlt4 := hb4.lt
          have HT9 := hide (hT9.bar (B := fun b => b < B ∨ u4.ownBlock = some b) fun b _ h => by
            rcases h with h | h
            · exact Nat.lt_of_lt_of_le h hb2
            · exact (hlt4 b h).2)
          clear hT9 hB9 hb4 HOWN HST8 HK8 HMC8 HS8 HFA8 HFX HTT HML HK7 HS7 HMC y8
          generalize S vs[k] = tk at *
          have hlen : acc.length ≤ 256 := by omega
          have hal : Below w9.heap.size w9 (w9.alloc (.cells #[.int .i64 vs[k], .int .i64 tk.h, .slice a9 tk.args.length c9] 98)) := (Below.refl _ _).alloc (Nat.le_refl _) _
          have kbk := World.alloc_heap_new w9 (.cells #[.int .i64 vs[k], .int .i64 tk.h, .slice a9 tk.args.length c9] 98)
          have HD9 := hide (show RepD (fun b => b < B ∨ u4.ownBlock = some b) (w9.alloc (.cells #[.int .i64 vs[k], .int .i64 tk.h, .slice a9 tk.args.length c9] 98)) (.row 3 (([⟨vs[k], tk⟩] : List Bd).map Bd.d)) [.slice (some ⟨w9.heap.size, 0, none⟩) 1 1] from
            binds1 (b1 := ⟨vs[k], tk⟩) kbk (fun h => by
              rcases h with h | h
              · omega
              · have := HO9.out.lt _ h; omega) (HT9.out.below hal))
          have HO10 := hide (HO9.out.below hal)
          have HST10 := hide (HST9.out.trans (KStep.of_below hal HK9.out.lt))
          have HK10 := hide (HK9.out.below hal)
          have HMC10 := hide ((hal.cell (p := ⟨kb, 0, none⟩) HK9.out.lt).trans HMC9.out)
          have HBASE := hide (show B ≤ (w9.alloc (.cells #[.int .i64 vs[k], .int .i64 tk.h, .slice a9 tk.args.length c9] 98)).heap.size from Nat.le_trans hz9 hal.size)
          clear hal kbk HT9 HO9 HST9 HK9 HMC9 hlt4
          go_wp2_with (at_builtin; refine app_all_pl rfl (.tmp 33) (.tmp 44) 38 rfl B 98 (.agg #[.int .i64 0, .int .i64 0, .slice none 0 0]) 3 40 Tryd.underlying38 (by kernel_rfl) rfl (by decide) (v := u4) (xv := .slice (some ⟨w9.heap.size, 0, none⟩) 1 1) rfl rfl HO10.out HD9.out (fun d hd => by obtain ⟨z, -, rfl⟩ := List.mem_map.1 hd; exact Bd.oneD z) (by simp [maxLen]; omega) (by simp; omega) HBASE.out ?_; intro v' w' o' kp ob hsh)
          have hltv := HO10.out.lt
          have q4 := HST10.out.own kp (fun b hb => Nat.le_trans hb1 (hltv b hb).1) hkl
          have q5 := HK10.out.own HMC10.out kp (fun e => by have := (hltv _ e).1; omega) (fun e => by have := (hltv _ e).1; omega)
          have HQ4 := hide q4
          have HQ5 := hide q5.1
          have HQ6 := hide q5.2
          have HOO := hide o'
          have HBB := hide (Nat.le_trans HBASE.out kp.size)
          clear q4 q5 kp ob hsh o' hltv
          go_roundw
          case rel =>
            refine ⟨k + 1, acc ++ [⟨vs[k], tk⟩], F7, by omega, by go_num, hide HE.out, hide HQ4.out, hide HQ5.out, HO7, by simp; omega, hide (.inr ⟨B, mb, hb1, HBB.out, hb3, HQ6.out, ?_⟩)⟩
            rw [List.map_append]; exact HOO.out
          case measure => simp [intOf]; omega
    · obtain rfl : k = vs.length := by omega
      have HE := hide (show endL S (domL f) [] = (acc, 0) by rw [← HVD.out, ← he.out, List.drop_of_length_le (Nat.le_refl _), endL])
      have HBW := hide (HBE.out _ hst.out)
      have HR := hide (show Binds A wr u4 acc from by
        rcases hown.out with ⟨_, rfl, rfl⟩ | ⟨B, mb, hB1, hB0, hB2, hB3, hB4⟩
        · simp only [Binds, RepD, List.map_nil]; exact ⟨none, 0, 0, rfl, rfl, by omega, by omega, by simp⟩
        · exact RepD.bar (A := fun b => b < B) (hB4.rep fun b h => h) (fun b _ h => by have := HAO.out b h; have := HKB.out; omega))
      obtain ⟨ar, cr, rfl, -, -⟩ := HR.out.shape
      clear hown he hst hkn hok hlt hk
      go_wp2
      exact bodyPost_ret (v := .tuple #[.slice ar acc.length cr, .int .i64 0]) (by simp [results, Tryd.results58, go_sem]) rfl ⟨_, by rw [HE.out], by rw [HE.out]; exact HR.out, by rw [HKB.out]; exact HBW.out⟩
end Go.Proofs.YtneecjikdghchaaDoor
