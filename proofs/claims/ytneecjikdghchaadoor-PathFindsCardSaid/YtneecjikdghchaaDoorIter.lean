/- A range over a function, by what each side owns: the iterator its blocks O, the body all else. -/
import Derived.RangeFuncNested
import Derived.RangeFuncCalls
import Derived.Test.YtneecjikdghchaaDoorRep
set_option linter.unusedSimpArgs false
set_option linter.unusedVariables false
namespace Go.Proofs.YtneecjikdghchaaDoor
open Go.RowKit

/-- The blocks of S are as they were. -/
structure Keep (S : Nat → Prop) (w w' : World) : Prop where
  os : w'.os = w.os
  tape : w'.tape = w.tape
  output : w'.output = w.output
  size : w.heap.size ≤ w'.heap.size
  block : ∀ b, b < w.heap.size → S b → w'.heap[b]? = w.heap[b]?
theorem Keep.refl (S : Nat → Prop) (w : World) : Keep S w w := ⟨rfl, rfl, rfl, Nat.le_refl _, fun _ _ _ => rfl⟩
theorem Keep.trans {S : Nat → Prop} {a b c : World} (h : Keep S a b) (k : Keep S b c) : Keep S a c :=
  ⟨k.os.trans h.os, k.tape.trans h.tape, k.output.trans h.output, Nat.le_trans h.size k.size, fun i hi hs => (k.block i (Nat.lt_of_lt_of_le hi h.size) hs).trans (h.block i hi hs)⟩
theorem Keep.mono {S S' : Nat → Prop} {w w' : World} (h : Keep S w w') (hS : ∀ b, b < w.heap.size → S' b → S b) : Keep S' w w' :=
  ⟨h.os, h.tape, h.output, h.size, fun b hb hs => h.block b hb (hS b hb hs)⟩
theorem Keep.of_below {S : Nat → Prop} {w w' : World} (h : Below w.heap.size w w') : Keep S w w' := ⟨h.os, h.tape, h.output, h.size, fun b hb _ => h.block b hb⟩
theorem Keep.of_below' {B : Nat} {S : Nat → Prop} {w w' : World} (h : Below B w w') (hS : ∀ b, S b → b < B) : Keep S w w' := ⟨h.os, h.tape, h.output, h.size, fun b _ hs => h.block b (hS b hs)⟩
theorem Keep.below {B : Nat} {S : Nat → Prop} {w w' : World} (h : Keep S w w') (hS : ∀ b, b < B → S b) (hB : B ≤ w.heap.size) : Below B w w' :=
  ⟨h.os, h.tape, h.output, h.size, fun b hb => h.block b (by omega) (hS b hb)⟩
theorem Keep.alloc {S : Nat → Prop} {a w : World} (h : Keep S a w) (o : Obj) : Keep S a (w.alloc o) := h.trans (.of_below ((Below.refl _ _).alloc (Nat.le_refl _) o))
theorem Keep.drew {S : Nat → Prop} {a w : World} (h : Keep S a w) : Keep S a w.drew := h.trans (.of_below (Below.refl _ _).drew)
theorem Keep.setCell {S : Nat → Prop} {a w : World} (h : Keep S a w) {p : Addr} (hp : ¬ S p.block) (u : Value) : Keep S a (w.setCell p u) :=
  h.trans ⟨rfl, rfl, rfl, by simp [World.setCell], fun b _ hs => Below.heap_setCell _ _ _ _ (fun e => hp (e ▸ hs))⟩
theorem Keep.putObj {S : Nat → Prop} {a w : World} (h : Keep S a w) {r : Nat} (hp : ¬ S r) (o : Obj) : Keep S a (w.putObj r o) :=
  h.trans ⟨rfl, rfl, rfl, by simp, fun b _ hs => World.putObj_heap_other (fun e => hp (e ▸ hs))⟩
theorem Keep.grown {S : Nat → Prop} {a w w' : World} {row : Option Nat} (h : Keep S a w) (hg : w.grownBy w' row) (hr : ∀ k, row = some k → ¬ S k) : Keep S a w' :=
  h.trans ⟨hg.os, hg.tape, hg.output, hg.size, fun b hb hs => hg.block b hb (fun e => hr b e.symm hs)⟩
theorem Keep.cell {S : Nat → Prop} {w w' : World} (h : Keep S w w') {p : Addr} {v : Value} (hp : S p.block) (hc : w.cell? p = some v) : w'.cell? p = some v :=
  (World.cell?_of_block (h.block p.block (World.block_lt_of_cell? w p hc) hp)).trans hc
theorem Keep.obj {S : Nat → Prop} {w w' : World} (h : Keep S w w') {r : Nat} {o : Obj} (hp : S r) (hc : w.heap[r]? = some o) : w'.heap[r]? = some o :=
  (h.block r (Array.getElem?_eq_some_iff.1 hc).1 hp).trans hc
theorem RepD.keep {A S : Nat → Prop} {w w' : World} {d : D} {cs : List Value} (h : RepD A w d cs) (hk : Keep S w w') (hS : ∀ b, b < w.heap.size → ¬ A b → S b) : RepD A w' d cs :=
  h.frame (fun b hb hlt => hk.block b hlt (hS b hlt hb)) (fun _ _ h => h)
theorem Terms.keep {A S : Nat → Prop} {w w' : World} {s : Value} {ts : List Tm} (h : Terms A w s ts) (hk : Keep S w w') (hS : ∀ b, b < w.heap.size → ¬ A b → S b) : Terms A w' s ts := RepD.keep h hk hS

/-- J doesn't mind what happens in the blocks O, nor that new ones are added to them. -/
def Framed (n0 : Nat) (J : (Nat → Prop) → World → Prop) : Prop :=
  ∀ O O' W W', (∀ b, O b → n0 ≤ b ∧ b < W.heap.size) → J O W → Keep (fun b => ¬ O b) W W' → (∀ b, O' b → O b ∨ W.heap.size ≤ b) → J O' W'

variable {α : Type}
/-- Function g (with lb captured) yields xs, one behind the other; it reads the blocks S alone, besides those of its own. -/
def Seq (P : Program) (g : Nat) (lb : Array Value) (encs : α → Array Value) (S : Nat → Prop) (xs : List α) (W0 : World) : Prop :=
  ∀ (l : Nat) (J Jx : (Nat → Prop) → List α → World → Prop) (W : World), Keep S W0 W →
    (∀ pre, Framed W.heap.size fun O W' => J O pre W') → (∀ pre, Framed W.heap.size fun O W' => Jx O pre W') →
    (∀ O pre x W1, pre ++ [x] <+: xs → (∀ b, O b → W.heap.size ≤ b ∧ b < W1.heap.size) → Keep S W W1 → J O pre W1 →
      YieldAt Fence.wide 0 P l (encs x) W1 fun e W2 => Keep (fun b => S b ∨ O b) W1 W2 ∧ ((e = .returned (.bool true) ∧ J O (pre ++ [x]) W2) ∨ (e = .returned (.bool false) ∧ Jx O (pre ++ [x]) W2))) →
    J (fun _ => False) [] W →
    CallsIn Fence.wide 0 P g (#[.func (.yield l) #[] #[]] ++ lb) W fun e W' => (∃ v, e = .returned v) ∧ Keep S W W' ∧
      ∃ O, (∀ b, O b → W.heap.size ≤ b ∧ b < W'.heap.size) ∧ (J O xs W' ∨ ∃ pre, pre <+: xs ∧ Jx O pre W')

/-- How the body of a round may be left. -/
def postI (S : Nat → Prop) (O : Nat → Prop) (I : (Nat → Prop) → List α → World → Prop) (Ix : Code → (Nat → Prop) → List α → World → Prop) (pre : List α) (W : World) : Exit → Act → World → Prop
  | .normal, _, W' => Keep (fun b => S b ∨ O b) W W' ∧ I O pre W'
  | .ret, _, W' => Keep (fun b => S b ∨ O b) W W' ∧ Ix .ret O pre W'
  | .exit id, _, W' => Keep (fun b => S b ∨ O b) W W' ∧ Ix (.exit id) O pre W'
  | .goto t, _, W' => Keep (fun b => S b ∨ O b) W W' ∧ Ix (.goto t) O pre W'
  | .panic _, _, _ => False
  | .outgrown, _, _ => False

section
variable {P : Program} {g : Operand} {ps : Array Tmp} {assign body : Code} {Q : Exit → Act → World → Prop} {a : Act} {w : World} {gf : Nat} {lb : Array Value} {encs : α → Array Value} {S : Nat → Prop} {xs : List α}

/-- The statement 'for .. := range g', in a function itself (ro none) or in a round of another such loop; T: the blocks that it lays. -/
theorem wp_range_core (ro : Option Nat) (l : Nat) (mark : List Deferred) (T : Nat → Prop) (dl : Nat) (HD : World → Prop) (hHD : ∀ W W', HD W → Keep (fun b => T b ∧ b ≠ l) W W' → HD W')
    (hg : a.eval g = .func (.func gf) #[] lb) (eg : ∀ args w, (callFunc gf args).run P w = .ok (.enter gf args) w)
    (hseq : Seq P gf lb encs S xs w) (hps : ∀ x, (encs x).size = ps.size)
    (I : (Nat → Prop) → List α → World → Prop) (Ix : Code → (Nat → Prop) → List α → World → Prop)
    (hI : ∀ pre, Framed w.heap.size fun O W => I O pre W) (hIx : ∀ c pre, Framed w.heap.size fun O W => Ix c O pre W)
    (he : ∀ fn, ∃ W1, (Instr.enterLoop fn a.tmps ps assign body ro).run P w = .ok (l, mark) W1 ∧ W1.heap[l]? = some (.loop { state := .ready, pending := none, fn, tmps := a.tmps, params := ps, assign, body, defers := dl }) ∧
      Keep (fun _ => True) w W1 ∧ T l ∧ (∀ b, T b → w.heap.size ≤ b ∧ b < W1.heap.size) ∧ HD W1 ∧ I T [] W1)
    (hS : ∀ b, S b → b < w.heap.size)
    (Ax : (Nat → Prop) → List α → α → Act → World → Prop)
    (hAx : ∀ O pre x a' W W', Ax O pre x a' W → Keep (fun b => ¬ O b) W W' → Ax O pre x a' W')
    (hassign : ∀ O pre x W K, pre ++ [x] <+: xs → I O pre W → (∀ b, O b → w.heap.size ≤ b ∧ b < W.heap.size) → (∀ a' W', Keep (fun _ => True) W W' → Ax O pre x a' W' → K a' W') →
      assign.wpIn (Fence.wide.inRound l) 0 P (Exit.then K (fun _ _ _ => False)) { tmps := (ps.zip (encs x)).foldl (fun t (p, v) => t.setIfInBounds p v) a.tmps, defers := [] } W)
    (hbody : ∀ O pre x a' W, pre ++ [x] <+: xs → (∀ b, O b → w.heap.size ≤ b ∧ b < W.heap.size) → (∀ b, T b → O b) → (∃ r, W.heap[l]? = some (.loop r) ∧ r.defers = dl) → Keep S w W → I O pre W → Ax O pre x a' W →
      body.wpIn (Fence.wide.inRound l) 0 P (postI S O I Ix (pre ++ [x]) W) a' W)
    (hdone : ∀ O W, (∀ b, O b → w.heap.size ≤ b ∧ b < W.heap.size) → (∀ b, T b → O b) → Keep S w W → HD W → I O xs W → Q .normal { a with defers := mark ++ a.defers } W)
    (hstop : ∀ O c pre W, (∀ b, O b → w.heap.size ≤ b ∧ b < W.heap.size) → (∀ b, T b → O b) → Keep S w W → HD W → pre <+: xs → Ix c O pre W → c.wpIn { Fence.wide with round := ro } 0 P Q { a with defers := mark ++ a.defers } W) :
    (Code.rangeFunc g ps assign body).wpIn { Fence.wide with round := ro } 0 P Q a w := by
  refine wpIn_rangeFunc ?_
  intro fn hfn
  obtain ⟨W1, he, hL1, hk1, hTl, hT, hD1, hI1⟩ := he fn
  obtain ⟨rec, hrec⟩ : ∃ rec : LoopState → Option Code → Loop, rec = fun st pe => { state := st, pending := pe, fn, tmps := a.tmps, params := ps, assign, body, defers := dl } := ⟨_, rfl⟩
  have hL1' : W1.heap[l]? = some (.loop (rec .ready none)) := by rw [hrec]; exact hL1
  refine ⟨l, mark, W1, { target := .fn (.func gf) lb, args := #[.func (.yield l) #[] #[]] }, W1, gf, #[.func (.yield l) #[] #[]] ++ lb, W1, he, ?_, ?_, ?_, fun h => by simp [Fence.wide] at h, ?_⟩
  · simp only [resolve, hg]
    simp [go_sem]
  · intro f' hf'; trivial
  · simp [invoke, go_sem, eg]
  · have hmix : ∀ {O O' : Nat → Prop} {W : World} {n1 : Nat}, w.heap.size ≤ n1 → (∀ b, O b → n1 ≤ b ∧ b < W.heap.size) → (∀ b, T b → b < W.heap.size) → (∀ b, (O b ∨ T b) → w.heap.size ≤ b ∧ b < W.heap.size) := by
      intro O O' W n1 h1 h2 h3 b hb
      rcases hb with hb | hb
      · exact ⟨Nat.le_trans h1 (h2 b hb).1, (h2 b hb).2⟩
      · exact ⟨(hT b hb).1, h3 b hb⟩
    have hTW : ∀ {W : World}, W1.heap.size ≤ W.heap.size → ∀ b, T b → b < W.heap.size := fun h b hb => Nat.lt_of_lt_of_le (hT b hb).2 h
    -- the iterator's contract, the record's facts beside the invariant
    refine (hseq l
      (fun O pre W => (I (fun b => O b ∨ T b) pre W ∧ (∀ b, T b → b < W.heap.size ∧ ¬ O b) ∧ HD W) ∧ W.heap[l]? = some (.loop (rec .ready none)))
      (fun O pre W => ∃ c, (Ix c (fun b => O b ∨ T b) pre W ∧ (∀ b, T b → b < W.heap.size ∧ ¬ O b) ∧ HD W) ∧ W.heap[l]? = some (.loop (rec .done (some c))))
      W1 (hk1.mono fun _ _ _ => trivial) ?_ ?_ ?_ ?_).mono ?_
    · rintro pre O O' W W' hO ⟨⟨hi, ht, hd⟩, hl⟩ hk ho
      refine ⟨⟨hI pre (fun b => O b ∨ T b) (fun b => O' b ∨ T b) W W' (fun b hb => ?_) hi (hk.mono fun b _ hb ho => hb (.inl ho)) (fun b hb => ?_), fun b hb => ⟨Nat.lt_of_lt_of_le (ht b hb).1 hk.size, fun h => ?_⟩, hHD _ _ hd (hk.mono fun b _ hb => (ht b hb.1).2)⟩, hk.obj (ht l hTl).2 hl⟩
      · rcases hb with hb | hb
        · exact ⟨Nat.le_trans hk1.size (hO b hb).1, (hO b hb).2⟩
        · exact ⟨(hT b hb).1, (ht b hb).1⟩
      · rcases hb with hb | hb
        · rcases ho b hb with h | h
          · exact .inl (.inl h)
          · exact .inr h
        · exact .inl (.inr hb)
      · rcases ho b h with h | h
        · exact (ht b hb).2 h
        · have := (ht b hb).1; omega
    · rintro pre O O' W W' hO ⟨c, ⟨hi, ht, hd⟩, hl⟩ hk ho
      refine ⟨c, ⟨hIx c pre (fun b => O b ∨ T b) (fun b => O' b ∨ T b) W W' (fun b hb => ?_) hi (hk.mono fun b _ hb ho => hb (.inl ho)) (fun b hb => ?_), fun b hb => ⟨Nat.lt_of_lt_of_le (ht b hb).1 hk.size, fun h => ?_⟩, hHD _ _ hd (hk.mono fun b _ hb => (ht b hb.1).2)⟩, hk.obj (ht l hTl).2 hl⟩
      · rcases hb with hb | hb
        · exact ⟨Nat.le_trans hk1.size (hO b hb).1, (hO b hb).2⟩
        · exact ⟨(hT b hb).1, (ht b hb).1⟩
      · rcases hb with hb | hb
        · rcases ho b hb with h | h
          · exact .inl (.inl h)
          · exact .inr h
        · exact .inl (.inr hb)
      · rcases ho b h with h | h
        · exact (ht b hb).2 h
        · have := (ht b hb).1; omega
    · -- one round
      rintro O pre x W hpre hO hkS ⟨⟨hi, ht, hd⟩, hl⟩
      have hOT : ∀ b, (O b ∨ T b) → w.heap.size ≤ b ∧ b < W.heap.size := by
        rintro b (hb | hb)
        · exact ⟨Nat.le_trans hk1.size (hO b hb).1, (hO b hb).2⟩
        · exact ⟨(hT b hb).1, (ht b hb).1⟩
      have hy := run_yield (P := P) (args := encs x) hl (by rw [hrec]; exact hps x)
      rw [hrec] at hy
      refine ⟨fn, _, assign, body, hy, roundIn_of_wpIn trivial (hassign _ pre x W _ hpre hi hOT ?_)⟩
      clear hy
      intro a' Wa hka hax
      have hla := hka.obj trivial hl
      have hlt : l < Wa.heap.size := (Array.getElem?_eq_some_iff.1 hla).1
      refine ⟨_, run_beginRound hla (by rw [hrec]), ?_⟩
      have hk2 : Keep (fun b => ¬ (O b ∨ T b)) Wa (Wa.putObj l (.loop { rec .ready none with state := .busy })) := (Keep.refl _ _).putObj (by simp [hTl]) _
      have hl2 : (Wa.putObj l (.loop { rec .ready none with state := .busy })).heap[l]? = some (.loop { rec .ready none with state := .busy }) := World.putObj_heap_same hlt
      have hOTa : ∀ b, (O b ∨ T b) → w.heap.size ≤ b ∧ b < Wa.heap.size := fun b hb => ⟨(hOT b hb).1, Nat.lt_of_lt_of_le (hOT b hb).2 hka.size⟩
      have hd2 : HD (Wa.putObj l (.loop { rec .ready none with state := .busy })) := hHD _ _ (hHD _ _ hd (hka.mono fun _ _ _ => trivial)) ((Keep.refl _ _).putObj (by simp) _)
      have hnS : ¬ S l := fun h => by have := hS l h; have := (hT l hTl).1; omega
      have hnO : ¬ O l := (ht l hTl).2
      have hi2 := hI pre _ _ _ _ hOT hi (hka.mono fun _ _ _ => trivial) (fun b hb => .inl hb)
      have hi3 := hI pre _ _ _ _ hOTa hi2 hk2 (fun b hb => .inl hb)
      have hkS' : Keep S w (Wa.putObj l (.loop { rec .ready none with state := .busy })) := (((hk1.mono fun _ _ _ => trivial).trans hkS).trans (hka.mono fun _ _ _ => trivial)).putObj hnS _
      refine wpIn_mono (hbody (fun b => O b ∨ T b) pre x a' _ hpre (by simpa using hOTa) (fun b hb => .inr hb) ⟨_, hl2, by rw [hrec]⟩ hkS' hi3 (hAx _ _ _ _ _ _ hax hk2)) ?_
      have fin : ∀ (jump : Option Code) (W3 : World), Keep (fun b => S b ∨ O b ∨ T b) (Wa.putObj l (.loop { rec .ready none with state := .busy })) W3 →
          (Instr.endRound l jump).run P W3 = .ok (.bool jump.isNone) (W3.putObj l (.loop (rec (if jump.isNone then .ready else .done) jump))) ∧
          (W3.putObj l (.loop (rec (if jump.isNone then .ready else .done) jump))).heap[l]? = some (.loop (rec (if jump.isNone then .ready else .done) jump)) ∧
          Keep (fun b => S b ∨ O b) W (W3.putObj l (.loop (rec (if jump.isNone then .ready else .done) jump))) ∧ (∀ b, T b → b < W3.heap.size) ∧ Keep (fun b => ¬ (O b ∨ T b)) W3 (W3.putObj l (.loop (rec (if jump.isNone then .ready else .done) jump))) ∧ HD (W3.putObj l (.loop (rec (if jump.isNone then .ready else .done) jump))) := by
        intro jump W3 hk3
        have hl3 := hk3.obj (.inr (.inr hTl)) hl2
        have hr := run_endRound (P := P) jump hl3
        rw [hrec] at hr ⊢
        refine ⟨hr, World.putObj_heap_same (Array.getElem?_eq_some_iff.1 hl3).1, ?_, fun b hb => ?_, ?_, ?_⟩
        · have h1 : Keep (fun b => S b ∨ O b) W (Wa.putObj l (.loop { rec .ready none with state := .busy })) := (hka.mono fun _ _ _ => trivial).putObj (by simp [hnS, hnO]) _
          rw [hrec] at h1 hk3
          exact (h1.trans (hk3.mono fun b _ hb => by rcases hb with h | h; exact .inl h; exact .inr (.inl h))).putObj (by simp [hnS, hnO]) _
        · have := hk3.size; simp only [World.putObj_size] at this; have := (hOTa b (.inr hb)).2; omega
        · exact (Keep.refl _ _).putObj (by simp [hTl]) _
        · rw [hrec] at hd2 hk3; exact hHD _ _ (hHD _ _ hd2 (hk3.mono fun b _ hb => .inr (.inr hb.1))) ((Keep.refl _ _).putObj (by simp) _)
      have finI : ∀ (J : (Nat → Prop) → World → Prop) (W3 W4 : World), Framed w.heap.size J → (∀ b, T b → b < W3.heap.size) → Wa.heap.size ≤ W3.heap.size → Keep (fun b => ¬ (O b ∨ T b)) W3 W4 → J (fun b => O b ∨ T b) W3 → J (fun b => O b ∨ T b) W4 := by
        intro J W3 W4 hJ _ hsz hk hj
        exact hJ _ _ _ _ (fun b hb => ⟨(hOTa b hb).1, Nat.lt_of_lt_of_le (hOTa b hb).2 hsz⟩) hj hk (fun b hb => .inl hb)
      rintro e a3 W3 hp
      cases e with
      | normal =>
        obtain ⟨hk3, hi3⟩ := hp
        obtain ⟨hr, hl4, hk4, hT4, hk5, hd5⟩ := fin none W3 hk3
        exact ⟨_, _, hr, hk4, .inl ⟨rfl, ⟨finI _ _ _ (hI _) hT4 (by simpa using hk3.size) hk5 hi3, fun b hb => ⟨by simpa using hT4 b hb, (ht b hb).2⟩, hd5⟩, hl4⟩⟩
      | ret =>
        obtain ⟨hk3, hi3⟩ := hp
        obtain ⟨hr, hl4, hk4, hT4, hk5, hd5⟩ := fin (some .ret) W3 hk3
        exact ⟨_, _, hr, hk4, .inr ⟨rfl, .ret, ⟨finI _ _ _ (hIx _ _) hT4 (by simpa using hk3.size) hk5 hi3, fun b hb => ⟨by simpa using hT4 b hb, (ht b hb).2⟩, hd5⟩, hl4⟩⟩
      | exit id =>
        obtain ⟨hk3, hi3⟩ := hp
        obtain ⟨hr, hl4, hk4, hT4, hk5, hd5⟩ := fin (some (.exit id)) W3 hk3
        exact ⟨_, _, hr, hk4, .inr ⟨rfl, .exit id, ⟨finI _ _ _ (hIx _ _) hT4 (by simpa using hk3.size) hk5 hi3, fun b hb => ⟨by simpa using hT4 b hb, (ht b hb).2⟩, hd5⟩, hl4⟩⟩
      | goto t =>
        obtain ⟨hk3, hi3⟩ := hp
        obtain ⟨hr, hl4, hk4, hT4, hk5, hd5⟩ := fin (some (.goto t)) W3 hk3
        exact ⟨_, _, hr, hk4, .inr ⟨rfl, .goto t, ⟨finI _ _ _ (hIx _ _) hT4 (by simpa using hk3.size) hk5 hi3, fun b hb => ⟨by simpa using hT4 b hb, (ht b hb).2⟩, hd5⟩, hl4⟩⟩
      | panic ch => exact hp.elim
      | outgrown => exact hp.elim
    · exact ⟨⟨hI [] T _ W1 W1 (fun b hb => hT b hb) hI1 (Keep.refl _ _) (fun b hb => by rcases hb with h | h; exact h.elim; exact .inl h), fun b hb => ⟨(hT b hb).2, fun h => h⟩, hD1⟩, hL1'⟩
    · -- behind the iterator
      rintro e W2 ⟨⟨v, rfl⟩, hkS2, O, hO, (⟨⟨hi, ht, hd⟩, hl⟩ | ⟨pre, hpre, c, ⟨hi, ht, hd⟩, hl⟩)⟩
      · have hOT : ∀ b, (O b ∨ T b) → w.heap.size ≤ b ∧ b < W2.heap.size := by
          rintro b (hb | hb)
          · exact ⟨Nat.le_trans hk1.size (hO b hb).1, (hO b hb).2⟩
          · exact ⟨(hT b hb).1, (ht b hb).1⟩
        have hnS : ¬ S l := fun h => by have := hS l h; have := (hT l hTl).1; omega
        have hr := run_endLoop (P := P) hl (by rw [hrec]; simp)
        refine ⟨none, _, by rw [hrec] at hr; exact hr, hdone (fun b => O b ∨ T b) _ (by simpa using hOT) (fun b hb => .inr hb) (((hk1.mono fun _ _ _ => trivial).trans hkS2).putObj hnS _) (hHD _ _ hd ((Keep.refl _ _).putObj (by simp) _)) ?_⟩
        exact hI _ _ _ _ _ hOT hi ((Keep.refl _ _).putObj (by simp [hTl]) _) (fun b hb => .inl hb)
      · have hOT : ∀ b, (O b ∨ T b) → w.heap.size ≤ b ∧ b < W2.heap.size := by
          rintro b (hb | hb)
          · exact ⟨Nat.le_trans hk1.size (hO b hb).1, (hO b hb).2⟩
          · exact ⟨(hT b hb).1, (ht b hb).1⟩
        have hnS : ¬ S l := fun h => by have := hS l h; have := (hT l hTl).1; omega
        have hr := run_endLoop (P := P) hl (by rw [hrec]; simp)
        refine ⟨some c, _, by rw [hrec] at hr; exact hr, hstop (fun b => O b ∨ T b) c pre _ (by simpa using hOT) (fun b hb => .inr hb) (((hk1.mono fun _ _ _ => trivial).trans hkS2).putObj hnS _) (hHD _ _ hd ((Keep.refl _ _).putObj (by simp) _)) hpre ?_⟩
        exact hIx _ _ _ _ _ _ hOT hi ((Keep.refl _ _).putObj (by simp [hTl]) _) (fun b hb => .inl hb)

/-- An outermost loop: behind it a mark stands among the deferred calls, for a block that is empty. -/
theorem wp_range_out
    (hg : a.eval g = .func (.func gf) #[] lb) (eg : ∀ args w, (callFunc gf args).run P w = .ok (.enter gf args) w)
    (hseq : Seq P gf lb encs S xs w) (hps : ∀ x, (encs x).size = ps.size)
    (I : (Nat → Prop) → List α → World → Prop) (Ix : Code → (Nat → Prop) → List α → World → Prop)
    (hI : ∀ pre, Framed w.heap.size fun O W => I O pre W) (hIx : ∀ c pre, Framed w.heap.size fun O W => Ix c O pre W)
    (h0 : I (fun _ => False) [] w) (hS : ∀ b, S b → b < w.heap.size)
    (Ax : (Nat → Prop) → List α → α → Act → World → Prop)
    (hAx : ∀ O pre x a' W W', Ax O pre x a' W → Keep (fun b => ¬ O b) W W' → Ax O pre x a' W')
    (hassign : ∀ l O pre x W K, pre ++ [x] <+: xs → I O pre W → (∀ b, O b → w.heap.size ≤ b ∧ b < W.heap.size) → (∀ a' W', Keep (fun _ => True) W W' → Ax O pre x a' W' → K a' W') →
      assign.wpIn (Fence.wide.inRound l) 0 P (Exit.then K (fun _ _ _ => False)) { tmps := (ps.zip (encs x)).foldl (fun t (p, v) => t.setIfInBounds p v) a.tmps, defers := [] } W)
    (hbody : ∀ l O pre x a' W, pre ++ [x] <+: xs → (∀ b, O b → w.heap.size ≤ b ∧ b < W.heap.size) → O l → (∃ r, W.heap[l]? = some (.loop r)) → Keep S w W → I O pre W → Ax O pre x a' W →
      body.wpIn (Fence.wide.inRound l) 0 P (postI S O I Ix (pre ++ [x]) W) a' W)
    (hdone : ∀ O W, (∀ b, O b → w.heap.size ≤ b ∧ b < W.heap.size) → O w.heap.size → Keep S w W → W.heap[w.heap.size]? = some (.deferred (some [])) → I O xs W → Q .normal { a with defers := { target := .collected w.heap.size, args := #[] } :: a.defers } W)
    (hstop : ∀ O c pre W, (∀ b, O b → w.heap.size ≤ b ∧ b < W.heap.size) → O w.heap.size → Keep S w W → W.heap[w.heap.size]? = some (.deferred (some [])) → pre <+: xs → Ix c O pre W →
      c.wpIn Fence.wide 0 P Q { a with defers := { target := .collected w.heap.size, args := #[] } :: a.defers } W) :
    (Code.rangeFunc g ps assign body).wpIn Fence.wide 0 P Q a w := by
  refine wp_range_core (S := S) (xs := xs) none (w.heap.size + 1) [{ target := .collected w.heap.size, args := #[] }] (fun b => b = w.heap.size ∨ b = w.heap.size + 1) w.heap.size
    (fun W => W.heap[w.heap.size]? = some (.deferred (some []))) (fun W W' h hk => hk.obj ⟨.inl rfl, by omega⟩ h) hg eg hseq hps I Ix hI hIx ?_ hS Ax hAx (hassign _) ?_ ?_ ?_
  · intro fn
    refine ⟨_, run_enterLoop_outer _ _ _ _ _, ?_, .of_below (((Below.refl _ _).alloc (Nat.le_refl _) _).alloc (by simp) _), .inr rfl, ?_, ?_, ?_⟩
    · have := World.alloc_heap_new (w.alloc (.deferred (some []))) (.loop { state := .ready, pending := none, fn, tmps := a.tmps, params := ps, assign, body, defers := w.heap.size }); rwa [World.size_alloc] at this
    · intro b hb; simp only [World.size_alloc]; omega
    · exact (Below.heap_alloc _ _ _ (by simp)).trans (World.alloc_heap_new w _)
    · exact hI _ _ _ _ _ (fun b hb => hb.elim) h0 (.of_below (((Below.refl _ _).alloc (Nat.le_refl _) _).alloc (by simp) _)) (fun b hb => .inr (by omega))
  · intro O pre x a' W h1 h2 h3 h4 h5 h6 h7
    obtain ⟨r, h4, _⟩ := h4
    exact hbody _ O pre x a' W h1 h2 (h3 _ (.inr rfl)) ⟨r, h4⟩ h5 h6 h7
  · intro O W h1 h2 h3 h4 h5
    exact hdone O W h1 (h2 _ (.inl rfl)) h3 h4 h5
  · intro O c pre W h1 h2 h3 h4 h5 h6
    exact hstop O c pre W h1 (h2 _ (.inl rfl)) h3 h4 h5 h6

/-- A loop in a round of loop l₀. -/
theorem wp_range_in (l₀ : Nat) (r₀ : Loop) (hl₀ : w.heap[l₀]? = some (.loop r₀))
    (hg : a.eval g = .func (.func gf) #[] lb) (eg : ∀ args w, (callFunc gf args).run P w = .ok (.enter gf args) w)
    (hseq : Seq P gf lb encs S xs w) (hps : ∀ x, (encs x).size = ps.size)
    (I : (Nat → Prop) → List α → World → Prop) (Ix : Code → (Nat → Prop) → List α → World → Prop)
    (hI : ∀ pre, Framed w.heap.size fun O W => I O pre W) (hIx : ∀ c pre, Framed w.heap.size fun O W => Ix c O pre W)
    (h0 : I (fun _ => False) [] w) (hS : ∀ b, S b → b < w.heap.size)
    (Ax : (Nat → Prop) → List α → α → Act → World → Prop)
    (hAx : ∀ O pre x a' W W', Ax O pre x a' W → Keep (fun b => ¬ O b) W W' → Ax O pre x a' W')
    (hassign : ∀ l O pre x W K, pre ++ [x] <+: xs → I O pre W → (∀ b, O b → w.heap.size ≤ b ∧ b < W.heap.size) → (∀ a' W', Keep (fun _ => True) W W' → Ax O pre x a' W' → K a' W') →
      assign.wpIn (Fence.wide.inRound l) 0 P (Exit.then K (fun _ _ _ => False)) { tmps := (ps.zip (encs x)).foldl (fun t (p, v) => t.setIfInBounds p v) a.tmps, defers := [] } W)
    (hbody : ∀ l O pre x a' W, pre ++ [x] <+: xs → (∀ b, O b → w.heap.size ≤ b ∧ b < W.heap.size) → O l → (∃ r, W.heap[l]? = some (.loop r)) → Keep S w W → I O pre W → Ax O pre x a' W →
      body.wpIn (Fence.wide.inRound l) 0 P (postI S O I Ix (pre ++ [x]) W) a' W)
    (hdone : ∀ O W, (∀ b, O b → w.heap.size ≤ b ∧ b < W.heap.size) → Keep S w W → I O xs W → Q .normal a W)
    (hstop : ∀ O c pre W, (∀ b, O b → w.heap.size ≤ b ∧ b < W.heap.size) → Keep S w W → pre <+: xs → Ix c O pre W → c.wpIn (Fence.wide.inRound l₀) 0 P Q a W) :
    (Code.rangeFunc g ps assign body).wpIn (Fence.wide.inRound l₀) 0 P Q a w := by
  refine wp_range_core (S := S) (xs := xs) (some l₀) w.heap.size [] (fun b => b = w.heap.size) r₀.defers
    (fun W => True) (fun W W' h hk => trivial) hg eg hseq hps I Ix hI hIx ?_ hS Ax hAx (hassign _) ?_ ?_ ?_
  · intro fn
    refine ⟨_, run_enterLoop_inner hl₀ _ _ _ _ _, World.alloc_heap_new _ _, .of_below ((Below.refl _ _).alloc (Nat.le_refl _) _), rfl, ?_, trivial, ?_⟩
    · intro b hb; simp only [World.size_alloc]; omega
    · exact hI _ _ _ _ _ (fun b hb => hb.elim) h0 (.of_below ((Below.refl _ _).alloc (Nat.le_refl _) _)) (fun b hb => .inr (by omega))
  · intro O pre x a' W h1 h2 h3 h4 h5 h6 h7
    obtain ⟨r, h4, _⟩ := h4
    exact hbody _ O pre x a' W h1 h2 (h3 _ rfl) ⟨r, h4⟩ h5 h6 h7
  · intro O W h1 h2 h3 h4 h5
    exact hdone O W h1 h3 h5
  · intro O c pre W h1 h2 h3 h4 h5 h6
    exact hstop O c pre W h1 h3 h5 h6
end
end Go.Proofs.YtneecjikdghchaaDoor
