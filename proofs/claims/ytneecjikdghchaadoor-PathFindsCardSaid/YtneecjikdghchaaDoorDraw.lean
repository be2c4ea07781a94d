/- A region that draws its order, walked in one order: what yields in every world that meets S is taken as it comes; what does more comes up alone. Nothing of the program. -/
import Derived.OrdersHeld
import Derived.RegionTactic
import Derived.Test.YtneecjikdghchaaDoorRep
set_option linter.unusedSimpArgs false
set_option linter.unusedVariables false
namespace Go.Proofs.YtneecjikdghchaaDoor
open Go.RowKit

section
variable {P : Program} {ops : Array Oper} {Q : Exit → Act → World → Prop} {S : World → Prop}

/-- The walk in one order; a mark 'true' stands at what does more than yield. -/
def SeqR (P : Program) (ops : Array Oper) (Q : Exit → Act → World → Prop) (S : World → Prop) : List (Nat × Bool) → Act → World → Prop
  | [], a, w => Q .normal a w
  | (i, true) :: is, a, w => wpOp P ops Q i (fun a' w' => S w' ∧ SeqR P ops Q S is a' w') a w
  | (i, false) :: is, a, w => ∃ o v, ops[i]? = some o ∧ YieldsIf P ops S o v a ∧ SeqR P ops Q S is (a.put o.dst v) w
/-- May they come so? -/
def okOrder (md : Region.Mode) (ops : Array Oper) : List (Nat × Bool) → Array Bool → Bool
  | [], l => (Region.ready md ops l).isEmpty
  | (i, h) :: is, l => (if h then Region.ready md ops l == [i] else (Region.ready md ops l).contains i && Region.free md ops l i) && okOrder md ops is (l.setIfInBounds i true)

theorem anyH_of_seq {md : Region.Mode} (hsel : Region.noSelect ops = true) (hQ : ∀ c t v a w, Q (.panic c) (a.put (some t) v) w → Q (.panic c) a w) :
    ∀ (order : List (Nat × Bool)) (l : Array Bool) (a : Act) (w : World), okOrder md ops order l = true → S w → SeqR P ops Q S order a w → wpAnyH P md ops Q S order.length l a w
  | [], l, a, w, h, _, hs => by
    have h' : Region.ready md ops l = [] := by simpa [okOrder] using h
    exact wpAnyH_done h' hs 0
  | (i, true) :: is, l, a, w, h, hS, hs => by
    simp only [okOrder, Bool.and_eq_true, if_true, beq_iff_eq] at h
    refine wpAnyH_all h.1 (by simp) fun j hj => ?_
    simp only [List.mem_singleton] at hj
    subst hj
    exact wpOp_mono (fun a' w' h' => ⟨h'.1, anyH_of_seq hsel hQ is _ a' w' h.2 h'.1 h'.2⟩) hs
  | (i, false) :: is, l, a, w, h, hS, ⟨o, v, ho, hy, hs⟩ => by
    simp only [okOrder, Bool.and_eq_true, if_false, Bool.false_eq_true] at h
    exact wpAnyH_take ho hsel h.1.2 h.1.1 (fun c a w h9 => by
      cases hd : o.dst with
      | none => rw [hd] at h9; exact h9
      | some t => rw [hd] at h9; exact hQ c t v a w h9) hy hS (anyH_of_seq hsel hQ is _ _ w h.2 hS hs)

theorem drawn_region {id : Nat} {a : Act} {w : World} (S : World → Prop) (order : List (Nat × Bool)) (hm : P.follows .mixedOrders = true) (hn : (order.length == ops.size) = true) (hsel : Region.noSelect ops = true)
    (hok : okOrder .any ops order (Array.replicate ops.size false) = true) (hQ : ∀ c t v a w, Q (.panic c) (a.put (some t) v) w → Q (.panic c) a w) (hS : S w.drew) (h : SeqR P ops Q S order a w.drew) : (Code.region id ops true).wp P Q a w := by
  refine wp_region_held (S := S) hm ?_
  have := anyH_of_seq hsel hQ order _ a w.drew hok hS h
  rw [beq_iff_eq.1 hn] at this
  exact this

variable {i : Nat} {is : List (Nat × Bool)} {o : Oper} {v : Value} {a : Act} {w : World}
theorem seq_take (ho : ops[i]? = some o) (hw : Region.wanted o (yielded ops a.tmps) = true) (hv : ∀ w, S w → (execOp a.eval o).run P w = .ok (.value v) w) (h : SeqR P ops Q S is (a.put o.dst v) w) : SeqR P ops Q S ((i, false) :: is) a w :=
  ⟨o, v, ho, .inl ⟨hw, hv⟩, h⟩
theorem seq_skip (ho : ops[i]? = some o) (hw : Region.wanted o (yielded ops a.tmps) = false) (h : SeqR P ops Q S is (a.put o.dst undef) w) : SeqR P ops Q S ((i, false) :: is) a w :=
  ⟨o, undef, ho, .inr ⟨hw, rfl⟩, h⟩
/-- Carried out: behind it S holds, and the rest goes on. -/
theorem seq_do (ho : ops[i]? = some o) (hw : Region.wanted o (yielded ops a.tmps) = true)
    (h : ∀ K' : Act → World → Prop, Hid (∀ a w, S w → SeqR P ops Q S is a w → K' a w) → Oper.wp P o a w K' Q) : SeqR P ops Q S ((i, true) :: is) a w :=
  wpOp_step ho fun K' hK => by rw [if_pos hw]; exact h K' (hide fun a w h1 h2 => hK a w ⟨h1, h2⟩)
theorem seq_pass (ho : ops[i]? = some o) (hw : Region.wanted o (yielded ops a.tmps) = false) (hS : S w) (h : SeqR P ops Q S is (a.put o.dst undef) w) : SeqR P ops Q S ((i, true) :: is) a w :=
  wpOp_step ho fun K' hK => by rw [if_neg (by rw [hw]; exact Bool.false_ne_true)]; exact hK _ _ ⟨hS, h⟩
/-! ### The order of the text -/
/-- Is it wanted? 'ds' are the operations' temporaries. -/
def wantL (ds : List (Option Nat)) (o : Oper) (tmps : Array Value) : Bool :=
  match o.guard with
  | none => true
  | some (j, b) => match (ds[j]?).join with
    | some t => (match tmps[t]? with | some (.bool x) => x == b | _ => false)
    | none => false
theorem wantL_eq {ds : List (Option Nat)} (h : ops.toList.map (·.dst) = ds) (o : Oper) (tmps : Array Value) : wantL ds o tmps = Region.wanted o (yielded ops tmps) := by
  subst h
  unfold wantL Region.wanted
  cases o.guard with
  | none => rfl
  | some g =>
    obtain ⟨j, b⟩ := g
    simp only [yielded, List.getElem?_map, Array.getElem?_toList]
    cases hj : ops[j]? with
    | none => simp
    | some oj =>
      simp only [Option.map_some, Option.join_some, Option.bind_some]
      cases hd : oj.dst with
      | none => simp
      | some t =>
        simp only [Option.bind_some]
        cases tmps[t]? with
        | none => simp
        | some x => cases x <;> simp
/-- The walk from an operation of the text on. -/
def SeqL (P : Program) (ds : List (Option Nat)) (Q : Exit → Act → World → Prop) (S : World → Prop) : List Oper → List Bool → Act → World → Prop
  | o :: os, true :: hs, a, w => (wantL ds o a.tmps = true → ∀ K' : Act → World → Prop, Hid (∀ a w, S w → SeqL P ds Q S os hs a w → K' a w) → Oper.wp P o a w K' Q) ∧ (wantL ds o a.tmps = false → S w ∧ SeqL P ds Q S os hs (a.put o.dst undef) w)
  | o :: os, false :: hs, a, w => ∃ v, ((wantL ds o a.tmps = true ∧ ∀ w, S w → (execOp a.eval o).run P w = .ok (.value v) w) ∨ (wantL ds o a.tmps = false ∧ v = undef)) ∧ SeqL P ds Q S os hs (a.put o.dst v) w
  | _, _, a, w => Q .normal a w
def ordOf : Nat → List Bool → List (Nat × Bool)
  | _, [] => []
  | i, h :: hs => (i, h) :: ordOf (i + 1) hs
theorem ordOf_length (i : Nat) (hs : List Bool) : (ordOf i hs).length = hs.length := by induction hs generalizing i <;> simp_all [ordOf]
theorem seqR_of_seqL {ds : List (Option Nat)} (hds : ops.toList.map (·.dst) = ds) : ∀ (os : List Oper) (hs : List Bool) (i : Nat) (a : Act) (w : World), os.length = hs.length → (∀ j, ops[i + j]? = os[j]?) → SeqL P ds Q S os hs a w → SeqR P ops Q S (ordOf i hs) a w
  | [], [], i, a, w, _, _, h => by simpa only [SeqL, ordOf, SeqR] using h
  | o :: os, h :: hs, i, a, w, hn, ho, hq => by
    have h0 : ops[i]? = some o := by simpa using ho 0
    have hr : ∀ j, ops[i + 1 + j]? = os[j]? := fun j => by have := ho (j + 1); rw [show i + 1 + j = i + (j + 1) by omega, this]; simp
    have hn' : os.length = hs.length := by simpa using hn
    cases h with
    | true =>
      simp only [SeqL] at hq
      simp only [ordOf, SeqR]
      refine wpOp_step h0 fun K' hK => ?_
      rw [wantL_eq hds] at hq
      split
      · rename_i hw
        exact hq.1 hw K' (hide fun a w hS hs' => hK a w ⟨hS, seqR_of_seqL hds os hs (i + 1) a w hn' hr hs'⟩)
      · rename_i hw
        obtain ⟨hS, hs'⟩ := hq.2 (by simpa using hw)
        exact hK _ _ ⟨hS, seqR_of_seqL hds os hs (i + 1) _ _ hn' hr hs'⟩
    | false =>
      simp only [SeqL] at hq
      obtain ⟨v, hy, hs'⟩ := hq
      rw [wantL_eq hds] at hy
      exact ⟨o, v, h0, hy, seqR_of_seqL hds os hs (i + 1) _ _ hn' hr hs'⟩
  | [], h :: hs, _, _, _, hn, _, _ => by simp at hn
  | o :: os, [], _, _, _, hn, _, _ => by simp at hn
theorem drawn_text {id : Nat} {os : List Oper} {a : Act} {w : World} (S : World → Prop) (hs : List Bool) (ds : List (Option Nat)) (hm : P.follows .mixedOrders = true) (hn : (os.length == hs.length) = true) (hds : os.map (·.dst) = ds) (hsel : Region.noSelect os.toArray = true)
    (hok : okOrder .any os.toArray (ordOf 0 hs) (Array.replicate os.length false) = true) (hQ : ∀ c t v a w, Q (.panic c) (a.put (some t) v) w → Q (.panic c) a w) (hS : S w.drew)
    (h : SeqL P ds Q S os hs a w.drew) : (Code.region id os.toArray true).wp P Q a w :=
  drawn_region S (ordOf 0 hs) hm (by rw [ordOf_length]; simp at hn ⊢; exact hn.symm) hsel (by simpa using hok) hQ hS (seqR_of_seqL (by simpa using hds) os hs 0 a w.drew (by simpa using hn) (by simp) h)
variable {ds : List (Option Nat)} {os : List Oper} {hs : List Bool}
theorem txt_take (hw : wantL ds o a.tmps = true) (hv : ∀ w, S w → (execOp a.eval o).run P w = .ok (.value v) w) (h : SeqL P ds Q S os hs (a.put o.dst v) w) : SeqL P ds Q S (o :: os) (false :: hs) a w := ⟨v, .inl ⟨hw, hv⟩, h⟩
theorem txt_skip (hw : wantL ds o a.tmps = false) (h : SeqL P ds Q S os hs (a.put o.dst undef) w) : SeqL P ds Q S (o :: os) (false :: hs) a w := ⟨undef, .inr ⟨hw, rfl⟩, h⟩
theorem txt_do (hw : wantL ds o a.tmps = true) (h : ∀ K' : Act → World → Prop, Hid (∀ a w, S w → SeqL P ds Q S os hs a w → K' a w) → Oper.wp P o a w K' Q) : SeqL P ds Q S (o :: os) (true :: hs) a w :=
  ⟨fun _ => h, fun h' => by rw [hw] at h'; cases h'⟩
theorem txt_pass (hw : wantL ds o a.tmps = false) (hS : S w) (h : SeqL P ds Q S os hs (a.put o.dst undef) w) : SeqL P ds Q S (o :: os) (true :: hs) a w :=
  ⟨fun h' => (by rw [hw] at h'; cases h'), fun _ => ⟨hS, h⟩⟩
theorem txt_done (h : Q .normal a w) : SeqL P ds Q S [] [] a w := by simpa only [SeqL] using h
theorem seq_done (h : Q .normal a w) : SeqR P ops Q S [] a w := h
end
end Go.Proofs.YtneecjikdghchaaDoor
