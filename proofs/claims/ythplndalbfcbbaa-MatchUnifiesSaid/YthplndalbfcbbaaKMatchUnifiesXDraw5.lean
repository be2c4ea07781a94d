/- What the proof of the law rests on: contracts of the functions, plain laws, and words. -/
import Derived.Test.YthplndalbfcbbaaKMatchUnifiesG4
set_option linter.unusedSimpArgs false
set_option linter.unusedVariables false
namespace Go.Proofs.Ythplndalbfcbbaa
open Go.RowKit
def mk4 (l : Array Bool) (i j k m : Nat) (b c d e : Bool) : Array Bool :=
  let l1 := if b then l.setIfInBounds i true else l
  let l2 := if c then l1.setIfInBounds j true else l1
  let l3 := if d then l2.setIfInBounds k true else l2
  if e then l3.setIfInBounds m true else l3
def rd4 (i j k m : Nat) (b c d e : Bool) : List Nat := (if b then (if c then [] else [j]) else [i]) ++ (if d then [] else [k]) ++ (if e then [] else [m])
def ok4one (md : Region.Mode) (ops : Array Oper) (l : Array Bool) (i j k m : Nat) (b c d e : Bool) : Bool :=
  (Region.ready md ops (mk4 l i j k m b c d e) == rd4 i j k m b c d e) && (b || (mk4 l i j k m b c d e).setIfInBounds i true == mk4 l i j k m true c d e) && ((!b || c) || (mk4 l i j k m b c d e).setIfInBounds j true == mk4 l i j k m b true d e) &&
    (d || (mk4 l i j k m b c d e).setIfInBounds k true == mk4 l i j k m b c true e) && (e || (mk4 l i j k m b c d e).setIfInBounds m true == mk4 l i j k m b c d true)
def ok4 (md : Region.Mode) (ops : Array Oper) (l : Array Bool) (i j k m : Nat) (rest : List Stp) : Bool :=
  [(false, false), (true, false), (true, true)].all (fun p => [(false, false), (true, false), (false, true), (true, true)].all fun q => (p.2 && q.1 && q.2) || ok4one md ops l i j k m p.1 p.2 q.1 q.2) && okTwo md ops rest (mk4 l i j k m true true true true)
theorem mem_rd4 {x i j k m : Nat} {b c d e : Bool} (h : x ∈ rd4 i j k m b c d e) : (b = false ∧ x = i) ∨ (b = true ∧ c = false ∧ x = j) ∨ (d = false ∧ x = k) ∨ (e = false ∧ x = m) := by
  cases b <;> cases c <;> cases d <;> cases e <;> simp [rd4] at h ⊢ <;> omega
def cnt4 (b c d e : Bool) : Nat := (if b then 0 else 1) + (if c then 0 else 1) + (if d then 0 else 1) + (if e then 0 else 1)
section
variable {P : Program} {md : Region.Mode} {ops : Array Oper} {Q : Exit → Act → World → Prop} {S : World → Prop}
theorem ok4_one {l : Array Bool} {i j k m : Nat} {rest : List Stp} (h : ok4 md ops l i j k m rest = true) {b c d e : Bool} (hcb : c = true → b = true) (hn : ¬ (c = true ∧ d = true ∧ e = true)) : ok4one md ops l i j k m b c d e = true := by
  simp only [ok4, Bool.and_eq_true] at h
  have h1 := h.1
  simp only [List.all_cons, List.all_nil, Bool.and_true, Bool.and_eq_true, Bool.or_eq_true, Bool.false_and, Bool.true_and, Bool.false_eq_true, false_or] at h1
  cases b <;> cases c <;> cases d <;> cases e <;> simp_all
theorem anyH_four {l : Array Bool} {i j k m : Nat} {rest : List Stp} (hsel : Region.noSelect ops = true) (hok : ok4 md ops l i j k m rest = true) (hQ : ∀ c t v a w, Q (.panic c) (a.put (some t) v) w → Q (.panic c) a w)
    (R : Bool → Bool → Bool → Bool → Act → World → Prop) (hRS : ∀ b c d e a w, R b c d e a w → S w)
    (h3 : ∀ d e a w, R false false d e a w → wpOp P ops Q i (R true false d e) a w) (h7 : ∀ d e a w, R true false d e a w → wpOp P ops Q j (R true true d e) a w)
    (h8 : ∀ b c e a w, R b c false e a w → wpOp P ops Q k (R b c true e) a w) (h9 : ∀ b c d a w, R b c d false a w → wpOp P ops Q m (R b c d true) a w)
    (hfin : ∀ a w, R true true true true a w → SeqP P ops Q S rest a w) :
    ∀ (n : Nat) (b c d e : Bool) (a : Act) (w : World), (c = true → b = true) → n = cnt4 b c d e → R b c d e a w → wpAnyH P md ops Q S (lenP rest + n) (mk4 l i j k m b c d e) a w := by
  intro n
  induction n with
  | zero =>
    intro b c d e a w hcb hn hR
    have : b = true ∧ c = true ∧ d = true ∧ e = true := by cases b <;> cases c <;> cases d <;> cases e <;> simp [cnt4] at hn ⊢
    obtain ⟨rfl, rfl, rfl, rfl⟩ := this
    simp only [ok4, Bool.and_eq_true] at hok
    exact anyH_of_seqP hsel hQ rest _ a w hok.2 (hRS _ _ _ _ _ _ hR) (hfin a w hR)
  | succ n ih =>
    intro b c d e a w hcb hn hR
    have hnn : ¬ (c = true ∧ d = true ∧ e = true) := by
      rintro ⟨rfl, rfl, rfl⟩
      have := hcb rfl
      subst this
      simp [cnt4] at hn
    have h1 := ok4_one hok hcb hnn
    simp only [ok4one, Bool.and_eq_true, beq_iff_eq, Bool.or_eq_true, Bool.not_eq_true'] at h1
    obtain ⟨⟨⟨⟨r1, r2⟩, r3⟩, r4⟩, r5⟩ := h1
    rw [← Nat.add_assoc]
    refine wpAnyH_all r1 ?_ fun x hx => ?_
    · cases b <;> cases c <;> cases d <;> cases e <;> simp [rd4] at hnn ⊢
      all_goals exact absurd (hcb rfl) (by simp)
    · rcases mem_rd4 hx with ⟨rfl, rfl⟩ | ⟨rfl, rfl, rfl⟩ | ⟨rfl, rfl⟩ | ⟨rfl, rfl⟩
      · have hc : c = false := by cases c <;> simp_all
        subst hc
        rw [r2.resolve_left (by simp)]
        exact wpOp_mono (fun a' w' h' => ⟨hRS _ _ _ _ _ _ h', ih true false d e a' w' (by simp) (by cases d <;> cases e <;> simp [cnt4] at hn ⊢ <;> omega) h'⟩) (h3 d e a w hR)
      · rw [r3.resolve_left (by simp)]
        exact wpOp_mono (fun a' w' h' => ⟨hRS _ _ _ _ _ _ h', ih true true d e a' w' (by simp) (by cases d <;> cases e <;> simp [cnt4] at hn ⊢ <;> omega) h'⟩) (h7 d e a w hR)
      · rw [r4.resolve_left (by simp)]
        exact wpOp_mono (fun a' w' h' => ⟨hRS _ _ _ _ _ _ h', ih b c true e a' w' hcb (by cases b <;> cases c <;> cases e <;> simp [cnt4] at hn ⊢ <;> omega) h'⟩) (h8 b c e a w hR)
      · rw [r5.resolve_left (by simp)]
        exact wpOp_mono (fun a' w' h' => ⟨hRS _ _ _ _ _ _ h', ih b c d true a' w' hcb (by cases b <;> cases c <;> cases d <;> simp [cnt4] at hn ⊢ <;> omega) h'⟩) (h9 b c d a w hR)
def SeqT (P : Program) (ops : Array Oper) (S : World → Prop) (K : Act → Prop) : List Nat → Act → Prop
  | [], a => K a
  | i :: is, a => ∃ o v, ops[i]? = some o ∧ YieldsIf P ops S o v a ∧ SeqT P ops S K is (a.put o.dst v)
def setAll (l : Array Bool) : List Nat → Array Bool
  | [] => l
  | i :: is => setAll (l.setIfInBounds i true) is
def okT (md : Region.Mode) (ops : Array Oper) : List Nat → Array Bool → Bool
  | [], _ => true
  | i :: is, l => ((Region.ready md ops l).contains i && Region.free md ops l i) && okT md ops is (l.setIfInBounds i true)
theorem anyH_seqT {n : Nat} {w : World} (hsel : Region.noSelect ops = true) (hQ : ∀ c t v a w, Q (.panic c) (a.put (some t) v) w → Q (.panic c) a w) (hS : S w) : ∀ (is : List Nat) (l : Array Bool) (a : Act), okT md ops is l = true →
    SeqT P ops S (fun a' => wpAnyH P md ops Q S n (setAll l is) a' w) is a → wpAnyH P md ops Q S (n + is.length) l a w
  | [], l, a, _, h => h
  | i :: is, l, a, hok, ⟨o, v, ho, hy, h⟩ => by
    simp only [okT, Bool.and_eq_true] at hok
    rw [List.length_cons, ← Nat.add_assoc]
    exact wpAnyH_take ho hsel hok.1.2 hok.1.1 (fun c a w h9 => by
      cases hd : o.dst with
      | none => rw [hd] at h9; exact h9
      | some t => rw [hd] at h9; exact hQ c t v a w h9) hy hS (anyH_seqT hsel hQ hS is _ _ hok.2 h)
theorem drawn_four {id : Nat} {a : Act} {w : World} (S : World → Prop) (takes : List Nat) (i j k m : Nat) (rest : List Stp) (R : Bool → Bool → Bool → Bool → Act → World → Prop) (hm : P.follows .mixedOrders = true) (hn : (lenP rest + 4 + takes.length == ops.size) = true) (hsel : Region.noSelect ops = true)
    (hok : okT .any ops takes (Array.replicate ops.size false) = true) (hok4 : ok4 .any ops (setAll (Array.replicate ops.size false) takes) i j k m rest = true)
    (hQ : ∀ c t v a w, Q (.panic c) (a.put (some t) v) w → Q (.panic c) a w) (hS : S w.drew)
    (hR : SeqT P ops S (fun a' => R false false false false a' w.drew) takes a) (hRS : ∀ b c d e a w, R b c d e a w → S w)
    (h3 : ∀ d e a w, R false false d e a w → wpOp P ops Q i (R true false d e) a w) (h7 : ∀ d e a w, R true false d e a w → wpOp P ops Q j (R true true d e) a w)
    (h8 : ∀ b c e a w, R b c false e a w → wpOp P ops Q k (R b c true e) a w) (h9 : ∀ b c d a w, R b c d false a w → wpOp P ops Q m (R b c d true) a w)
    (hfin : ∀ a w, R true true true true a w → SeqP P ops Q S rest a w) : (Code.region id ops true).wp P Q a w := by
  refine wp_region_held (S := S) hm ?_
  have hmono : ∀ (is : List Nat) (a : Act) (K K' : Act → Prop), (∀ a, K a → K' a) → SeqT P ops S K is a → SeqT P ops S K' is a := by
    intro is
    induction is with
    | nil => intro a K K' h h1; exact h a h1
    | cons i is ih => intro a K K' h ⟨o, v, h1, h2, h3⟩; exact ⟨o, v, h1, h2, ih _ K K' h h3⟩
  have := anyH_seqT (n := lenP rest + 4) (w := w.drew) hsel hQ hS takes _ a hok (hmono takes a _ _ (fun a' h' => anyH_four hsel hok4 hQ R hRS h3 h7 h8 h9 hfin 4 false false false false a' _ (by simp) rfl h') hR)
  rw [beq_iff_eq.1 hn] at this
  exact this
variable {i : Nat} {is : List Nat} {o : Oper} {v : Value} {a : Act} {w : World} {K : Act → Prop}
theorem t_take (ho : ops[i]? = some o) (hw : Region.wanted o (yielded ops a.tmps) = true) (hv : ∀ w, S w → (execOp a.eval o).run P w = .ok (.value v) w) (h : SeqT P ops S K is (a.put o.dst v)) : SeqT P ops S K (i :: is) a :=
  ⟨o, v, ho, .inl ⟨hw, hv⟩, h⟩
theorem wpOp_of {K : Act → World → Prop} (ho : ops[i]? = some o) (hw : Region.wanted o (yielded ops a.tmps) = true) (h : ∀ K' : Act → World → Prop, Hid (∀ a w, K a w → K' a w) → Oper.wp P o a w K' Q) : wpOp P ops Q i K a w :=
  wpOp_step ho fun K' hK => by rw [if_pos hw]; exact h K' (hide hK)
end
end Go.Proofs.Ythplndalbfcbbaa
