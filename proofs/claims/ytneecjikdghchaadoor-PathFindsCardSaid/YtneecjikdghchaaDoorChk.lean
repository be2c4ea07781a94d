/- term.Check: what it answers. -/
import Derived.Test.YtneecjikdghchaaDoorParts1
set_option linter.unusedSimpArgs false
set_option linter.unusedVariables false
namespace Go.Proofs.YtneecjikdghchaaDoor
open Go.RowKit Go.Shelf
attribute [local go_sem] Oper.semAt_some

def lenOf : Value → Nat | .slice _ n _ => n | _ => 0
def badR (r : Raw) : Bool := (decide (r.2.1 < 0) && decide (0 < lenOf r.2.2)) || decide (r.2.1 < -256) || decide (1023 < r.2.1) || decide (8 < lenOf r.2.2)
theorem badR_eq (d h : Int) (a : Option Addr) (n c : Nat) : badR (d, h, .slice a n c) = ((decide (h < 0) && decide (0 < n)) || decide (h < -256) || decide (1023 < h) || decide (8 < n)) := rfl
def deepR (l : List Raw) : Int := l.foldl (fun m r => max m r.1) 0

/-- The three boxes of Check's loop. -/
structure CheckInv (b : Nat) (pre : List Raw) (n m : Int) (z : Bool) (W : World) : Prop where
  b1 : W.heap[b + 1]? = some (.cells #[.int .i64 n] 3 (0, 0))
  b2 : W.heap[b + 2]? = some (.cells #[.int .i64 m] 3 (0, 0))
  b3 : W.heap[b + 3]? = some (.cells #[.bool z] 4 (0, 0))
  hn : n = pre.length
  hm : m = deepR pre
  hz : z = pre.any badR

def CheckS (b s : Nat) : Nat → Prop := fun x => x < s ∧ x ≠ b + 1 ∧ x ≠ b + 2 ∧ x ≠ b + 3
def CheckI (b : Nat) (W : World) (_ : Nat → Prop) (pre : List Raw) (Wx : World) : Prop := Keep (CheckS b W.heap.size) W Wx ∧ ∃ n m z, CheckInv b pre n m z Wx
mutual
def Tm.depth : Tm → Nat
  | .node _ l => 1 + Tm.depths l
def Tm.depths : List Tm → Nat
  | [] => 0
  | t :: ts => max t.depth (Tm.depths ts)
end
def okP (t : Tm) : Bool := !((decide (t.h < 0) && decide (0 < t.args.length)) || decide (t.h < -256) || decide (1023 < t.h) || decide (8 < t.args.length))
mutual
def Tm.good : Tm → Bool
  | .node h l => okP (.node h l) && Tm.goods l
def Tm.goods : List Tm → Bool
  | [] => true
  | t :: ts => t.good && Tm.goods ts
end
/-- What term.Check answers. -/
def chk (t : Tm) : Int := if 400 < t.size then 2 else if 40 < t.depth then 7 else if t.good then 0 else 1
mutual
theorem deep_pre : ∀ (d m : Int) (t : Tm), 0 ≤ d → (preT d t).foldl (fun m r => max m r.1) m = max m (d - 1 + t.depth)
  | d, m, .node h l, hd => by
    simp only [preT, List.foldl_cons, Tm.depth]
    rw [deep_preL (d + 1) _ l (by omega) (by omega)]
    push_cast; omega
theorem deep_preL : ∀ (d m : Int) (l : List Tm), 0 ≤ d → d - 1 ≤ m → (preL d l).foldl (fun m r => max m r.1) m = max m (d - 1 + Tm.depths l)
  | d, m, [], hd, hm => by simp only [preL, List.foldl_nil, Tm.depths]; push_cast; omega
  | d, m, t :: ts, hd, hm => by
    simp only [preL, List.foldl_append, Tm.depths]
    rw [deep_pre d m t hd, deep_preL d _ ts hd (by omega)]
    push_cast; omega
end
mutual
theorem good_pre : ∀ (d : Int) (t : Tm), (preT d t).all (fun p => okP p.2) = t.good
  | d, .node h l => by simp only [preT, List.all_cons, Tm.good, good_preL]
theorem good_preL : ∀ (d : Int) (l : List Tm), (preL d l).all (fun p => okP p.2) = Tm.goods l
  | d, [] => by simp [preL, Tm.goods]
  | d, t :: ts => by simp only [preL, List.all_append, Tm.goods, good_pre, good_preL]
end
theorem All2.deep {A : Nat → Prop} {W : World} {xs : List Raw} {ps : List (Int × Tm)} (h : All2 (RawIs A W) xs ps) : ∀ m : Int, xs.foldl (fun m r => max m r.1) m = ps.foldl (fun m r => max m r.1) m := by
  induction h with
  | nil => intro m; rfl
  | cons h _ ih => intro m; simp only [List.foldl_cons, h.1, ih]
theorem All2.bad {A : Nat → Prop} {W : World} {xs : List Raw} {ps : List (Int × Tm)} (h : All2 (RawIs A W) xs ps) : xs.any badR = !(ps.all fun p => okP p.2) := by
  induction h with
  | nil => rfl
  | cons h _ ih =>
    obtain ⟨_, h2, _, a, c, e⟩ := h
    simp only [List.any_cons, List.all_cons, ih, badR, okP, h2, e, lenOf]
    simp
theorem check_raw_eq {A : Nat → Prop} {W : World} {t : Tm} {r : Int × Value} (h1 : r.1 = t.h) (h2 : Terms A W r.2 t.args) :
    (rawT W t 1 r).length = t.size ∧ deepR (rawT W t 1 r) = t.depth ∧ (rawT W t 1 r).any badR = !t.good := by
  have h := rawT_pre t 1 r h1 h2
  refine ⟨by rw [h.length, preT_length], ?_, by rw [h.bad, good_pre]⟩
  rw [deepR, h.deep, deep_pre 1 0 t (by omega)]; omega

theorem check_close {b : Nat} {W Wx W2 : World} {O : Nat → Prop} {pre : List Raw} {x : Raw} {n m : Int} {z v : Bool} {a' : Act} (hk0 : Keep (CheckS b W.heap.size) W Wx) (hO : ∀ c, O c → b + 4 ≤ c)
    (hk2 : Keep (fun c => c ≠ b + 1 ∧ c ≠ b + 2) Wx W2) (q1 : W2.heap[b + 1]? = some (.cells #[.int .i64 (n + 1)] 3 (0, 0))) (q2 : W2.heap[b + 2]? = some (.cells #[.int .i64 (if m < x.1 then x.1 else m)] 3 (0, 0)))
    (q3 : W2.heap[b + 3]? = some (.cells #[.bool z] 4 (0, 0))) (hn : n = pre.length) (hm : m = deepR pre) (hv : v = (pre.any badR || badR x)) :
    postI (CheckS b W.heap.size) O (CheckI b W) (fun _ _ _ _ => False) (pre ++ [x]) Wx .normal a' (W2.setCell ⟨b + 3, 0, none⟩ (.bool v)) := by
  have hk : Keep (fun c => CheckS b W.heap.size c ∨ O c) Wx (W2.setCell ⟨b + 3, 0, none⟩ (.bool v)) := by
    refine (hk2.mono fun c _ h => ?_).setCell ?_ _
    · rcases h with h | h
      · exact ⟨h.2.1, h.2.2.1⟩
      · have := hO c h; exact ⟨by omega, by omega⟩
    · rintro (h | h)
      · exact h.2.2.2 rfl
      · have := hO _ h; simp only at this; omega
  refine ⟨hk, hk0.trans (hk.mono fun c _ h => .inl h), n + 1, if m < x.1 then x.1 else m, v, ?_, ?_, setCell_box q3 _, ?_, ?_, ?_⟩
  · exact (Below.heap_setCell _ _ _ _ (by simp)).trans q1
  · exact (Below.heap_setCell _ _ _ _ (by simp)).trans q2
  · simp [hn]
  · simp only [deepR, List.foldl_append, List.foldl_cons, List.foldl_nil] at hm ⊢; rw [← hm]; split <;> omega
  · rw [hv]; simp

end Go.Proofs.YtneecjikdghchaaDoor
