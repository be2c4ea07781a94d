/- (*elenchusref17.Index).Find, walked. -/
import Derived.Test.YtneecjikdghchaaDoorR17c
import Derived.Test.YtneecjikdghchaaDoorPathP
import Derived.Test.YtneecjikdghchaaDoorPx10
set_option linter.unusedSimpArgs false
set_option linter.unusedVariables false
namespace Go.Proofs.YtneecjikdghchaaDoor
section
open Go.RowKit

def insR (x : Int) : List Int → List Int
  | [] => [x]
  | y :: r => if y < x then y :: insR x r else x :: y :: r
def sortR (l : List Int) : List Int := l.foldl (fun o x => insR x o) []
theorem insR_length (x : Int) : ∀ l : List Int, (insR x l).length = l.length + 1
  | [] => rfl
  | y :: r => by rw [insR]; split <;> simp [insR_length x r]
theorem insR_perm (x : Int) : ∀ l : List Int, (insR x l).Perm (x :: l)
  | [] => .refl _
  | y :: r => by
    rw [insR]
    split
    · exact ((insR_perm x r).cons y).trans (List.Perm.swap x y r)
    · exact .refl _
theorem insR_sorted (x : Int) : ∀ l : List Int, l.Pairwise (· ≤ ·) → (insR x l).Pairwise (· ≤ ·)
  | [], _ => by simp [insR]
  | y :: r, h => by
    rw [List.pairwise_cons] at h
    rw [insR]
    split
    · rw [List.pairwise_cons]
      refine ⟨fun z hz => ?_, insR_sorted x r h.2⟩
      rcases List.mem_cons.1 ((insR_perm x r).mem_iff.1 hz) with rfl | hz
      · omega
      · exact h.1 z hz
    · rw [List.pairwise_cons, List.pairwise_cons]
      refine ⟨fun z hz => ?_, h⟩
      rcases List.mem_cons.1 hz with rfl | hz
      · omega
      · have := h.1 z hz; omega
theorem foldR_perm : ∀ (l o : List Int), (l.foldl (fun o x => insR x o) o).Perm (l ++ o)
  | [], o => .refl _
  | x :: l, o => by
    rw [List.foldl_cons]
    refine (foldR_perm l (insR x o)).trans ?_
    refine ((insR_perm x o).append_left l).trans ?_
    exact List.perm_middle
theorem foldR_sorted : ∀ (l o : List Int), o.Pairwise (· ≤ ·) → (l.foldl (fun o x => insR x o) o).Pairwise (· ≤ ·)
  | [], _, h => h
  | x :: l, o, h => foldR_sorted l _ (insR_sorted x o h)
theorem sortR_perm (l : List Int) : (sortR l).Perm l := by simpa [sortR] using foldR_perm l []
theorem sortR_sorted (l : List Int) : (sortR l).Pairwise (· ≤ ·) := foldR_sorted l [] .nil
theorem sort_same {a b : List Int} (ha : a.Nodup) (hb : b.Nodup) (h : ∀ x, x ∈ a ↔ x ∈ b) : sortI a = sortR b := by
  refine lt_ext (le_nodup_lt (sortI_sorted a) ?_) (le_nodup_lt (sortR_sorted b) ((sortR_perm b).nodup_iff.2 hb)) fun x => ?_
  · have : (sortI a).Perm a := List.mergeSort_perm _ _
    exact this.nodup_iff.2 ha
  · rw [sortI_mem, (sortR_perm b).mem_iff, h]

theorem foldR_length : ∀ (l o : List Int), (l.foldl (fun o x => insR x o) o).length = l.length + o.length
  | [], o => by simp
  | x :: l, o => by rw [List.foldl_cons, foldR_length l, insR_length, List.length_cons]; omega

theorem sortR_length (l : List Int) : (sortR l).length = l.length := by simpa [sortR] using foldR_length l []
theorem sortR_step (l : List Int) (k : Nat) (h : k < l.length) : sortR (l.take (k + 1)) = insR l[k] (sortR (l.take k)) := by
  rw [sortR, List.take_succ_eq_append_getElem h, List.foldl_append]; rfl
/-- A row of numbers with all that a walk cuts of it. -/
structure Cut (w : World) (v : Value) (a : Option Addr) (c : Nat) (o : List Int) : Prop where
  v : v = .slice a o.length c
  len : o.length ≤ c
  cap : c ≤ 9223372036854775807
  ints : IntsIn w a o
  shape : (a = none ∧ c = 0) ∨ ∃ g, a = some ⟨g, 0, none⟩
  part : ∀ A : Nat → Prop, (∀ b, (Value.slice a o.length c).ownBlock = some b → ¬ A b) → ∀ j m c', j + m ≤ o.length → m ≤ c' → c' ≤ 9223372036854775807 → Ints A w (.slice (a.map (·.add j)) m c') ((o.drop j).take m)
theorem ownsRow.cut {w : World} {base e : Nat} {v : Value} {o : List Int} (h : w.ownsRow base e 1 v o.length (o.map (Value.int .i64))) : ∃ a c, Cut w v a c o := by
  obtain ⟨a, c, hv, hin⟩ := ints_of_row h
  have h9 := h
  rcases h.2 with ⟨h1, h2⟩ | ⟨g, cap, cur, h1, hg, hh, hn, hm, hs, ht⟩
  · have : o = [] := List.eq_nil_of_length_eq_zero h2
    subst this
    rw [h1] at hv
    simp only [Value.slice.injEq] at hv
    obtain ⟨rfl, -, rfl⟩ := hv
    exact ⟨none, 0, h1, by simp, by omega, hin, .inl ⟨rfl, rfl⟩, fun A _ j m c' hj hm hc => by
      simp only [List.length_nil] at hj
      obtain rfl : m = 0 := by omega
      simp only [List.drop_nil, List.take_zero, Option.map_none, Ints, RepD, List.map_nil]
      exact ⟨none, 0, c', rfl, rfl, by omega, by omega, by omega⟩⟩
  · rw [h1] at hv
    simp only [Value.slice.injEq] at hv
    obtain ⟨rfl, -, rfl⟩ := hv
    have hm' : cap ≤ 9223372036854775807 := by simpa [maxLen] using hm
    refine ⟨_, _, h1, hn, hm', hin, .inr ⟨_, rfl⟩, fun A hA j m c' hj hm hc => ?_⟩
    have hgA : ¬ A g := hA g rfl
    have hml : ((o.drop j).take m).length = m := by rw [List.length_take, List.length_drop]; omega
    have hadd : ∀ j, (Addr.add ⟨g, 0, none⟩ j) = ⟨g, j, none⟩ := fun j => by
      by_cases h0 : j = 0
      · subst h0; rfl
      · simp [Addr.add, h0]
    simp only [Option.map_some, hadd]
    simp only [Ints, RepD]
    refine ⟨_, _, _, rfl, by rw [List.length_map, hml], hm, by omega, fun h0 => ⟨g, j, rfl, (Array.getElem?_eq_some_iff.1 hh).1, hgA, ?_⟩⟩
    have hfl : ∀ z : List Int, (z.map fun n => [Value.int .i64 n]).flatten = z.map (Value.int .i64) := by
      intro z
      induction z with
      | nil => rfl
      | cons x l ih => rw [List.map_cons, List.flatten_cons, ih, List.map_cons]; rfl
    refine RepR.of (((o.drop j).take m).map fun n => [Value.int .i64 n]) _ j (fun cs hcs => by obtain ⟨z, -, rfl⟩ := List.mem_map.1 hcs; rfl) (fun q hq => ?_) ?_
    · rw [hfl] at hq ⊢
      have hq' : q < m := by rw [List.length_map, hml] at hq; exact hq
      have hqo : j + q < o.length := by omega
      obtain ⟨b, off, e1, e2⟩ := hin.2 (j + q) hqo
      simp only [Option.some.injEq, Addr.mk.injEq] at e1
      obtain ⟨rfl, rfl, -⟩ := e1
      rw [Nat.zero_add] at e2
      rw [e2]
      simp [List.getElem?_take, hq', List.getElem?_drop, hqo]
    · generalize (o.drop j).take m = z
      induction z with
      | nil => exact .nil
      | cons x l ih => exact .cons (by simp [intD, RepD]) ih
theorem OwnD.intRow {A : Nat → Prop} {w : World} {base e : Nat} {v : Value} {o : List Int} (h : OwnD A w base e 1 v (o.map intD)) : w.ownsRow base e 1 v o.length (o.map (Value.int .i64)) := by
  obtain ⟨css, h1, h2, h3⟩ := h
  have : css.flatten = o.map (Value.int .i64) := by
    clear h1 h2
    generalize hds : o.map intD = ds at h3
    induction h3 generalizing o with
    | nil =>
      cases o with
      | nil => rfl
      | cons x o => simp at hds
    | cons a b ih =>
      cases o with
      | nil => simp at hds
      | cons x o =>
        simp only [List.map_cons, List.cons.injEq] at hds
        obtain ⟨rfl, hds⟩ := hds
        simp only [intD, RepD] at a
        rw [List.flatten_cons, ih hds, a]; rfl
  rw [this, List.length_map] at h1
  exact h1
theorem intRow.own {A : Nat → Prop} {w : World} {base e : Nat} {v : Value} {o : List Int} (h : w.ownsRow base e 1 v o.length (o.map (Value.int .i64))) : OwnD A w base e 1 v (o.map intD) := by
  refine ⟨o.map fun n => [Value.int .i64 n], ?_, by simp, ?_⟩
  · rw [List.length_map]
    have hfl : ∀ z : List Int, (z.map fun n => [Value.int .i64 n]).flatten = z.map (Value.int .i64) := by
      intro z
      induction z with
      | nil => rfl
      | cons x l ih => rw [List.map_cons, List.flatten_cons, ih, List.map_cons]; rfl
    rw [hfl]; exact h
  · induction o with
    | nil => exact .nil
    | cons x l ih => exact .cons (by simp [intD, RepD]) (by
        clear h ih
        induction l with
        | nil => exact .nil
        | cons y l ih => exact .cons (by simp [intD, RepD]) ih)
end
section
open Go.RowKit

theorem addz (a : Option Addr) : a.map (·.add 0) = a := by cases a <;> rfl
theorem intOne (z : Int) : OneD (intD z) := by
  intro A w cs h u hu
  simp only [intD, RepD] at h
  subst h
  simp only [List.mem_singleton] at hu
  subst hu
  rfl

theorem intRow_len {A : Nat → Prop} {w : World} {base e m : Nat} {v : Value} {o : List Int} (hm : ([] : List D).length + (o.map intD).length = m) (h : OwnD A w base e 1 v ([] ++ o.map intD)) : w.ownsRow base e 1 v m (o.map (Value.int .i64)) := by
  have := OwnD.intRow (o := o) h
  rw [show m = o.length by simpa using hm.symm]
  exact this
theorem cut_own {A : Nat → Prop} {w : World} {base e m : Nat} {v : Value} {o : List Int} {x : Int} (hm : o.length = m) (h : w.ownsRow base e 1 v (m + 1) (o.map (Value.int .i64) ++ [.int .i64 x])) : OwnD A w base e 1 v ((o ++ [x]).map intD) := by
  refine intRow.own ?_
  rw [List.length_append, hm, List.map_append]
  exact h
theorem cut_rest {W W' : World} {a a1 : Option Addr} {c k m : Nat} {o : List Int} {v : Value} (h : ∀ j m c', j + m ≤ o.length → m ≤ c' → c' ≤ 9223372036854775807 → Ints (fun b => W.heap.size ≤ b) W (.slice (a.map (·.add j)) m c') ((o.drop j).take m)) (hk : o.length = k) (hm : m ≤ k) (hc : o.length ≤ c) (hc' : c ≤ 9223372036854775807) (hB : Below W.heap.size W W') (hv : ∀ b, v.ownBlock = some b → W.heap.size ≤ b) (ha : a1 = a.map (·.add m) ∨ m = k) :
    RepD (fun b => False ∨ v.ownBlock = some b) W' (.row 1 ((o.drop m).map intD)) [.slice a1 (k - m) (c - m)] := by
  rcases ha with rfl | rfl
  · have h1 := (h m (k - m) (c - m) (by omega) (by omega) (by omega)).below hB
    rw [List.take_of_length_le (by rw [List.length_drop]; omega)] at h1
    refine RepD.bar (h1.frame (B := fun b => W.heap.size ≤ b) (fun b hb hlt => rfl) (fun b _ h => h)) fun b _ hb => ?_
    rcases hb with hb | hb
    · exact hb.elim
    · exact hv b hb
  · rw [List.drop_of_length_le (by omega), Nat.sub_self]
    simp only [List.map_nil, RepD]
    exact ⟨a1, 0, c - m, rfl, rfl, by omega, by omega, by omega⟩
set_option maxHeartbeats 8000000 in
set_option maxRecDepth 100000 in
theorem rsorted_calls (l : List Int) (a0 : Option Addr) (c0 : Nat) (w : World) (hl : l.length ≤ 4096) (hs : IntsIn w a0 l) :
    Calls Tryd.prog 45 #[.slice a0 l.length c0] w fun e w' => ∃ a c, e = .returned (.slice a l.length c) ∧ IntsIn w' a (sortR l) ∧ Below w.heap.size w w' := by
  have HS := hide hs
  clear hs
  go_enter Tryd.func45, Tryd.ntmps45
  go_wp2
  go_loopw [3, 4] (fun v i wr => ∃ k : Nat, k ≤ l.length ∧ i = .int .i64 k ∧ Hid (Below w.heap.size w wr) ∧ Hid (wr.ownsRow w.heap.size 3 1 v (sortR (l.take k)).length ((sortR (l.take k)).map (Value.int .i64))) ∧ Hid (k = 0 → v = .slice none 0 0)) (fun _ i _ => l.length - (intOf i).toNat)
  case atStart => exact ⟨0, by omega, rfl, hide (Below.refl _ _), hide (World.ownsRow_nil _ _ _ _), hide fun _ => rfl⟩
  case round =>
    obtain ⟨k, hk, rfl, hB, hR, hN⟩ := hrel
    generalize wr = W1 at *
    obtain ⟨a, c, hcut⟩ := ownsRow.cut hR.out
    have HLO := hide (show (sortR (l.take k)).length = k by rw [sortR_length, List.length_take]; omega)
    have HC := hide hcut
    have hv := hcut.v
    rw [HLO.out] at hv
    subst hv
    have hk0 : ∀ g, a = some ⟨g, 0, none⟩ → 0 < k := fun g hg => by
      subst hg
      rcases Nat.eq_zero_or_pos k with h | h
      · have := hN.out h
        simp at this
      · exact h
    clear hcut hN
    by_cases hlt : k < l.length
    · have HST := hide (sortR_step l k hlt)
      generalize sortR (l.take k) = o at HLO HC HST hR
      obtain ⟨bi, oi, hai, x0⟩ := HS.out.2 k hlt
      subst hai
      have X0 := (hB.out.cell (p := ⟨bi, oi + k, none⟩) (World.block_lt_of_cell? _ _ x0)).trans x0
      clear x0
      have HPT := hide (fun j m' c' h1 h2 h3 => HC.out.part (fun b => W1.heap.size ≤ b) (fun b hb h => by have := (hR.out.lt b (by rw [HLO.out] at *; exact hb)).2; omega) j m' c' h1 h2 h3)
      go_wp2
      go_loopw [5] (fun j wr => ∃ m : Nat, m ≤ k ∧ j = .int .i64 m ∧ Hid (Below W1.heap.size W1 wr) ∧ Hid (insR l[k] o = o.take m ++ insR l[k] (o.drop m))) (fun j _ => k - (intOf j).toNat)
      case atStart => exact ⟨0, by omega, rfl, hide (Below.refl _ _), hide (by simp)⟩
      case round =>
        obtain ⟨m, hm, rfl, hB2, hI⟩ := hrel
        have X1 := (hB2.out.cell (p := ⟨bi, oi + k, none⟩) (World.block_lt_of_cell? _ _ X0)).trans X0
        by_cases hmk : m < k
        · obtain ⟨bo, oo, hao, z0⟩ := HC.out.ints.2 m (by have := HLO.out; omega)
          subst hao
          have hmo : m < o.length := by have := HLO.out; omega
          have Z0 := (hB2.out.cell (p := ⟨bo, oo + m, none⟩) (World.block_lt_of_cell? _ _ z0)).trans z0
          have HDR := hide (List.drop_eq_getElem_cons hmo)
          have HTK := hide (List.take_succ_eq_append_getElem hmo)
          clear z0
          generalize hom : o[m] = om at Z0 HDR HTK
          clear hom
          go_wp2
          refine drawn_tree (fun W' => W'.cell? ⟨bi, oi + k, none⟩ = some (.int .i64 l[k]) ∧ W'.cell? ⟨bo, oo + m, none⟩ = some (.int .i64 om)) (.take 0 <| .take 1 <| .take 2 <| .take 3 <| .take 4 <| .take 5 <| .take 6 <| .take 7 <| .take 8 <| .take 9 <| .take 10 <| .take 11 <| .take 12 <| .take 13 <| .take 14 <| .done) (by kernel_rfl) (by kernel_rfl) (by kernel_rfl) (by kernel_rfl) (fun _ _ _ _ _ h => h) ⟨X1, Z0⟩ ?_
          iterate 15 (refine t_take (v := ?_) rfl (by rfl) ?_ ?_; rotate_left; (intro w hS; obtain ⟨hS1, hS2⟩ := hS; go_simp; try with_reducible rfl); simp only [Act.put, List.setIfInBounds_toArray, List.set_cons_zero, List.set_cons_succ])
          refine t_done ?_
          by_cases hc : om < l[k]
          · have HI := hide (show insR l[k] o = o.take (m + 1) ++ insR l[k] (o.drop (m + 1)) from by rw [hI.out, HDR.out, insR, if_pos hc, HTK.out, List.append_assoc]; rfl)
            go_wp2
            go_roundw
            case rel => exact ⟨m + 1, by omega, by go_num, hide hB2.out.drew, HI⟩
            case measure => simp [intOf]; omega
          · have HI := hide (show insR l[k] o = o.take m ++ l[k] :: o.drop m from by rw [hI.out, HDR.out, insR, if_neg hc])
            have HBW := hide (hB2.out.drew)
            have X2 : wr.drew.cell? ⟨bi, oi + k, none⟩ = some (.int .i64 l[k]) := X1
            clear hI
            generalize wr.drew = W2 at *
            have HS1 := hide (show RepD (fun b => False ∨ (Value.slice none 0 0).ownBlock = some b) W2 (.row 1 ((o.take m).map intD)) [.slice (some ⟨bo, oo, none⟩) m c] from by
              have := (HC.out.part (fun b => False ∨ (Value.slice none 0 0).ownBlock = some b) (fun b hb h => by simp [Value.ownBlock] at h) 0 m c (by have := HLO.out; omega) (by have := HC.out.len; have := HLO.out; omega) HC.out.cap).below HBW.out
              rw [addz] at this
              simpa [Ints] using this)
            have HSZ1 := hide HBW.out.size
            have hmk' : ¬ k < m := by omega
            have HLT := hide (show (o.take m).length = m by rw [List.length_take]; have := HLO.out; omega)
            have HLK := hide (show ((o.take m ++ [l[k]]).map intD).length + ((o.drop m).map intD).length = k + 1 by simp only [List.length_append, List.length_map, List.length_drop, List.length_cons, List.length_nil, HLT.out]; have := HLO.out; omega)
            have HLM := hide (show ([] : List D).length + ((o.take m).map intD).length = m by simp only [List.length_nil, List.length_map, List.length_take]; have := HLO.out; omega)
            have hlm : ((o.take m).map intD).length ≤ 4096 := by rw [List.length_map, List.length_take]; omega
            have hmc : m ≤ c := by have := HC.out.len; have := HLO.out; omega
            have hkc : k ≤ c := by have := HC.out.len; have := HLO.out; omega
            go_wp2_with (at_builtin; first
              | (refine app_all_pl rfl (.tmp 30) (.tmp 33) 34 rfl W2.heap.size 3 (.int .i64 0) 1 8 Tryd.underlying34 (by kernel_rfl) rfl (by decide) (A := fun _ => False) (v := .slice none 0 0) (ds := []) (ds2 := (o.take m).map intD) rfl rfl (OwnD.nil _ _ _ _ _) HS1.out (fun d hd => by obtain ⟨z, -, rfl⟩ := List.mem_map.1 hd; exact intOne z) (by simp only [List.length_nil, Nat.zero_add]; unfold maxLen; omega) (by simp only [List.length_nil, Nat.zero_add]; omega) (Nat.le_refl _) ?_; intro v6 w3 o1 k1 n1 e1; rw [HLM.out] at e1; obtain ⟨a6, c6, rfl⟩ := e1; have O1 := hide (intRow_len HLM.out o1); have X3 := k1.cell (p := ⟨bi, oi + k, none⟩) (by simp [Value.ownBlock]) X2)
              | (refine app_pl rfl _ _ 34 rfl W2.heap.size 3 (.int .i64 0) 1 8 Tryd.underlying34 (by kernel_rfl) rfl (by decide) (by decide) _ m _ rfl O1.out 1 1 _ rfl (by simp [Value.oneCell']) rfl (by omega) k1.size ?_; intro v6' w4 r1 r2 r3 r4; obtain ⟨a7, c7, rfl⟩ := r4; have l1 := O1.out.lt; have B4 : Below w.heap.size w w4 := hB.out.trans ((HBW.out.mono hB.out.size).trans ((k1.below (fun b hb h => by simp [Value.ownBlock] at h) (by have := HSZ1.out; have := hB.out.size; omega)).trans (r2.below (fun b hb h => by have := (l1 b h).1; have := HSZ1.out; have := hB.out.size; omega) (by have := k1.size; have := HSZ1.out; have := hB.out.size; omega)))); have O2 := hide (cut_own (A := fun _ => False) HLT.out r1); have HS2 := hide (show RepD (fun b => False ∨ (Value.slice a7 (m + 1) c7).ownBlock = some b) w4 (.row 1 ((o.drop m).map intD)) [.slice (some ⟨bo, oo + m, none⟩) (k - m) (c - m)] from cut_rest HPT.out HLO.out hm HC.out.len HC.out.cap (HBW.out.trans ((k1.below (fun b hb h => by simp [Value.ownBlock] at h) HSZ1.out).trans (r2.below (fun b hb h => by have := (l1 b h).1; have := HSZ1.out; omega) (by have := k1.size; have := HSZ1.out; omega)))) (fun b h => by have := (O2.out.lt b h).1; have := HSZ1.out; omega) (.inl (by simp only [Option.map_some, Addr.add]; split <;> simp_all))))
              | (refine app_all_pl rfl (.tmp 42) (.tmp 45) 34 rfl W2.heap.size 3 (.int .i64 0) 1 8 Tryd.underlying34 (by kernel_rfl) rfl (by decide) (A := fun _ => False) (v := .slice a7 (m + 1) c7) (ds := (o.take m ++ [l[k]]).map intD) (ds2 := (o.drop m).map intD) rfl rfl O2.out HS2.out (fun d hd => by obtain ⟨z, -, rfl⟩ := List.mem_map.1 hd; exact intOne z) (by rw [HLK.out]; unfold maxLen; omega) (by rw [HLK.out]; omega) (by have := k1.size; have := r2.size; omega) ?_; intro v8 w5 o3 k3 n3 e3; rw [HLK.out] at e3; obtain ⟨a8, c8, rfl⟩ := e3))
            go_roundw
            case rel =>
              refine ⟨k + 1, by omega, by go_num, hide (B4.trans (k3.below (fun b hb h => by have := (O2.out.lt b h).1; have := HSZ1.out; have := hB.out.size; omega) (by have := B4.size; omega))), hide ?_, hide fun h => by omega⟩
              have h9 := OwnD.intRow (o := o.take m ++ [l[k]] ++ o.drop m) (by rw [List.map_append]; exact o3)
              rw [HST.out, HI.out]
              rw [List.append_assoc] at h9
              exact ownsRow_base h9 (by have := HSZ1.out; have := hB.out.size; omega)
            case measure => simp [intOf]; omega
        · obtain rfl : m = k := by omega
          go_wp2
          refine drawn_tree (fun W' => W'.cell? ⟨bi, oi + m, none⟩ = some (.int .i64 l[m]) ∧ True) (.take 0 <| .take 1 <| .take 2 <| .take 3 <| .take 4 <| .take 5 <| .take 6 <| .take 7 <| .take 8 <| .take 9 <| .take 10 <| .take 11 <| .take 12 <| .take 13 <| .take 14 <| .done) (by kernel_rfl) (by kernel_rfl) (by kernel_rfl) (by kernel_rfl) (fun _ _ _ _ _ h => h) ⟨X1, trivial⟩ ?_
          iterate 5 (refine t_take (v := ?_) rfl (by rfl) ?_ ?_; rotate_left; (intro w hS; obtain ⟨hS1, hS2⟩ := hS; go_simp; try with_reducible rfl); simp only [Act.put, List.setIfInBounds_toArray, List.set_cons_zero, List.set_cons_succ])
          iterate 9 (refine t_skip rfl (by rfl) ?_; simp only [Act.put, List.setIfInBounds_toArray, List.set_cons_zero, List.set_cons_succ])
          iterate 1 (refine t_take (v := ?_) rfl (by rfl) ?_ ?_; rotate_left; (intro w hS; obtain ⟨hS1, hS2⟩ := hS; go_simp; try with_reducible rfl); simp only [Act.put, List.setIfInBounds_toArray, List.set_cons_zero, List.set_cons_succ])
          refine t_done ?_
          rcases HC.out.shape with ⟨rfl, rfl⟩ | ⟨g, rfl⟩
          · obtain rfl : m = 0 := by have := HC.out.len; have := HLO.out; omega
            have HI := hide (show insR l[0] o = o.take 0 ++ l[0] :: o.drop 0 from by rw [hI.out, List.drop_of_length_le (by have := HLO.out; omega)]; rfl)
            have HBW := hide (hB2.out.drew)
            have X2 : wr.drew.cell? ⟨bi, oi, none⟩ = some (.int .i64 l[0]) := X1
            clear hI
            generalize wr.drew = W2 at *
            have HS1 := hide (show RepD (fun b => False ∨ (Value.slice none 0 0).ownBlock = some b) W2 (.row 1 ((o.take 0).map intD)) [.slice none 0 0] from by
              have := (HC.out.part (fun b => False ∨ (Value.slice none 0 0).ownBlock = some b) (fun b hb h => by simp [Value.ownBlock] at h) 0 0 0 (by have := HLO.out; omega) (by have := HC.out.len; have := HLO.out; omega) HC.out.cap).below HBW.out
              rw [addz] at this
              simpa [Ints] using this)
            have HSZ1 := hide HBW.out.size
            have hmk' : ¬ 0 < 0 := by omega
            have HLT := hide (show (o.take 0).length = 0 by rw [List.length_take]; have := HLO.out; omega)
            have HLK := hide (show ((o.take 0 ++ [l[0]]).map intD).length + ((o.drop 0).map intD).length = 0 + 1 by simp only [List.length_append, List.length_map, List.length_drop, List.length_cons, List.length_nil, HLT.out]; have := HLO.out; omega)
            have HLM := hide (show ([] : List D).length + ((o.take 0).map intD).length = 0 by simp only [List.length_nil, List.length_map, List.length_take]; have := HLO.out; omega)
            have hlm : ((o.take 0).map intD).length ≤ 4096 := by rw [List.length_map, List.length_take]; omega
            have hmc : 0 ≤ 0 := by have := HC.out.len; have := HLO.out; omega
            have hkc : 0 ≤ 0 := by have := HC.out.len; have := HLO.out; omega
            go_wp2_with (at_builtin; first
              | (refine app_all_pl rfl (.tmp 30) (.tmp 33) 34 rfl W2.heap.size 3 (.int .i64 0) 1 8 Tryd.underlying34 (by kernel_rfl) rfl (by decide) (A := fun _ => False) (v := .slice none 0 0) (ds := []) (ds2 := (o.take 0).map intD) rfl rfl (OwnD.nil _ _ _ _ _) HS1.out (fun d hd => by obtain ⟨z, -, rfl⟩ := List.mem_map.1 hd; exact intOne z) (by simp only [List.length_nil, Nat.zero_add]; unfold maxLen; omega) (by simp only [List.length_nil, Nat.zero_add]; omega) (Nat.le_refl _) ?_; intro v6 w3 o1 k1 n1 e1; rw [HLM.out] at e1; obtain ⟨a6, c6, rfl⟩ := e1; have O1 := hide (intRow_len HLM.out o1); have X3 := k1.cell (p := ⟨bi, oi, none⟩) (by simp [Value.ownBlock]) X2)
              | (refine app_pl rfl _ _ 34 rfl W2.heap.size 3 (.int .i64 0) 1 8 Tryd.underlying34 (by kernel_rfl) rfl (by decide) (by decide) _ 0 _ rfl O1.out 1 1 _ rfl (by simp [Value.oneCell']) rfl (by omega) k1.size ?_; intro v6' w4 r1 r2 r3 r4; obtain ⟨a7, c7, rfl⟩ := r4; have l1 := O1.out.lt; have B4 : Below w.heap.size w w4 := hB.out.trans ((HBW.out.mono hB.out.size).trans ((k1.below (fun b hb h => by simp [Value.ownBlock] at h) (by have := HSZ1.out; have := hB.out.size; omega)).trans (r2.below (fun b hb h => by have := (l1 b h).1; have := HSZ1.out; have := hB.out.size; omega) (by have := k1.size; have := HSZ1.out; have := hB.out.size; omega)))); have O2 := hide (cut_own (A := fun _ => False) HLT.out r1); have HS2 := hide (fun (a1 : Option Addr) (c2 : Nat) => show RepD (fun b => False ∨ (Value.slice a7 (0 + 1) c7).ownBlock = some b) w4 (.row 1 ((o.drop 0).map intD)) [.slice a1 0 c2] from by rw [List.drop_of_length_le (by have := HLO.out; omega)]; simp only [List.map_nil, RepD]; exact ⟨a1, 0, c2, rfl, rfl, by omega, by omega, by omega⟩))
              | (refine app_all_pl rfl (.tmp 42) (.tmp 45) 34 rfl W2.heap.size 3 (.int .i64 0) 1 8 Tryd.underlying34 (by kernel_rfl) rfl (by decide) (A := fun _ => False) (v := .slice a7 (0 + 1) c7) (ds := (o.take 0 ++ [l[0]]).map intD) (ds2 := (o.drop 0).map intD) rfl rfl O2.out (HS2.out _ _) (fun d hd => by obtain ⟨z, -, rfl⟩ := List.mem_map.1 hd; exact intOne z) (by rw [HLK.out]; unfold maxLen; omega) (by rw [HLK.out]; omega) (by have := k1.size; have := r2.size; omega) ?_; intro v8 w5 o3 k3 n3 e3; rw [HLK.out] at e3; obtain ⟨a8, c8, rfl⟩ := e3))
            go_roundw
            case rel =>
              refine ⟨0 + 1, by omega, by go_num, hide (B4.trans (k3.below (fun b hb h => by have := (O2.out.lt b h).1; have := HSZ1.out; have := hB.out.size; omega) (by have := B4.size; omega))), hide ?_, hide fun h => by omega⟩
              have h9 := OwnD.intRow (o := o.take 0 ++ [l[0]] ++ o.drop 0) (by rw [List.map_append]; exact o3)
              rw [HST.out, HI.out]
              rw [List.append_assoc] at h9
              exact ownsRow_base h9 (by have := HSZ1.out; have := hB.out.size; omega)
            case measure => simp [intOf]; omega
          · have hm0 : 0 < m := hk0 g rfl
            · by_cases hcm : c = m
              · subst hcm
                have HI := hide (show insR l[c] o = o.take c ++ l[c] :: o.drop c from by rw [hI.out, List.drop_of_length_le (by have := HLO.out; omega)]; rfl)
                have HBW := hide (hB2.out.drew)
                have X2 : wr.drew.cell? ⟨bi, oi + c, none⟩ = some (.int .i64 l[c]) := X1
                clear hI
                generalize wr.drew = W2 at *
                have HS1 := hide (show RepD (fun b => False ∨ (Value.slice none 0 0).ownBlock = some b) W2 (.row 1 ((o.take c).map intD)) [.slice (some ⟨g, 0, none⟩) c c] from by
                  have := (HC.out.part (fun b => False ∨ (Value.slice none 0 0).ownBlock = some b) (fun b hb h => by simp [Value.ownBlock] at h) 0 c c (by have := HLO.out; omega) (by have := HC.out.len; have := HLO.out; omega) HC.out.cap).below HBW.out
                  rw [addz] at this
                  simpa [Ints] using this)
                have HSZ1 := hide HBW.out.size
                have hmk' : ¬ c < c := by omega
                have HLT := hide (show (o.take c).length = c by rw [List.length_take]; have := HLO.out; omega)
                have HLK := hide (show ((o.take c ++ [l[c]]).map intD).length + ((o.drop c).map intD).length = c + 1 by simp only [List.length_append, List.length_map, List.length_drop, List.length_cons, List.length_nil, HLT.out]; have := HLO.out; omega)
                have HLM := hide (show ([] : List D).length + ((o.take c).map intD).length = c by simp only [List.length_nil, List.length_map, List.length_take]; have := HLO.out; omega)
                have hlm : ((o.take c).map intD).length ≤ 4096 := by rw [List.length_map, List.length_take]; omega
                have hmc : c ≤ c := by have := HC.out.len; have := HLO.out; omega
                have hkc : c ≤ c := by have := HC.out.len; have := HLO.out; omega
                go_wp2_with (at_builtin; first
                  | (refine app_all_pl rfl (.tmp 30) (.tmp 33) 34 rfl W2.heap.size 3 (.int .i64 0) 1 8 Tryd.underlying34 (by kernel_rfl) rfl (by decide) (A := fun _ => False) (v := .slice none 0 0) (ds := []) (ds2 := (o.take c).map intD) rfl rfl (OwnD.nil _ _ _ _ _) HS1.out (fun d hd => by obtain ⟨z, -, rfl⟩ := List.mem_map.1 hd; exact intOne z) (by simp only [List.length_nil, Nat.zero_add]; unfold maxLen; omega) (by simp only [List.length_nil, Nat.zero_add]; omega) (Nat.le_refl _) ?_; intro v6 w3 o1 k1 n1 e1; rw [HLM.out] at e1; obtain ⟨a6, c6, rfl⟩ := e1; have O1 := hide (intRow_len HLM.out o1); have X3 := k1.cell (p := ⟨bi, oi + c, none⟩) (by simp [Value.ownBlock]) X2)
                  | (refine app_pl rfl _ _ 34 rfl W2.heap.size 3 (.int .i64 0) 1 8 Tryd.underlying34 (by kernel_rfl) rfl (by decide) (by decide) _ c _ rfl O1.out 1 1 _ rfl (by simp [Value.oneCell']) rfl (by omega) k1.size ?_; intro v6' w4 r1 r2 r3 r4; obtain ⟨a7, c7, rfl⟩ := r4; have l1 := O1.out.lt; have B4 : Below w.heap.size w w4 := hB.out.trans ((HBW.out.mono hB.out.size).trans ((k1.below (fun b hb h => by simp [Value.ownBlock] at h) (by have := HSZ1.out; have := hB.out.size; omega)).trans (r2.below (fun b hb h => by have := (l1 b h).1; have := HSZ1.out; have := hB.out.size; omega) (by have := k1.size; have := HSZ1.out; have := hB.out.size; omega)))); have O2 := hide (cut_own (A := fun _ => False) HLT.out r1); have HS2 := hide (fun (a1 : Option Addr) (c2 : Nat) => show RepD (fun b => False ∨ (Value.slice a7 (c + 1) c7).ownBlock = some b) w4 (.row 1 ((o.drop c).map intD)) [.slice a1 0 c2] from by rw [List.drop_of_length_le (by have := HLO.out; omega)]; simp only [List.map_nil, RepD]; exact ⟨a1, 0, c2, rfl, rfl, by omega, by omega, by omega⟩))
                  | (refine app_all_pl rfl (.tmp 42) (.tmp 45) 34 rfl W2.heap.size 3 (.int .i64 0) 1 8 Tryd.underlying34 (by kernel_rfl) rfl (by decide) (A := fun _ => False) (v := .slice a7 (c + 1) c7) (ds := (o.take c ++ [l[c]]).map intD) (ds2 := (o.drop c).map intD) rfl rfl O2.out (HS2.out _ _) (fun d hd => by obtain ⟨z, -, rfl⟩ := List.mem_map.1 hd; exact intOne z) (by rw [HLK.out]; unfold maxLen; omega) (by rw [HLK.out]; omega) (by have := k1.size; have := r2.size; omega) ?_; intro v8 w5 o3 k3 n3 e3; rw [HLK.out] at e3; obtain ⟨a8, c8, rfl⟩ := e3))
                go_roundw
                case rel =>
                  refine ⟨c + 1, by omega, by go_num, hide (B4.trans (k3.below (fun b hb h => by have := (O2.out.lt b h).1; have := HSZ1.out; have := hB.out.size; omega) (by have := B4.size; omega))), hide ?_, hide fun h => by omega⟩
                  have h9 := OwnD.intRow (o := o.take c ++ [l[c]] ++ o.drop c) (by rw [List.map_append]; exact o3)
                  rw [HST.out, HI.out]
                  rw [List.append_assoc] at h9
                  exact ownsRow_base h9 (by have := HSZ1.out; have := hB.out.size; omega)
                case measure => simp [intOf]; omega
              · have HI := hide (show insR l[m] o = o.take m ++ l[m] :: o.drop m from by rw [hI.out, List.drop_of_length_le (by have := HLO.out; omega)]; rfl)
                have HBW := hide (hB2.out.drew)
                have X2 : wr.drew.cell? ⟨bi, oi + m, none⟩ = some (.int .i64 l[m]) := X1
                clear hI
                generalize wr.drew = W2 at *
                have HS1 := hide (show RepD (fun b => False ∨ (Value.slice none 0 0).ownBlock = some b) W2 (.row 1 ((o.take m).map intD)) [.slice (some ⟨g, 0, none⟩) m c] from by
                  have := (HC.out.part (fun b => False ∨ (Value.slice none 0 0).ownBlock = some b) (fun b hb h => by simp [Value.ownBlock] at h) 0 m c (by have := HLO.out; omega) (by have := HC.out.len; have := HLO.out; omega) HC.out.cap).below HBW.out
                  rw [addz] at this
                  simpa [Ints] using this)
                have HSZ1 := hide HBW.out.size
                have hmk' : ¬ m < m := by omega
                have HLT := hide (show (o.take m).length = m by rw [List.length_take]; have := HLO.out; omega)
                have HLK := hide (show ((o.take m ++ [l[m]]).map intD).length + ((o.drop m).map intD).length = m + 1 by simp only [List.length_append, List.length_map, List.length_drop, List.length_cons, List.length_nil, HLT.out]; have := HLO.out; omega)
                have HLM := hide (show ([] : List D).length + ((o.take m).map intD).length = m by simp only [List.length_nil, List.length_map, List.length_take]; have := HLO.out; omega)
                have hlm : ((o.take m).map intD).length ≤ 4096 := by rw [List.length_map, List.length_take]; omega
                have hmc : m ≤ c := by have := HC.out.len; have := HLO.out; omega
                have hkc : m ≤ c := by have := HC.out.len; have := HLO.out; omega
                go_wp2_with (at_builtin; first
                  | (refine app_all_pl rfl (.tmp 30) (.tmp 33) 34 rfl W2.heap.size 3 (.int .i64 0) 1 8 Tryd.underlying34 (by kernel_rfl) rfl (by decide) (A := fun _ => False) (v := .slice none 0 0) (ds := []) (ds2 := (o.take m).map intD) rfl rfl (OwnD.nil _ _ _ _ _) HS1.out (fun d hd => by obtain ⟨z, -, rfl⟩ := List.mem_map.1 hd; exact intOne z) (by simp only [List.length_nil, Nat.zero_add]; unfold maxLen; omega) (by simp only [List.length_nil, Nat.zero_add]; omega) (Nat.le_refl _) ?_; intro v6 w3 o1 k1 n1 e1; rw [HLM.out] at e1; obtain ⟨a6, c6, rfl⟩ := e1; have O1 := hide (intRow_len HLM.out o1); have X3 := k1.cell (p := ⟨bi, oi + m, none⟩) (by simp [Value.ownBlock]) X2)
                  | (refine app_pl rfl _ _ 34 rfl W2.heap.size 3 (.int .i64 0) 1 8 Tryd.underlying34 (by kernel_rfl) rfl (by decide) (by decide) _ m _ rfl O1.out 1 1 _ rfl (by simp [Value.oneCell']) rfl (by omega) k1.size ?_; intro v6' w4 r1 r2 r3 r4; obtain ⟨a7, c7, rfl⟩ := r4; have l1 := O1.out.lt; have B4 : Below w.heap.size w w4 := hB.out.trans ((HBW.out.mono hB.out.size).trans ((k1.below (fun b hb h => by simp [Value.ownBlock] at h) (by have := HSZ1.out; have := hB.out.size; omega)).trans (r2.below (fun b hb h => by have := (l1 b h).1; have := HSZ1.out; have := hB.out.size; omega) (by have := k1.size; have := HSZ1.out; have := hB.out.size; omega)))); have O2 := hide (cut_own (A := fun _ => False) HLT.out r1); have HS2 := hide (fun (a1 : Option Addr) (c2 : Nat) => show RepD (fun b => False ∨ (Value.slice a7 (m + 1) c7).ownBlock = some b) w4 (.row 1 ((o.drop m).map intD)) [.slice a1 0 c2] from by rw [List.drop_of_length_le (by have := HLO.out; omega)]; simp only [List.map_nil, RepD]; exact ⟨a1, 0, c2, rfl, rfl, by omega, by omega, by omega⟩))
                  | (refine app_all_pl rfl (.tmp 42) (.tmp 45) 34 rfl W2.heap.size 3 (.int .i64 0) 1 8 Tryd.underlying34 (by kernel_rfl) rfl (by decide) (A := fun _ => False) (v := .slice a7 (m + 1) c7) (ds := (o.take m ++ [l[m]]).map intD) (ds2 := (o.drop m).map intD) rfl rfl O2.out (HS2.out _ _) (fun d hd => by obtain ⟨z, -, rfl⟩ := List.mem_map.1 hd; exact intOne z) (by rw [HLK.out]; unfold maxLen; omega) (by rw [HLK.out]; omega) (by have := k1.size; have := r2.size; omega) ?_; intro v8 w5 o3 k3 n3 e3; rw [HLK.out] at e3; obtain ⟨a8, c8, rfl⟩ := e3))
                go_roundw
                case rel =>
                  refine ⟨m + 1, by omega, by go_num, hide (B4.trans (k3.below (fun b hb h => by have := (O2.out.lt b h).1; have := HSZ1.out; have := hB.out.size; omega) (by have := B4.size; omega))), hide ?_, hide fun h => by omega⟩
                  have h9 := OwnD.intRow (o := o.take m ++ [l[m]] ++ o.drop m) (by rw [List.map_append]; exact o3)
                  rw [HST.out, HI.out]
                  rw [List.append_assoc] at h9
                  exact ownsRow_base h9 (by have := HSZ1.out; have := hB.out.size; omega)
                case measure => simp [intOf]; omega
    · obtain rfl : k = l.length := by omega
      have h9 := HC.out.ints
      rw [List.take_length] at h9
      go_wp2
      go_ret
      exact ⟨a, c, rfl, h9, hB.out⟩
end
section
open Go.RowKit

theorem formT_eq (p t : Tm) : formT p t = if p.h < 0 then true else if p.h ≠ t.h ∨ p.args.length ≠ t.args.length then false else formL p.args t.args := by
  cases p with
  | node h l => rw [formT]; rfl
theorem oddsT_eq (p t : Tm) : oddsT p t = if p.h < 0 ∨ t.h < 0 then false else if p.h ≠ t.h ∨ p.args.length ≠ t.args.length then true else oddsL p.args t.args := by
  cases p with
  | node h l => rw [oddsT]; rfl
theorem formL_drop (p t : List Tm) (k : Nat) (h : k < p.length) (h' : k < t.length) : formL (p.drop k) (t.drop k) = (formT p[k] t[k] && formL (p.drop (k + 1)) (t.drop (k + 1))) := by
  rw [List.drop_eq_getElem_cons h, List.drop_eq_getElem_cons h', formL]
theorem oddsL_drop (p t : List Tm) (k : Nat) (h : k < p.length) (h' : k < t.length) : oddsL (p.drop k) (t.drop k) = (oddsT p[k] t[k] || oddsL (p.drop (k + 1)) (t.drop (k + 1))) := by
  rw [List.drop_eq_getElem_cons h, List.drop_eq_getElem_cons h', oddsL]

set_option maxHeartbeats 8000000 in
set_option maxRecDepth 100000 in
theorem form_calls (n0 : Nat) : ∀ (p t : Tm) (A B : Nat → Prop) (h1 : Int) (s1 : Value) (h2 : Int) (s2 : Value) (w : World), p.size ≤ n0 → p.size ≤ 1000000 → IsTm A w h1 s1 p → IsTm B w h2 s2 t →
    Calls Tryd.prog 43 #[.agg #[.int .i64 h1, s1], .agg #[.int .i64 h2, s2]] w fun e w' => e = .returned (.bool (formT p t)) ∧ Below w.heap.size w w' := by
  induction n0 with
  | zero => intro p t _ _ _ _ _ _ _ hp; have := p.size_eq; omega
  | succ n0 ih =>
    rintro p t A B h1 s1 h2 s2 w hp hz hs1 hs2
    obtain ⟨rfl, a1, c1, rfl, hlc1, hc1⟩ := hs1.shape
    obtain ⟨rfl, a2, c2, rfl, hlc2, hc2⟩ := hs2.shape
    have HSZ := hide p.size_eq
    have hle := Tm.sizes_length p.args
    have HG := hide (formT_eq p t)
    have HS1 := hide hs1.2
    have HS2 := hide hs2.2
    have HIH := hide ih
    have HP := hide hp
    have HZ := hide hz
    have HW := hide (allocs_below w [.cells #[.int .i64 p.h, .slice a1 p.args.length c1] 24, .cells #[.int .i64 t.h, .slice a2 t.args.length c2] 24])
    have HK0 := hide (allocs_get w [.cells #[.int .i64 p.h, .slice a1 p.args.length c1] 24, .cells #[.int .i64 t.h, .slice a2 t.args.length c2] 24] 0 _ rfl)
    have HK1 := hide (allocs_get w [.cells #[.int .i64 p.h, .slice a1 p.args.length c1] 24, .cells #[.int .i64 t.h, .slice a2 t.args.length c2] 24] 1 _ rfl)
    have hl8 : p.args.length ≤ 1000000 := by have := HSZ.out; omega
    clear hs1 hs2 ih hp hz hle
    go_enter Tryd.func43, Tryd.ntmps43
    by_cases hneg : p.h < 0
    · have HX := hide (show formT p t = true by rw [HG.out, if_pos hneg])
      go_wp2
      go_ret
      rw [HX.out]
      exact ⟨rfl, HW.out⟩
    by_cases hne : p.h = t.h ∧ p.args.length = t.args.length
    · obtain ⟨heq, hln⟩ := hne
      have HG2 := hide (show formT p t = formL (p.args.drop 0) (t.args.drop 0) by rw [HG.out, if_neg hneg, if_neg (by omega)]; rfl)
      have HLN := hide hln
      rw [heq, hln] at HW HK0 HK1
      go_wp2
      clear heq hln HG
      have hgn : (w.alloc (.cells #[.int .i64 t.h, .slice a1 t.args.length c1] 24)).alloc (.cells #[.int .i64 t.h, .slice a2 t.args.length c2] 24) = allocs w [.cells #[.int .i64 t.h, .slice a1 t.args.length c1] 24, .cells #[.int .i64 t.h, .slice a2 t.args.length c2] 24] := rfl
      rw [hgn]
      clear hgn
      generalize allocs w [.cells #[.int .i64 t.h, .slice a1 t.args.length c1] 24, .cells #[.int .i64 t.h, .slice a2 t.args.length c2] 24] = W at *
      go_loopw [5] (fun i wr => ∃ k : Nat, k ≤ t.args.length ∧ i = .int .i64 k ∧ Hid (formT p t = formL (p.args.drop k) (t.args.drop k)) ∧ Hid (Below w.heap.size w wr) ∧ Hid (Below W.heap.size W wr)) (fun i _ => t.args.length - (intOf i).toNat)
      case atStart => exact ⟨0, by omega, rfl, HG2, hide HW.out, hide (Below.refl _ _)⟩
      case round =>
        obtain ⟨k, hk, rfl, hG, hB, hBW⟩ := hrel
        have hw0 := (Array.getElem?_eq_some_iff.1 HK0.out).1
        have hw1 := (Array.getElem?_eq_some_iff.1 HK1.out).1
        obtain ⟨-, y0, y1, -, -⟩ := box2 ((hBW.out.block _ hw0).trans HK0.out)
        obtain ⟨-, z0, z1, -, -⟩ := box2 ((hBW.out.block _ hw1).trans HK1.out)
        simp only [Nat.add_zero] at y0 y1 z0 z1
        by_cases hlt2 : k < t.args.length
        · have hlt : k < p.args.length := by have := HLN.out; omega
          obtain ⟨b1, o1, e1, d1, rfl, hb1, -, q0, q1, qt⟩ := HS1.out.get k hlt
          obtain ⟨b2, o2, e2, d2, rfl, hb2, -, r0, r1, rt⟩ := HS2.out.get k hlt2
          have HQ := hide (show IsTm A wr p.args[k].h (.slice e1 p.args[k].args.length d1) p.args[k] from ⟨rfl, qt.below hB.out⟩)
          have HR := hide (show IsTm B wr t.args[k].h (.slice e2 t.args[k].args.length d2) t.args[k] from ⟨rfl, rt.below hB.out⟩)
          have HSN := hide (show p.args[k].size ≤ n0 ∧ p.args[k].size ≤ 1000000 from by have := HSZ.out; have := HP.out; have := HZ.out; have := Tm.size_get p.args k hlt; omega)
          have HG3 := hide (show formT p t = (formT p.args[k] t.args[k] && formL (p.args.drop (k + 1)) (t.args.drop (k + 1))) from by rw [hG.out, formL_drop _ _ _ hlt hlt2])
          have HCL := hide (show ∀ W', Below wr.heap.size wr W' → W'.cell? ⟨w.heap.size, 1, none⟩ = some (.slice (some ⟨b1, o1, none⟩) t.args.length c1) ∧ W'.cell? ⟨w.heap.size + 1, 1, none⟩ = some (.slice (some ⟨b2, o2, none⟩) t.args.length c2) ∧ W'.cell? ⟨b1, o1 + k * 2, none⟩ = some (.int .i64 p.args[k].h) ∧ W'.cell? ⟨b1, o1 + k * 2 + 1, none⟩ = some (.slice e1 p.args[k].args.length d1) ∧ W'.cell? ⟨b2, o2 + k * 2, none⟩ = some (.int .i64 t.args[k].h) ∧ W'.cell? ⟨b2, o2 + k * 2 + 1, none⟩ = some (.slice e2 t.args[k].args.length d2) from fun W' hW => by
            have h9 := hBW.out.size
            have hww := hB.out.trans (hW.mono hB.out.size)
            exact ⟨(hW.cell (p := ⟨w.heap.size, 1, none⟩) (by show w.heap.size < _; omega)).trans y1, (hW.cell (p := ⟨w.heap.size + 1, 1, none⟩) (by show w.heap.size + 1 < _; omega)).trans z1, (hww.cell (p := ⟨b1, o1 + k * 2, none⟩) hb1).trans q0, (hww.cell (p := ⟨b1, o1 + k * 2 + 1, none⟩) hb1).trans q1, (hww.cell (p := ⟨b2, o2 + k * 2, none⟩) hb2).trans r0, (hww.cell (p := ⟨b2, o2 + k * 2 + 1, none⟩) hb2).trans r1⟩)
          clear qt rt q0 q1 r0 r1
          go_wp2
          refine drawn_tree (fun W' => W'.cell? ⟨w.heap.size, 1, none⟩ = some (.slice (some ⟨b1, o1, none⟩) t.args.length c1) ∧ W'.cell? ⟨w.heap.size + 1, 1, none⟩ = some (.slice (some ⟨b2, o2, none⟩) t.args.length c2) ∧ W'.cell? ⟨b1, o1 + k * 2, none⟩ = some (.int .i64 p.args[k].h) ∧ W'.cell? ⟨b1, o1 + k * 2 + 1, none⟩ = some (.slice e1 p.args[k].args.length d1) ∧ W'.cell? ⟨b2, o2 + k * 2, none⟩ = some (.int .i64 t.args[k].h) ∧ W'.cell? ⟨b2, o2 + k * 2 + 1, none⟩ = some (.slice e2 t.args[k].args.length d2)) (.take 0 <| .take 1 <| .take 2 <| .take 3 <| .take 4 <| .take 5 <| .take 6 <| .take 7 <| .take 8 <| .take 9 <| .one 10 <| .take 11 <| .done) (by kernel_rfl) (by kernel_rfl) (by kernel_rfl) (by kernel_rfl) (fun _ _ _ _ _ h => h) (HCL.out _ (Below.refl _ _).drew) ?_
          iterate 10 (refine t_take (v := ?_) rfl (by rfl) ?_ ?_; rotate_left; (intro w hS; obtain ⟨hS1, hS2, hS3, hS4, hS5, hS6⟩ := hS; go_simp; try with_reducible rfl); simp only [Act.put, List.setIfInBounds_toArray, List.set_cons_zero, List.set_cons_succ])
          refine t_one rfl (by rfl) ?_
          intro K hK
          go_simp
          have hwd : Below wr.heap.size wr wr.drew := (Below.refl _ _).drew
          refine (HIH.out p.args[k] t.args[k] A B _ _ _ _ wr.drew HSN.out.1 HSN.out.2 ⟨rfl, HQ.out.2.below hwd⟩ ⟨rfl, HR.out.2.below hwd⟩).mono ?_
          rintro e w1 ⟨rfl, h1⟩
          have hB1 : Below wr.heap.size wr w1 := more_below (Below.refl _ _).drew h1
          refine hK.out _ _ (HCL.out _ hB1) ?_
          clear hK K
          iterate 1 (refine t_take (v := ?_) rfl (by rfl) ?_ ?_; rotate_left; (intro w hS; go_simp; try with_reducible rfl); simp only [Act.put, List.setIfInBounds_toArray, List.set_cons_zero, List.set_cons_succ])
          refine t_done ?_
          have HB2 := hide (hB.out.trans (hB1.mono hB.out.size))
          have HB3 := hide (hBW.out.trans (hB1.mono hBW.out.size))
          clear hB1 hB hBW h1 hwd
          cases hfv : formT p.args[k] t.args[k] with
          | false =>
            go_wp2
            go_ret
            rw [HG3.out, hfv]
            exact ⟨rfl, HB2.out⟩
          | true =>
            go_wp2
            go_roundw
            case rel => exact ⟨k + 1, by omega, by go_num, hide (by rw [HG3.out, hfv]; rfl), HB2, HB3⟩
            case measure => simp [intOf]; omega
        · obtain rfl : k = t.args.length := by omega
          have HE := hide (show formT p t = true by rw [hG.out, ← HLN.out, List.drop_length]; rw [formL])
          go_wp2
          go_ret
          rw [HE.out]
          exact ⟨rfl, hB.out⟩
    · have HX := hide (show formT p t = false by rw [HG.out, if_neg hneg, if_pos (by omega)])
      have HX2 := hide hne
      by_cases h1 : p.h = t.h
      · have h2 : ¬ p.args.length = t.args.length := fun h => hne ⟨h1, h⟩
        clear hne
        rw [h1] at HW
        go_wp2
        go_ret
        rw [HX.out]
        exact ⟨rfl, HW.out⟩
      · clear hne
        go_wp2
        go_ret
        rw [HX.out]
        exact ⟨rfl, HW.out⟩

set_option maxHeartbeats 8000000 in
set_option maxRecDepth 100000 in
theorem odds_calls (n0 : Nat) : ∀ (p t : Tm) (A B : Nat → Prop) (h1 : Int) (s1 : Value) (h2 : Int) (s2 : Value) (w : World), p.size ≤ n0 → p.size ≤ 1000000 → IsTm A w h1 s1 p → IsTm B w h2 s2 t →
    Calls Tryd.prog 44 #[.agg #[.int .i64 h1, s1], .agg #[.int .i64 h2, s2]] w fun e w' => e = .returned (.bool (oddsT p t)) ∧ Below w.heap.size w w' := by
  induction n0 with
  | zero => intro p t _ _ _ _ _ _ _ hp; have := p.size_eq; omega
  | succ n0 ih =>
    rintro p t A B h1 s1 h2 s2 w hp hz hs1 hs2
    obtain ⟨rfl, a1, c1, rfl, hlc1, hc1⟩ := hs1.shape
    obtain ⟨rfl, a2, c2, rfl, hlc2, hc2⟩ := hs2.shape
    have HSZ := hide p.size_eq
    have hle := Tm.sizes_length p.args
    have HG := hide (oddsT_eq p t)
    have HS1 := hide hs1.2
    have HS2 := hide hs2.2
    have HIH := hide ih
    have HP := hide hp
    have HZ := hide hz
    have HW := hide (allocs_below w [.cells #[.int .i64 p.h, .slice a1 p.args.length c1] 24, .cells #[.int .i64 t.h, .slice a2 t.args.length c2] 24])
    have HK0 := hide (allocs_get w [.cells #[.int .i64 p.h, .slice a1 p.args.length c1] 24, .cells #[.int .i64 t.h, .slice a2 t.args.length c2] 24] 0 _ rfl)
    have HK1 := hide (allocs_get w [.cells #[.int .i64 p.h, .slice a1 p.args.length c1] 24, .cells #[.int .i64 t.h, .slice a2 t.args.length c2] 24] 1 _ rfl)
    have hl8 : p.args.length ≤ 1000000 := by have := HSZ.out; omega
    clear hs1 hs2 ih hp hz hle
    go_enter Tryd.func44, Tryd.ntmps44
    by_cases hneg : p.h < 0
    · have HX := hide (show oddsT p t = false by rw [HG.out, if_pos (Or.inl hneg)])
      go_wp2
      go_ret
      rw [HX.out]
      exact ⟨rfl, HW.out⟩
    by_cases hneg2 : t.h < 0
    · have HX := hide (show oddsT p t = false by rw [HG.out, if_pos (Or.inr hneg2)])
      go_wp2
      go_ret
      rw [HX.out]
      exact ⟨rfl, HW.out⟩
    by_cases hne : p.h = t.h ∧ p.args.length = t.args.length
    · obtain ⟨heq, hln⟩ := hne
      have HG2 := hide (show oddsT p t = oddsL (p.args.drop 0) (t.args.drop 0) by rw [HG.out, if_neg (by omega), if_neg (by omega)]; rfl)
      have HLN := hide hln
      rw [heq, hln] at HW HK0 HK1
      go_wp2
      clear heq hln HG
      have hgn : (w.alloc (.cells #[.int .i64 t.h, .slice a1 t.args.length c1] 24)).alloc (.cells #[.int .i64 t.h, .slice a2 t.args.length c2] 24) = allocs w [.cells #[.int .i64 t.h, .slice a1 t.args.length c1] 24, .cells #[.int .i64 t.h, .slice a2 t.args.length c2] 24] := rfl
      rw [hgn]
      clear hgn
      generalize allocs w [.cells #[.int .i64 t.h, .slice a1 t.args.length c1] 24, .cells #[.int .i64 t.h, .slice a2 t.args.length c2] 24] = W at *
      go_loopw [5] (fun i wr => ∃ k : Nat, k ≤ t.args.length ∧ i = .int .i64 k ∧ Hid (oddsT p t = oddsL (p.args.drop k) (t.args.drop k)) ∧ Hid (Below w.heap.size w wr) ∧ Hid (Below W.heap.size W wr)) (fun i _ => t.args.length - (intOf i).toNat)
      case atStart => exact ⟨0, by omega, rfl, HG2, hide HW.out, hide (Below.refl _ _)⟩
      case round =>
        obtain ⟨k, hk, rfl, hG, hB, hBW⟩ := hrel
        have hw0 := (Array.getElem?_eq_some_iff.1 HK0.out).1
        have hw1 := (Array.getElem?_eq_some_iff.1 HK1.out).1
        obtain ⟨-, y0, y1, -, -⟩ := box2 ((hBW.out.block _ hw0).trans HK0.out)
        obtain ⟨-, z0, z1, -, -⟩ := box2 ((hBW.out.block _ hw1).trans HK1.out)
        simp only [Nat.add_zero] at y0 y1 z0 z1
        by_cases hlt2 : k < t.args.length
        · have hlt : k < p.args.length := by have := HLN.out; omega
          obtain ⟨b1, o1, e1, d1, rfl, hb1, -, q0, q1, qt⟩ := HS1.out.get k hlt
          obtain ⟨b2, o2, e2, d2, rfl, hb2, -, r0, r1, rt⟩ := HS2.out.get k hlt2
          have HQ := hide (show IsTm A wr p.args[k].h (.slice e1 p.args[k].args.length d1) p.args[k] from ⟨rfl, qt.below hB.out⟩)
          have HR := hide (show IsTm B wr t.args[k].h (.slice e2 t.args[k].args.length d2) t.args[k] from ⟨rfl, rt.below hB.out⟩)
          have HSN := hide (show p.args[k].size ≤ n0 ∧ p.args[k].size ≤ 1000000 from by have := HSZ.out; have := HP.out; have := HZ.out; have := Tm.size_get p.args k hlt; omega)
          have HG3 := hide (show oddsT p t = (oddsT p.args[k] t.args[k] || oddsL (p.args.drop (k + 1)) (t.args.drop (k + 1))) from by rw [hG.out, oddsL_drop _ _ _ hlt hlt2])
          have HCL := hide (show ∀ W', Below wr.heap.size wr W' → W'.cell? ⟨w.heap.size, 1, none⟩ = some (.slice (some ⟨b1, o1, none⟩) t.args.length c1) ∧ W'.cell? ⟨w.heap.size + 1, 1, none⟩ = some (.slice (some ⟨b2, o2, none⟩) t.args.length c2) ∧ W'.cell? ⟨b1, o1 + k * 2, none⟩ = some (.int .i64 p.args[k].h) ∧ W'.cell? ⟨b1, o1 + k * 2 + 1, none⟩ = some (.slice e1 p.args[k].args.length d1) ∧ W'.cell? ⟨b2, o2 + k * 2, none⟩ = some (.int .i64 t.args[k].h) ∧ W'.cell? ⟨b2, o2 + k * 2 + 1, none⟩ = some (.slice e2 t.args[k].args.length d2) from fun W' hW => by
            have h9 := hBW.out.size
            have hww := hB.out.trans (hW.mono hB.out.size)
            exact ⟨(hW.cell (p := ⟨w.heap.size, 1, none⟩) (by show w.heap.size < _; omega)).trans y1, (hW.cell (p := ⟨w.heap.size + 1, 1, none⟩) (by show w.heap.size + 1 < _; omega)).trans z1, (hww.cell (p := ⟨b1, o1 + k * 2, none⟩) hb1).trans q0, (hww.cell (p := ⟨b1, o1 + k * 2 + 1, none⟩) hb1).trans q1, (hww.cell (p := ⟨b2, o2 + k * 2, none⟩) hb2).trans r0, (hww.cell (p := ⟨b2, o2 + k * 2 + 1, none⟩) hb2).trans r1⟩)
          clear qt rt q0 q1 r0 r1
          go_wp2
          refine drawn_tree (fun W' => W'.cell? ⟨w.heap.size, 1, none⟩ = some (.slice (some ⟨b1, o1, none⟩) t.args.length c1) ∧ W'.cell? ⟨w.heap.size + 1, 1, none⟩ = some (.slice (some ⟨b2, o2, none⟩) t.args.length c2) ∧ W'.cell? ⟨b1, o1 + k * 2, none⟩ = some (.int .i64 p.args[k].h) ∧ W'.cell? ⟨b1, o1 + k * 2 + 1, none⟩ = some (.slice e1 p.args[k].args.length d1) ∧ W'.cell? ⟨b2, o2 + k * 2, none⟩ = some (.int .i64 t.args[k].h) ∧ W'.cell? ⟨b2, o2 + k * 2 + 1, none⟩ = some (.slice e2 t.args[k].args.length d2)) (.take 0 <| .take 1 <| .take 2 <| .take 3 <| .take 4 <| .take 5 <| .take 6 <| .take 7 <| .take 8 <| .take 9 <| .one 10 <| .done) (by kernel_rfl) (by kernel_rfl) (by kernel_rfl) (by kernel_rfl) (fun _ _ _ _ _ h => h) (HCL.out _ (Below.refl _ _).drew) ?_
          iterate 10 (refine t_take (v := ?_) rfl (by rfl) ?_ ?_; rotate_left; (intro w hS; obtain ⟨hS1, hS2, hS3, hS4, hS5, hS6⟩ := hS; go_simp; try with_reducible rfl); simp only [Act.put, List.setIfInBounds_toArray, List.set_cons_zero, List.set_cons_succ])
          refine t_one rfl (by rfl) ?_
          intro K hK
          go_simp
          have hwd : Below wr.heap.size wr wr.drew := (Below.refl _ _).drew
          refine (HIH.out p.args[k] t.args[k] A B _ _ _ _ wr.drew HSN.out.1 HSN.out.2 ⟨rfl, HQ.out.2.below hwd⟩ ⟨rfl, HR.out.2.below hwd⟩).mono ?_
          rintro e w1 ⟨rfl, h1⟩
          have hB1 : Below wr.heap.size wr w1 := more_below (Below.refl _ _).drew h1
          refine hK.out _ _ (HCL.out _ hB1) ?_
          clear hK K
          skip
          refine t_done ?_
          have HB2 := hide (hB.out.trans (hB1.mono hB.out.size))
          have HB3 := hide (hBW.out.trans (hB1.mono hBW.out.size))
          clear hB1 hB hBW h1 hwd
          cases hfv : oddsT p.args[k] t.args[k] with
          | true =>
            go_wp2
            go_ret
            rw [HG3.out, hfv]
            exact ⟨rfl, HB2.out⟩
          | false =>
            go_wp2
            go_roundw
            case rel => exact ⟨k + 1, by omega, by go_num, hide (by rw [HG3.out, hfv]; rfl), HB2, HB3⟩
            case measure => simp [intOf]; omega
        · obtain rfl : k = t.args.length := by omega
          have HE := hide (show oddsT p t = false by rw [hG.out, ← HLN.out, List.drop_length]; rw [oddsL])
          go_wp2
          go_ret
          rw [HE.out]
          exact ⟨rfl, hB.out⟩
    · have HX := hide (show oddsT p t = true by rw [HG.out, if_neg (by omega), if_pos (by omega)])
      have HX2 := hide hne
      by_cases h1 : p.h = t.h
      · have h2 : ¬ p.args.length = t.args.length := fun h => hne ⟨h1, h⟩
        clear hne
        rw [h1] at HW
        go_wp2
        go_ret
        rw [HX.out]
        exact ⟨rfl, HW.out⟩
      · clear hne
        go_wp2
        go_ret
        rw [HX.out]
        exact ⟨rfl, HW.out⟩
end
open Go.RowKit

def outX (k : Nat) (X : List (Int × Tm)) (u : Tm) : List Int := (X.filter fun p => fitT k u p.2).map Prod.fst
theorem outX_step (k : Nat) (X : List (Int × Tm)) (u : Tm) (j : Nat) (h : j < X.length) : outX k (X.take (j + 1)) u = outX k (X.take j) u ++ (if fitT k u X[j].2 then [X[j].1] else []) := by
  rw [List.take_succ_eq_append_getElem h, outX, List.filter_append, List.map_append]
  by_cases hf : fitT k u X[j].2 = true
  · rw [if_pos hf]; simp [outX, hf]
  · rw [if_neg hf]; simp [outX, hf]
theorem outX_len (k : Nat) (X : List (Int × Tm)) (u : Tm) : (outX k X u).length ≤ X.length := by
  rw [outX, List.length_map]; exact List.length_filter_le _ _
theorem outX_mem {k : Nat} {X : List (Int × Tm)} {u : Tm} {x : Int} : x ∈ outX k X u ↔ ∃ t, (x, t) ∈ X ∧ fitT k u t = true := by
  simp [outX]
theorem outX_nodup {k : Nat} {X : List (Int × Tm)} {u : Tm} (h : (X.map Prod.fst).Nodup) : (outX k X u).Nodup := by
  exact (List.filter_sublist.map Prod.fst).nodup h
def FR (k : Nat) (X : List (Int × Tm)) (u : Tm) (w : World) (e : Ending) (w' : World) : Prop :=
  (rightB u = true → ∃ a c, e = .returned (.tuple #[.slice a (outX k X u).length c, .int .i64 0]) ∧ IntsIn w' a (sortR (outX k X u))) ∧ (rightB u = false → e = .returned (.tuple #[.slice none 0 0, .int .i64 1])) ∧ Below w.heap.size w w'
theorem boxed (w : World) (x' y' : Value) (t : TypeId) : Below w.heap.size w (w.alloc (.cells #[x', y'] t)) ∧ (w.alloc (.cells #[x', y'] t)).heap[w.heap.size]? = some (.cells #[x', y'] t (0, 0)) :=
  ⟨(Below.refl _ _).alloc (Nat.le_refl _) _, World.alloc_heap_new _ _⟩

set_option maxHeartbeats 8000000 in
set_option maxRecDepth 100000 in
theorem r17find0_calls {A : Nat → Prop} {yb : Nat} {X : List (Int × Tm)} {vl vi : Value} {base : Nat} (u : Tm) (B : Nat → Prop) (h : Int) (s : Value) (w : World) (hz : u.size ≤ 1000000) (hX : ∀ p, p ∈ X → p.2.size ≤ 1000000) (hl : X.length ≤ 4096)
    (hx : R17 w A yb (X.map Prod.fst) (X.map Prod.snd) vl vi base) (hs : IsTm B w h s u) :
    Calls Tryd.prog 25 #[.pointer (some ⟨yb, 0, none⟩), .agg #[.int .i64 h, s], .int .i64 0] w (FR 0 X u w) := by
  obtain ⟨rfl, a, c, rfl, hlc, hc⟩ := hs.shape
  have hb0 : Below w.heap.size w (w.alloc (.cells #[.int .i64 u.h, .slice a u.args.length c] 24)) := (Below.refl _ _).alloc (Nat.le_refl _) _
  have HX := hide (hx.below hb0)
  have HS := hide (hs.below hb0)
  have HB := hide hb0
  have HZ := hide hz
  have HXZ := hide hX
  have HBX := hide (World.alloc_heap_new w (.cells #[.int .i64 u.h, .slice a u.args.length c] 24))
  clear hx hs hb0 hz hX
  go_enter Tryd.func25, Tryd.ntmps25
  go_wp2_with fail
  generalize w.alloc (.cells #[.int .i64 u.h, .slice a u.args.length c] 24) = w0 at *
  refine (right_calls u _ _ _ w0 (by have := HZ.out; omega) HS.out).mono ?_
  rintro e w1 ⟨rfl, b1⟩
  have HX1 := hide (HX.out.below b1)
  have HS1 := hide (HS.out.below b1)
  have HB1 := hide (more_below HB.out b1)
  have HBX1 := hide ((b1.block _ (Array.getElem?_eq_some_iff.1 HBX.out).1).trans HBX.out)
  clear b1 HX HS HB HBX
  cases hr : rightB u with
  | false =>
    have HR := hide hr
    clear hr
    go_wp2
    go_ret2
    exact ⟨fun h => (by rw [HR.out] at h; cases h), fun _ => rfl, HB1.out⟩
  | true =>
    have HR := hide hr
    clear hr
    have hbw := (Array.getElem?_eq_some_iff.1 HBX1.out).1
    obtain ⟨ia, ic, hvi, hin⟩ := ints_of_row HX1.out.i
    obtain ⟨ac, cc, hvl, hrow⟩ := HX1.out.row
    rw [List.length_map] at hvi hvl
    have HIN := hide hin
    have HLI := hide hrow
    obtain ⟨hyb, q0, q1, -, -⟩ := box2 HX1.out.x
    subst hvi hvl
    clear hin hrow
    go_wp2
    go_loopw [8, 9] (fun v i wr => ∃ j : Nat, j ≤ X.length ∧ i = .int .i64 j ∧ Hid (Below w1.heap.size w1 wr) ∧ Hid (wr.ownsRow w1.heap.size 3 1 v (outX 0 (X.take j) u).length ((outX 0 (X.take j) u).map (Value.int .i64)))) (fun _ i _ => X.length - (intOf i).toNat)
    case atStart => exact ⟨0, by omega, rfl, hide (Below.refl _ _), hide (World.ownsRow_nil _ _ _ _)⟩
    case round =>
      obtain ⟨j, hj, rfl, hB, hO⟩ := hrel
      have XW := hide ((hB.out.block yb hyb).trans HX1.out.x)
      obtain ⟨-, p0, p1, -, -⟩ := box2 XW.out
      by_cases hlt : j < X.length
      · have hst := outX_step 0 X u j hlt
        have hmem := List.getElem_mem hlt
        obtain ⟨bi, oi, hai, y0⟩ := HIN.out.2 j (by rw [List.length_map]; exact hlt)
        obtain ⟨bc, sc, hac, y1, y2, y3⟩ := HLI.out j (by rw [List.length_map]; exact hlt)
        subst hai hac
        simp only [List.getElem_map] at y0 y1 y2 y3
        generalize X[j] = xj at hst hmem y0 y1 y2 y3
        obtain ⟨id, t⟩ := xj
        simp only at hst y0 y1 y2 y3
        obtain ⟨al, cl, rfl, -, -⟩ := y3.shape
        have HTZ := hide (HXZ.out _ hmem)
        have hbi := World.block_lt_of_cell? w1 ⟨bi, oi + j, none⟩ y0
        have hbc := World.block_lt_of_cell? w1 ⟨bc, j * 2, none⟩ y1
        have Y0 := (hB.out.cell (p := ⟨bi, oi + j, none⟩) hbi).trans y0
        have Y1 := (hB.out.cell (p := ⟨bc, j * 2, none⟩) hbc).trans y1
        have Y2 := (hB.out.cell (p := ⟨bc, j * 2 + 1, none⟩) hbc).trans y2
        have K0 := (hB.out.block _ hbw).trans HBX1.out
        have HOL := hide (Nat.le_trans (outX_len 0 (X.take j) u) (by rw [List.length_take]; omega : (X.take j).length ≤ j))
        have HT3 := hide y3
        have HST := hide hst
        have HBN := hide (boxed wr (.int .i64 t.h) (.slice al t.args.length cl) 24)
        obtain ⟨-, k0, k1, -, -⟩ := box2 ((HBN.out.1.block _ (Array.getElem?_eq_some_iff.1 K0).1).trans K0)
        clear y0 y1 y2 y3 hst hmem K0
        go_wp2_with fail
        generalize wr.alloc (.cells #[.int .i64 t.h, .slice al t.args.length cl] 24) = w4 at *
        have HB4 := hide (hB.out.trans (HBN.out.1.mono hB.out.size))
        refine (form_calls _ t u (fun b => A b ∨ RZ7 yb _ _ b) B _ _ _ _ w4 (Nat.le_refl _) HTZ.out ⟨rfl, HT3.out.below HB4.out⟩ ⟨rfl, HS1.out.2.below HB4.out⟩).mono ?_
        rintro e w5 ⟨rfl, h5⟩
        have HB5 := hide (HB4.out.trans (h5.mono HB4.out.size))
        have HW5 := hide (more_below HBN.out.1 h5)
        have hbx5 := (h5.block _ (Array.getElem?_eq_some_iff.1 HBN.out.2).1).trans HBN.out.2
        obtain ⟨-, z0, z1, -, -⟩ := box2 hbx5
        have XW5 := hide ((HB5.out.block yb hyb).trans HX1.out.x)
        obtain ⟨-, p50, p51, -, -⟩ := box2 XW5.out
        have Y50 := (HW5.out.cell (p := ⟨bi, oi + j, none⟩) (World.block_lt_of_cell? _ _ Y0)).trans Y0
        have HO5 := hide (ownsRow_keep hO.out (Keep.of_below HW5.out) fun b hb => (hO.out.lt b hb).2)
        have HFE := hide (show fitT 0 u t = formT t u from rfl)
        clear h5 hbx5
        cases hfv : formT t u with
        | false =>
          have HN := hide (show outX 0 (X.take (j + 1)) u = outX 0 (X.take j) u by rw [HST.out, HFE.out, hfv]; simp)
          go_wp2
          go_roundw
          case rel => exact ⟨j + 1, by omega, by go_num, HB5, hide (by rw [HN.out]; exact HO5.out)⟩
          case measure => simp [intOf]; omega
        | true =>
          have HN := hide (show outX 0 (X.take (j + 1)) u = outX 0 (X.take j) u ++ [id] by rw [HST.out, HFE.out, hfv]; simp)
          have hk9 : ((outX 0 (X.take j) u).length + 1) * 8 ≤ 140737488355328 := by have := HOL.out; omega
          have HSW := hide HB5.out.size
          go_wp2_with (at_builtin; refine app_pl rfl _ _ 34 rfl w1.heap.size 3 (.int .i64 0) 1 8 Tryd.underlying34 (by kernel_rfl) rfl (by decide) (by decide) u8 (outX 0 (X.take j) u).length _ rfl HO5.out 1 1 _ rfl (by simp [Value.oneCell']) rfl hk9 HSW.out ?_; intro v6' w6 r1 r2 r3 r4; obtain ⟨i6, c6, rfl⟩ := r4)
          go_roundw
          case rel =>
            refine ⟨j + 1, by omega, by go_num, hide (HB5.out.trans (r2.below (fun b hb h => by have := (HO5.out.lt b h).1; omega) HSW.out)), hide ?_⟩
            rw [HN.out, List.length_append, List.map_append]
            exact r1
          case measure => simp [intOf]; omega
      · obtain rfl : j = X.length := by omega
        have hO' := hO.out
        rw [List.take_length] at hO'
        obtain ⟨a9, c9, hv9, hin9⟩ := ints_of_row hO'
        subst hv9
        have HOL := hide (outX_len 0 X u)
        have HIN9 := hide hin9
        clear hin9 hO' hO
        go_wp2_with fail
        refine (rsorted_calls (outX 0 X u) a9 c9 wr (by have := HOL.out; omega) HIN9.out).mono ?_
        rintro e w9 ⟨a10, c10, rfl, h9, b9⟩
        go_wp2
        go_ret2
        exact ⟨fun _ => ⟨a10, c10, rfl, h9⟩, fun h => (by rw [HR.out] at h; cases h), HB1.out.trans ((hB.out.mono HB1.out.size).trans (b9.mono (Nat.le_trans HB1.out.size hB.out.size)))⟩

set_option maxHeartbeats 8000000 in
set_option maxRecDepth 100000 in
theorem r17find1_calls {A : Nat → Prop} {yb : Nat} {X : List (Int × Tm)} {vl vi : Value} {base : Nat} (u : Tm) (B : Nat → Prop) (h : Int) (s : Value) (w : World) (hz : u.size ≤ 1000000) (hX : ∀ p, p ∈ X → p.2.size ≤ 1000000) (hl : X.length ≤ 4096)
    (hx : R17 w A yb (X.map Prod.fst) (X.map Prod.snd) vl vi base) (hs : IsTm B w h s u) :
    Calls Tryd.prog 25 #[.pointer (some ⟨yb, 0, none⟩), .agg #[.int .i64 h, s], .int .i64 1] w (FR 1 X u w) := by
  obtain ⟨rfl, a, c, rfl, hlc, hc⟩ := hs.shape
  have hb0 : Below w.heap.size w (w.alloc (.cells #[.int .i64 u.h, .slice a u.args.length c] 24)) := (Below.refl _ _).alloc (Nat.le_refl _) _
  have HX := hide (hx.below hb0)
  have HS := hide (hs.below hb0)
  have HB := hide hb0
  have HZ := hide hz
  have HXZ := hide hX
  have HBX := hide (World.alloc_heap_new w (.cells #[.int .i64 u.h, .slice a u.args.length c] 24))
  clear hx hs hb0 hz hX
  go_enter Tryd.func25, Tryd.ntmps25
  go_wp2_with fail
  generalize w.alloc (.cells #[.int .i64 u.h, .slice a u.args.length c] 24) = w0 at *
  refine (right_calls u _ _ _ w0 (by have := HZ.out; omega) HS.out).mono ?_
  rintro e w1 ⟨rfl, b1⟩
  have HX1 := hide (HX.out.below b1)
  have HS1 := hide (HS.out.below b1)
  have HB1 := hide (more_below HB.out b1)
  have HBX1 := hide ((b1.block _ (Array.getElem?_eq_some_iff.1 HBX.out).1).trans HBX.out)
  clear b1 HX HS HB HBX
  cases hr : rightB u with
  | false =>
    have HR := hide hr
    clear hr
    go_wp2
    go_ret2
    exact ⟨fun h => (by rw [HR.out] at h; cases h), fun _ => rfl, HB1.out⟩
  | true =>
    have HR := hide hr
    clear hr
    have hbw := (Array.getElem?_eq_some_iff.1 HBX1.out).1
    obtain ⟨ia, ic, hvi, hin⟩ := ints_of_row HX1.out.i
    obtain ⟨ac, cc, hvl, hrow⟩ := HX1.out.row
    rw [List.length_map] at hvi hvl
    have HIN := hide hin
    have HLI := hide hrow
    obtain ⟨hyb, q0, q1, -, -⟩ := box2 HX1.out.x
    subst hvi hvl
    clear hin hrow
    go_wp2
    go_loopw [8, 9] (fun v i wr => ∃ j : Nat, j ≤ X.length ∧ i = .int .i64 j ∧ Hid (Below w1.heap.size w1 wr) ∧ Hid (wr.ownsRow w1.heap.size 3 1 v (outX 1 (X.take j) u).length ((outX 1 (X.take j) u).map (Value.int .i64)))) (fun _ i _ => X.length - (intOf i).toNat)
    case atStart => exact ⟨0, by omega, rfl, hide (Below.refl _ _), hide (World.ownsRow_nil _ _ _ _)⟩
    case round =>
      obtain ⟨j, hj, rfl, hB, hO⟩ := hrel
      have XW := hide ((hB.out.block yb hyb).trans HX1.out.x)
      obtain ⟨-, p0, p1, -, -⟩ := box2 XW.out
      by_cases hlt : j < X.length
      · have hst := outX_step 1 X u j hlt
        have hmem := List.getElem_mem hlt
        obtain ⟨bi, oi, hai, y0⟩ := HIN.out.2 j (by rw [List.length_map]; exact hlt)
        obtain ⟨bc, sc, hac, y1, y2, y3⟩ := HLI.out j (by rw [List.length_map]; exact hlt)
        subst hai hac
        simp only [List.getElem_map] at y0 y1 y2 y3
        generalize X[j] = xj at hst hmem y0 y1 y2 y3
        obtain ⟨id, t⟩ := xj
        simp only at hst y0 y1 y2 y3
        obtain ⟨al, cl, rfl, -, -⟩ := y3.shape
        have HTZ := hide (HXZ.out _ hmem)
        have hbi := World.block_lt_of_cell? w1 ⟨bi, oi + j, none⟩ y0
        have hbc := World.block_lt_of_cell? w1 ⟨bc, j * 2, none⟩ y1
        have Y0 := (hB.out.cell (p := ⟨bi, oi + j, none⟩) hbi).trans y0
        have Y1 := (hB.out.cell (p := ⟨bc, j * 2, none⟩) hbc).trans y1
        have Y2 := (hB.out.cell (p := ⟨bc, j * 2 + 1, none⟩) hbc).trans y2
        have K0 := (hB.out.block _ hbw).trans HBX1.out
        have HOL := hide (Nat.le_trans (outX_len 1 (X.take j) u) (by rw [List.length_take]; omega : (X.take j).length ≤ j))
        have HT3 := hide y3
        have HST := hide hst
        have HBN := hide (boxed wr (.int .i64 t.h) (.slice al t.args.length cl) 24)
        obtain ⟨-, k0, k1, -, -⟩ := box2 ((HBN.out.1.block _ (Array.getElem?_eq_some_iff.1 K0).1).trans K0)
        clear y0 y1 y2 y3 hst hmem K0
        go_wp2_with fail
        generalize wr.alloc (.cells #[.int .i64 t.h, .slice al t.args.length cl] 24) = w4 at *
        have HB4 := hide (hB.out.trans (HBN.out.1.mono hB.out.size))
        refine (form_calls _ u t B (fun b => A b ∨ RZ7 yb _ _ b) _ _ _ _ w4 (Nat.le_refl _) HZ.out ⟨rfl, HS1.out.2.below HB4.out⟩ ⟨rfl, HT3.out.below HB4.out⟩).mono ?_
        rintro e w5 ⟨rfl, h5⟩
        have HB5 := hide (HB4.out.trans (h5.mono HB4.out.size))
        have HW5 := hide (more_below HBN.out.1 h5)
        have hbx5 := (h5.block _ (Array.getElem?_eq_some_iff.1 HBN.out.2).1).trans HBN.out.2
        obtain ⟨-, z0, z1, -, -⟩ := box2 hbx5
        have XW5 := hide ((HB5.out.block yb hyb).trans HX1.out.x)
        obtain ⟨-, p50, p51, -, -⟩ := box2 XW5.out
        have Y50 := (HW5.out.cell (p := ⟨bi, oi + j, none⟩) (World.block_lt_of_cell? _ _ Y0)).trans Y0
        have HO5 := hide (ownsRow_keep hO.out (Keep.of_below HW5.out) fun b hb => (hO.out.lt b hb).2)
        have HFE := hide (show fitT 1 u t = formT u t from rfl)
        clear h5 hbx5
        cases hfv : formT u t with
        | false =>
          have HN := hide (show outX 1 (X.take (j + 1)) u = outX 1 (X.take j) u by rw [HST.out, HFE.out, hfv]; simp)
          go_wp2
          go_roundw
          case rel => exact ⟨j + 1, by omega, by go_num, HB5, hide (by rw [HN.out]; exact HO5.out)⟩
          case measure => simp [intOf]; omega
        | true =>
          have HN := hide (show outX 1 (X.take (j + 1)) u = outX 1 (X.take j) u ++ [id] by rw [HST.out, HFE.out, hfv]; simp)
          have hk9 : ((outX 1 (X.take j) u).length + 1) * 8 ≤ 140737488355328 := by have := HOL.out; omega
          have HSW := hide HB5.out.size
          go_wp2_with (at_builtin; refine app_pl rfl _ _ 34 rfl w1.heap.size 3 (.int .i64 0) 1 8 Tryd.underlying34 (by kernel_rfl) rfl (by decide) (by decide) u8 (outX 1 (X.take j) u).length _ rfl HO5.out 1 1 _ rfl (by simp [Value.oneCell']) rfl hk9 HSW.out ?_; intro v6' w6 r1 r2 r3 r4; obtain ⟨i6, c6, rfl⟩ := r4)
          go_roundw
          case rel =>
            refine ⟨j + 1, by omega, by go_num, hide (HB5.out.trans (r2.below (fun b hb h => by have := (HO5.out.lt b h).1; omega) HSW.out)), hide ?_⟩
            rw [HN.out, List.length_append, List.map_append]
            exact r1
          case measure => simp [intOf]; omega
      · obtain rfl : j = X.length := by omega
        have hO' := hO.out
        rw [List.take_length] at hO'
        obtain ⟨a9, c9, hv9, hin9⟩ := ints_of_row hO'
        subst hv9
        have HOL := hide (outX_len 1 X u)
        have HIN9 := hide hin9
        clear hin9 hO' hO
        go_wp2_with fail
        refine (rsorted_calls (outX 1 X u) a9 c9 wr (by have := HOL.out; omega) HIN9.out).mono ?_
        rintro e w9 ⟨a10, c10, rfl, h9, b9⟩
        go_wp2
        go_ret2
        exact ⟨fun _ => ⟨a10, c10, rfl, h9⟩, fun h => (by rw [HR.out] at h; cases h), HB1.out.trans ((hB.out.mono HB1.out.size).trans (b9.mono (Nat.le_trans HB1.out.size hB.out.size)))⟩

set_option maxHeartbeats 8000000 in
set_option maxRecDepth 100000 in
theorem r17find2_calls {A : Nat → Prop} {yb : Nat} {X : List (Int × Tm)} {vl vi : Value} {base : Nat} (u : Tm) (B : Nat → Prop) (h : Int) (s : Value) (w : World) (hz : u.size ≤ 1000000) (hX : ∀ p, p ∈ X → p.2.size ≤ 1000000) (hl : X.length ≤ 4096)
    (hx : R17 w A yb (X.map Prod.fst) (X.map Prod.snd) vl vi base) (hs : IsTm B w h s u) :
    Calls Tryd.prog 25 #[.pointer (some ⟨yb, 0, none⟩), .agg #[.int .i64 h, s], .int .i64 2] w (FR 2 X u w) := by
  obtain ⟨rfl, a, c, rfl, hlc, hc⟩ := hs.shape
  have hb0 : Below w.heap.size w (w.alloc (.cells #[.int .i64 u.h, .slice a u.args.length c] 24)) := (Below.refl _ _).alloc (Nat.le_refl _) _
  have HX := hide (hx.below hb0)
  have HS := hide (hs.below hb0)
  have HB := hide hb0
  have HZ := hide hz
  have HXZ := hide hX
  have HBX := hide (World.alloc_heap_new w (.cells #[.int .i64 u.h, .slice a u.args.length c] 24))
  clear hx hs hb0 hz hX
  go_enter Tryd.func25, Tryd.ntmps25
  go_wp2_with fail
  generalize w.alloc (.cells #[.int .i64 u.h, .slice a u.args.length c] 24) = w0 at *
  refine (right_calls u _ _ _ w0 (by have := HZ.out; omega) HS.out).mono ?_
  rintro e w1 ⟨rfl, b1⟩
  have HX1 := hide (HX.out.below b1)
  have HS1 := hide (HS.out.below b1)
  have HB1 := hide (more_below HB.out b1)
  have HBX1 := hide ((b1.block _ (Array.getElem?_eq_some_iff.1 HBX.out).1).trans HBX.out)
  clear b1 HX HS HB HBX
  cases hr : rightB u with
  | false =>
    have HR := hide hr
    clear hr
    go_wp2
    go_ret2
    exact ⟨fun h => (by rw [HR.out] at h; cases h), fun _ => rfl, HB1.out⟩
  | true =>
    have HR := hide hr
    clear hr
    have hbw := (Array.getElem?_eq_some_iff.1 HBX1.out).1
    obtain ⟨ia, ic, hvi, hin⟩ := ints_of_row HX1.out.i
    obtain ⟨ac, cc, hvl, hrow⟩ := HX1.out.row
    rw [List.length_map] at hvi hvl
    have HIN := hide hin
    have HLI := hide hrow
    obtain ⟨hyb, q0, q1, -, -⟩ := box2 HX1.out.x
    subst hvi hvl
    clear hin hrow
    go_wp2
    go_loopw [8, 9] (fun v i wr => ∃ j : Nat, j ≤ X.length ∧ i = .int .i64 j ∧ Hid (Below w1.heap.size w1 wr) ∧ Hid (wr.ownsRow w1.heap.size 3 1 v (outX 2 (X.take j) u).length ((outX 2 (X.take j) u).map (Value.int .i64)))) (fun _ i _ => X.length - (intOf i).toNat)
    case atStart => exact ⟨0, by omega, rfl, hide (Below.refl _ _), hide (World.ownsRow_nil _ _ _ _)⟩
    case round =>
      obtain ⟨j, hj, rfl, hB, hO⟩ := hrel
      have XW := hide ((hB.out.block yb hyb).trans HX1.out.x)
      obtain ⟨-, p0, p1, -, -⟩ := box2 XW.out
      by_cases hlt : j < X.length
      · have hst := outX_step 2 X u j hlt
        have hmem := List.getElem_mem hlt
        obtain ⟨bi, oi, hai, y0⟩ := HIN.out.2 j (by rw [List.length_map]; exact hlt)
        obtain ⟨bc, sc, hac, y1, y2, y3⟩ := HLI.out j (by rw [List.length_map]; exact hlt)
        subst hai hac
        simp only [List.getElem_map] at y0 y1 y2 y3
        generalize X[j] = xj at hst hmem y0 y1 y2 y3
        obtain ⟨id, t⟩ := xj
        simp only at hst y0 y1 y2 y3
        obtain ⟨al, cl, rfl, -, -⟩ := y3.shape
        have HTZ := hide (HXZ.out _ hmem)
        have hbi := World.block_lt_of_cell? w1 ⟨bi, oi + j, none⟩ y0
        have hbc := World.block_lt_of_cell? w1 ⟨bc, j * 2, none⟩ y1
        have Y0 := (hB.out.cell (p := ⟨bi, oi + j, none⟩) hbi).trans y0
        have Y1 := (hB.out.cell (p := ⟨bc, j * 2, none⟩) hbc).trans y1
        have Y2 := (hB.out.cell (p := ⟨bc, j * 2 + 1, none⟩) hbc).trans y2
        have K0 := (hB.out.block _ hbw).trans HBX1.out
        have HOL := hide (Nat.le_trans (outX_len 2 (X.take j) u) (by rw [List.length_take]; omega : (X.take j).length ≤ j))
        have HT3 := hide y3
        have HST := hide hst
        have HBN := hide (boxed wr (.int .i64 t.h) (.slice al t.args.length cl) 24)
        obtain ⟨-, k0, k1, -, -⟩ := box2 ((HBN.out.1.block _ (Array.getElem?_eq_some_iff.1 K0).1).trans K0)
        clear y0 y1 y2 y3 hst hmem K0
        go_wp2_with fail
        generalize wr.alloc (.cells #[.int .i64 t.h, .slice al t.args.length cl] 24) = w4 at *
        have HB4 := hide (hB.out.trans (HBN.out.1.mono hB.out.size))
        refine (odds_calls _ t u (fun b => A b ∨ RZ7 yb _ _ b) B _ _ _ _ w4 (Nat.le_refl _) HTZ.out ⟨rfl, HT3.out.below HB4.out⟩ ⟨rfl, HS1.out.2.below HB4.out⟩).mono ?_
        rintro e w5 ⟨rfl, h5⟩
        have HB5 := hide (HB4.out.trans (h5.mono HB4.out.size))
        have HW5 := hide (more_below HBN.out.1 h5)
        have hbx5 := (h5.block _ (Array.getElem?_eq_some_iff.1 HBN.out.2).1).trans HBN.out.2
        obtain ⟨-, z0, z1, -, -⟩ := box2 hbx5
        have XW5 := hide ((HB5.out.block yb hyb).trans HX1.out.x)
        obtain ⟨-, p50, p51, -, -⟩ := box2 XW5.out
        have Y50 := (HW5.out.cell (p := ⟨bi, oi + j, none⟩) (World.block_lt_of_cell? _ _ Y0)).trans Y0
        have HO5 := hide (ownsRow_keep hO.out (Keep.of_below HW5.out) fun b hb => (hO.out.lt b hb).2)
        have HFE := hide (show fitT 2 u t = !oddsT t u from rfl)
        clear h5 hbx5
        cases hfv : oddsT t u with
        | true =>
          have HN := hide (show outX 2 (X.take (j + 1)) u = outX 2 (X.take j) u by rw [HST.out, HFE.out, hfv]; simp)
          go_wp2
          go_roundw
          case rel => exact ⟨j + 1, by omega, by go_num, HB5, hide (by rw [HN.out]; exact HO5.out)⟩
          case measure => simp [intOf]; omega
        | false =>
          have HN := hide (show outX 2 (X.take (j + 1)) u = outX 2 (X.take j) u ++ [id] by rw [HST.out, HFE.out, hfv]; simp)
          have hk9 : ((outX 2 (X.take j) u).length + 1) * 8 ≤ 140737488355328 := by have := HOL.out; omega
          have HSW := hide HB5.out.size
          go_wp2_with (at_builtin; refine app_pl rfl _ _ 34 rfl w1.heap.size 3 (.int .i64 0) 1 8 Tryd.underlying34 (by kernel_rfl) rfl (by decide) (by decide) u8 (outX 2 (X.take j) u).length _ rfl HO5.out 1 1 _ rfl (by simp [Value.oneCell']) rfl hk9 HSW.out ?_; intro v6' w6 r1 r2 r3 r4; obtain ⟨i6, c6, rfl⟩ := r4)
          go_roundw
          case rel =>
            refine ⟨j + 1, by omega, by go_num, hide (HB5.out.trans (r2.below (fun b hb h => by have := (HO5.out.lt b h).1; omega) HSW.out)), hide ?_⟩
            rw [HN.out, List.length_append, List.map_append]
            exact r1
          case measure => simp [intOf]; omega
      · obtain rfl : j = X.length := by omega
        have hO' := hO.out
        rw [List.take_length] at hO'
        obtain ⟨a9, c9, hv9, hin9⟩ := ints_of_row hO'
        subst hv9
        have HOL := hide (outX_len 2 X u)
        have HIN9 := hide hin9
        clear hin9 hO' hO
        go_wp2_with fail
        refine (rsorted_calls (outX 2 X u) a9 c9 wr (by have := HOL.out; omega) HIN9.out).mono ?_
        rintro e w9 ⟨a10, c10, rfl, h9, b9⟩
        go_wp2
        go_ret2
        exact ⟨fun _ => ⟨a10, c10, rfl, h9⟩, fun h => (by rw [HR.out] at h; cases h), HB1.out.trans ((hB.out.mono HB1.out.size).trans (b9.mono (Nat.le_trans HB1.out.size hB.out.size)))⟩
end Go.Proofs.YtneecjikdghchaaDoor
