/- PathDoes, walked. -/
import Derived.Test.YtneecjikdghchaaDoorFew5P
import Derived.Test.YtneecjikdghchaaDoorReadX
import Derived.Test.YtneecjikdghchaaDoorR17c
import Derived.Test.YtneecjikdghchaaDoorPDropsP
import Derived.Test.YtneecjikdghchaaDoorR17f
set_option linter.unusedSimpArgs false
set_option linter.unusedVariables false
namespace Go.Proofs.YtneecjikdghchaaDoor
section
open Go.RowKit

def fewP (sp : List Bs) : Bool := decide (sp.length ≤ 30) && fewS (sp.map (·.t))
set_option maxHeartbeats 8000000 in
set_option maxRecDepth 100000 in
theorem pfew_calls (sp : List Bs) (s : Value) (w : World) (hs : Steps (fun _ => False) w s sp) : Calls Tryd.prog 21 #[s] w fun e w' => e = .returned (.bool (fewP sp)) ∧ Below w.heap.size w w' := by
  obtain ⟨a, c, rfl, hlc, hlm⟩ := hs.shape
  have HS := hide hs
  clear hs
  by_cases h30 : sp.length ≤ 30
  rotate_left
  · have HE := hide (show fewP sp = false by rw [fewP, decide_eq_false h30]; rfl)
    have hd : decide ((sp.length : Int) ≤ 30) = false := by simp; omega
    have h0 : 0 < sp.length := by omega
    clear h30
    go_enter Tryd.func21, Tryd.ntmps21
    go_wp2
    go_loopw [3, 4] (fun q i wr => i = .int .i64 0 ∧ q = .slice none 0 0 ∧ wr = w) (fun _ i _ => 0)
    case atStart => exact ⟨rfl, rfl, rfl⟩
    case round =>
      obtain ⟨rfl, rfl, rfl⟩ := hrel
      go_wp2
      go_ret
      rw [HE.out]
      exact ⟨rfl, Below.refl _ _⟩
  have HE := hide (show fewP sp = fewS (sp.map (·.t)) by rw [fewP, decide_eq_true h30]; rfl)
  have hd : decide ((sp.length : Int) ≤ 30) = true := by simp; omega
  go_enter Tryd.func21, Tryd.ntmps21
  go_wp2
  go_loopw [3, 4] (fun v i wr => ∃ k : Nat, k ≤ sp.length ∧ i = .int .i64 k ∧ Hid (Below w.heap.size w wr) ∧ Hid (OwnD (fun _ => False) wr w.heap.size 24 2 v (((sp.take k).map (·.t)).map Tm.d))) (fun _ i _ => sp.length - (intOf i).toNat)
  case atStart => exact ⟨0, by omega, rfl, hide (Below.refl _ _), hide (OwnD.nil _ _ _ _ _)⟩
  case round =>
    obtain ⟨k, hk, rfl, hB, hO⟩ := hrel
    by_cases hlt : k < sp.length
    · obtain ⟨b, off, a1, c1, rfl, hb, g0, g1, g2, g3, gt⟩ := HS.out.get k hlt
      have G2 := (hB.out.cell (p := ⟨b, off + k * 4 + 2, none⟩) hb).trans g2
      have G3 := (hB.out.cell (p := ⟨b, off + k * 4 + 3, none⟩) hb).trans g3
      have HGT := hide gt
      have HTK := hide (show ((sp.take (k + 1)).map (·.t)).map Tm.d = ((sp.take k).map (·.t)).map Tm.d ++ [(sp[k]).t.d] by rw [List.take_succ_eq_append_getElem hlt, List.map_append, List.map_append]; rfl)
      have HSZ := hide hB.out.size
      have HLK := hide (show (((sp.take k).map (·.t)).map Tm.d).length = k by rw [List.length_map, List.length_map, List.length_take]; omega)
      have HK8 := hide (show ((((sp.take k).map (·.t)).map Tm.d).length + 1) * 32 ≤ 140737488355328 by rw [List.length_map, List.length_map, List.length_take]; omega)
      obtain ⟨css, q1, q2, q3⟩ := hO.out
      have Q1 := hide q1
      have Q2 := hide q2
      have Q3 := hide q3
      clear g0 g1 g2 g3 gt q1 q2 q3 hO
      go_wp2_with (at_builtin; refine app_pl rfl _ _ 22 rfl w.heap.size 24 (.agg #[.int .i64 0, .slice none 0 0]) 2 32 Tryd.underlying22 (by kernel_rfl) rfl (by decide) (by decide) u3 (((sp.take k).map (·.t)).map Tm.d).length _ rfl Q1.out 1 1 _ rfl (by simp [Value.oneCell']) rfl (by have := HK8.out; omega) HSZ.out ?_; intro v' w5 t1 t2 t3 t4; rw [HLK.out] at t4; obtain ⟨ca, cc2, rfl⟩ := t4)
      generalize hv : Value.slice ca (k + 1) cc2 = v' at *
      have l7 := Q1.out.lt
      have B5 : Below w.heap.size w w5 := hB.out.trans (t2.below (fun b hb h => by have := (l7 b h).1; omega) HSZ.out)
      have H7 : OwnD (fun _ => False) w5 w.heap.size 24 2 v' (((sp.take k).map (·.t)).map Tm.d ++ [(sp[k]).t.d]) :=
        OwnD.snoc1 Q1.out Q2.out Q3.out rfl
          ((RepD.bar (B := fun b => False ∨ u3.ownBlock = some b) (repTm.2 ⟨_, rfl, HGT.out⟩) fun b hlt hb => by
            rcases hb with hb | hb
            · exact hb
            · have := (l7 b hb).1; omega).frame (fun b hb hlt => hB.out.block b (by
              rcases Nat.lt_or_ge b w.heap.size with h | h
              · exact h
              · omega)) (fun _ _ h => h)) t1 t2 t3
      go_roundw
      case rel => exact ⟨k + 1, by omega, by go_num, hide B5, hide (by rw [HTK.out]; exact H7)⟩
      case measure => simp [intOf]; omega
    · obtain rfl : k = sp.length := by omega
      have hO' := hO.out
      rw [List.take_length] at hO'
      have hT : Terms (fun _ => False) wr u3 (sp.map (·.t)) := by
        have := hO'.rep fun _ h => h.elim
        rw [Terms, Tm.ds_eq]; exact this
      obtain ⟨ta, tc, hv, -, -⟩ := hT.shape
      rw [List.length_map] at hv
      subst hv
      have HT := hide hT
      clear hT hO' hO
      go_wp2_with fail
      refine (few5_calls (sp.map (·.t)) _ _ wr HT.out).mono ?_
      rintro e w1 ⟨rfl, b1⟩
      have HB1 := hide (more_below hB.out b1)
      go_wp2
      go_ret
      rw [HE.out]
      exact ⟨rfl, HB1.out⟩
end
section
open Go.RowKit

/-! ### Purely -/
theorem atG_spec (id : Int) : ∀ (l : List Int) (k : Int), (id ∉ l ∧ atG id l k = -1) ∨ ∃ j, ∃ h : j < l.length, l[j] = id ∧ atG id l k = k + j
  | [], k => .inl ⟨by simp, rfl⟩
  | y :: r, k => by
    rw [atG]
    by_cases hy : y = id
    · rw [if_pos hy]
      exact .inr ⟨0, by simp, by simpa using hy, by simp⟩
    · rw [if_neg hy]
      rcases atG_spec id r (k + 1) with ⟨h1, h2⟩ | ⟨j, h, h1, h2⟩
      · exact .inl ⟨by simp only [List.mem_cons, not_or]; exact ⟨fun e => hy e.symm, h1⟩, h2⟩
      · exact .inr ⟨j + 1, by simp only [List.length_cons]; omega, by simpa using h1, by rw [h2]; omega⟩
theorem atI_spec (ids : List Int) (id : Int) : (id ∉ ids ∧ atI ids id = -1) ∨ ∃ j : Nat, ∃ h : j < ids.length, ids[j] = id ∧ atI ids id = j := by
  have := atG_spec id ids 0
  simpa [atI] using this
theorem atI_mem (ids : List Int) (id : Int) : 0 ≤ atI ids id ↔ id ∈ ids := by
  rcases atI_spec ids id with ⟨h1, h2⟩ | ⟨j, h, h1, h2⟩
  · exact ⟨fun h => by omega, fun h => absurd h h1⟩
  · exact ⟨fun _ => h1 ▸ List.getElem_mem h, fun _ => by omega⟩
theorem map_erase {α β : Type} (f : α → β) : ∀ (l : List α) (k : Nat), (l.map f).eraseIdx k = (l.eraseIdx k).map f
  | [], _ => by simp
  | x :: l, 0 => by simp
  | x :: l, k + 1 => by simp [map_erase f l k]
theorem cut_at {id : Int} : ∀ (X : List (Int × Tm)) (j : Nat) (h : j < X.length), (X.map Prod.fst).Nodup → X[j].1 = id → cutX X id = X.eraseIdx j
  | [], j, h, _, _ => by simp at h
  | x :: X, 0, h, hn, he => by
    simp only [List.getElem_cons_zero] at he
    simp only [List.map_cons, List.nodup_cons] at hn
    rw [cutX, List.filter_cons, if_neg (by simp [he]), List.eraseIdx_cons_zero]
    refine List.filter_eq_self.2 fun q hq => ?_
    simp only [decide_eq_true_eq]
    rintro rfl
    exact hn.1 (by rw [he]; exact List.mem_map.2 ⟨q, hq, rfl⟩)
  | x :: X, j + 1, h, hn, he => by
    simp only [List.getElem_cons_succ] at he
    simp only [List.map_cons, List.nodup_cons] at hn
    have hx : x.1 ≠ id := fun e => hn.1 (by rw [e, ← he]; exact List.mem_map.2 ⟨_, List.getElem_mem _, rfl⟩)
    rw [cutX, List.filter_cons, if_pos (by simpa using hx), List.eraseIdx_cons_succ]
    congr 1
    exact cut_at X j (by simpa using h) hn.2 he
theorem rp_put (X : List (Int × Tm)) (id : Int) (t : Tm) : rp17 (X.map Prod.fst) (X.map Prod.snd) id t = ((pputX X id t).1.map Prod.fst, (pputX X id t).1.map Prod.snd, (pputX X id t).2) := by
  have hc : (rightB t = false ∨ 0 ≤ atI (X.map Prod.fst) id) ↔ (id ∈ X.map (·.1) ∨ chk t ≠ 0) := by
    rw [atI_mem, rightB]
    constructor
    · rintro (h | h)
      · exact .inr (by simpa using h)
      · exact .inl h
    · rintro (h | h)
      · exact .inr h
      · exact .inl (by simpa using h)
  rw [rp17, pputX]
  by_cases h1 : id ∈ X.map (·.1) ∨ chk t ≠ 0
  · rw [if_pos h1, if_pos (hc.2 h1)]
  · rw [if_neg h1, if_neg (fun h => h1 (hc.1 h)), List.length_map]
    by_cases h2 : 4096 ≤ X.length
    · rw [if_pos h2, if_pos h2]
    · rw [if_neg h2, if_neg h2]; simp
theorem rd_drop (X : List (Int × Tm)) (id : Int) (hn : (X.map Prod.fst).Nodup) : rd17 (X.map Prod.fst) (X.map Prod.snd) id = ((pdropX X id).1.map Prod.fst, (pdropX X id).1.map Prod.snd, (pdropX X id).2) := by
  rw [rd17, pdropX]
  rcases atI_spec (X.map Prod.fst) id with ⟨h1, h2⟩ | ⟨j, h, h1, h2⟩
  · rw [if_neg (by omega), if_neg h1]
  · have hm : id ∈ X.map (·.1) := h1 ▸ List.getElem_mem h
    rw [if_pos (by omega), if_pos hm, h2, Int.toNat_natCast, map_erase, map_erase]
    have hj : j < X.length := by simpa using h
    rw [cut_at X j hj hn (by simpa using h1)]
/-- What a script's index always is. -/
def POk (X : List (Int × Tm)) (n : Nat) : Prop := (X.map Prod.fst).Nodup ∧ (∀ p, p ∈ X → chk p.2 = 0) ∧ X.length ≤ n
theorem POk.put {X : List (Int × Tm)} {n : Nat} (h : POk X n) (id : Int) (t : Tm) : POk (pputX X id t).1 (n + 1) := by
  rw [pputX]
  split
  · exact ⟨h.1, h.2.1, Nat.le_succ_of_le h.2.2⟩
  · split
    · exact ⟨h.1, h.2.1, Nat.le_succ_of_le h.2.2⟩
    · next h1 h2 =>
      simp only [not_or, Decidable.not_not] at h1
      refine ⟨?_, fun p hp => ?_, by simp only [List.length_append, List.length_cons, List.length_nil]; have := h.2.2; omega⟩
      · rw [List.map_append, List.nodup_append]
        refine ⟨h.1, by simp, fun a ha b hb => ?_⟩
        simp only [List.map_cons, List.map_nil, List.mem_singleton] at hb
        rintro rfl
        exact h1.1 (hb ▸ ha)
      · rcases List.mem_append.1 hp with hp | hp
        · exact h.2.1 p hp
        · simp only [List.mem_singleton] at hp
          rw [hp]; exact h1.2
theorem POk.drop {X : List (Int × Tm)} {n : Nat} (h : POk X n) (id : Int) : POk (pdropX X id).1 n := by
  rw [pdropX]
  split
  · refine ⟨(List.filter_sublist.map Prod.fst).nodup h.1, fun p hp => h.2.1 p (mem_cutX.1 hp).1, Nat.le_trans (List.length_filter_le _ _) h.2.2⟩
  · exact h
theorem POk.more {X : List (Int × Tm)} {n : Nat} (h : POk X n) : POk X (n + 1) := ⟨h.1, h.2.1, by have := h.2.2; omega⟩
def errT (t : Tm) : Int := if chk t = 0 then 0 else 1
theorem FP.out {k : Nat} {X : List (Int × Tm)} {t : Tm} {w w' : World} {e : Ending} (h : FP k X t w w' e) :
    ∃ a c l, e = .returned (.tuple #[.slice a l.length c, .int .i64 (errT t)]) ∧ IntsIn w' a l ∧ Below w.heap.size w w' ∧ (chk t ≠ 0 → l = []) ∧ (chk t = 0 → ∃ o, o.Nodup ∧ l = sortI o ∧ ∀ x, x ∈ o ↔ ∃ u, (x, u) ∈ X ∧ fitT k t u = true) := by
  by_cases hc : chk t = 0
  · obtain ⟨v, o, rfl, h1, h2, h3⟩ := h.2.1 hc
    obtain ⟨a, c, rfl, h4⟩ := ints_of_row h1
    exact ⟨a, c, sortI o, by rw [errT, if_pos hc], h4, h.2.2, fun h => absurd hc h, fun _ => ⟨o, h2, rfl, h3⟩⟩
  · exact ⟨none, 0, [], by rw [errT, if_neg hc]; exact h.1 hc, ⟨by simp, fun i hi => by simp at hi⟩, h.2.2, fun _ => rfl, fun h => absurd h hc⟩
theorem FR.out {k : Nat} {X : List (Int × Tm)} {u : Tm} {w w' : World} {e : Ending} (h : FR k X u w e w') {l : List Int} (hn : (X.map Prod.fst).Nodup)
    (h1 : chk u ≠ 0 → l = []) (h2 : chk u = 0 → ∃ o, o.Nodup ∧ l = sortI o ∧ ∀ x, x ∈ o ↔ ∃ t, (x, t) ∈ X ∧ fitT k u t = true) :
    ∃ a c, e = .returned (.tuple #[.slice a l.length c, .int .i64 (errT u)]) ∧ IntsIn w' a l ∧ Below w.heap.size w w' := by
  by_cases hc : chk u = 0
  · obtain ⟨o, q1, q2, q3⟩ := h2 hc
    obtain ⟨a, c, rfl, h4⟩ := h.1 (by simp [rightB, hc])
    have hl : l = sortR (outX k X u) := by
      rw [q2]
      exact sort_same q1 (outX_nodup hn) fun x => by rw [q3, outX_mem]
    refine ⟨a, c, by rw [errT, if_pos hc, hl, (sortR_perm _).length_eq], by rw [hl]; exact h4, h.2.2⟩
  · rw [h1 hc]
    exact ⟨none, 0, by rw [errT, if_neg hc]; exact h.2.1 (by simpa [rightB] using hc), ⟨by simp, fun i hi => by simp at hi⟩, h.2.2⟩

/-! ### In memory -/
/-- Two indexes side by side, an object of the law's own beside them. -/
def PTwo (w : World) (xb rb hb ab yb bx b_y : Nat) (X Y : List (Int × Tm)) (sb : Nat) (so : Obj) (wr : World) : Prop :=
  ∃ role vl vi, PxOk wr (RZ7 yb vl vi) xb rb hb ab X role bx ∧ R17 wr (fun b => role b ≠ none) yb (Y.map Prod.fst) (Y.map Prod.snd) vl vi b_y ∧ Below w.heap.size w wr ∧ wr.heap[sb]? = some so ∧ role sb = none ∧ ¬ RZ7 yb vl vi sb
section
variable {w w1 w2 : World} {xb rb hb ab yb bx b_y : Nat} {X Y : List (Int × Tm)} {sb : Nat} {so : Obj}
theorem PTwo.below (h : PTwo w xb rb hb ab yb bx b_y X Y sb so w1) (hB : Below w1.heap.size w1 w2) : PTwo w xb rb hb ab yb bx b_y X Y sb so w2 := by
  obtain ⟨role, vl, vi, h1, h2, h3, h4, h5, h6⟩ := h
  exact ⟨role, vl, vi, h1.below hB, h2.below hB, more_below h3 hB, (hB.block _ (Array.getElem?_eq_some_iff.1 h4).1).trans h4, h5, h6⟩
theorem PTwo.frame (h : PTwo w xb rb hb ab yb bx b_y X Y sb so w1) : Below w.heap.size w w1 := by
  obtain ⟨role, vl, vi, h1, h2, h3, h4, h5, h6⟩ := h
  exact h3
theorem PTwo.obj (h : PTwo w xb rb hb ab yb bx b_y X Y sb so w1) : w1.heap[sb]? = some so := by
  obtain ⟨role, vl, vi, h1, h2, h3, h4, h5, h6⟩ := h
  exact h4
def PBoth (w : World) (xb rb hb ab yb bx b_y : Nat) (X Y : List (Int × Tm)) (wr : World) : Prop :=
  ∃ role vl vi, PxOk wr (RZ7 yb vl vi) xb rb hb ab X role bx ∧ R17 wr (fun b => role b ≠ none) yb (Y.map Prod.fst) (Y.map Prod.snd) vl vi b_y ∧ Below w.heap.size w wr
theorem PTwo.both (h : PTwo w xb rb hb ab yb bx b_y X Y sb so w1) : PBoth w xb rb hb ab yb bx b_y X Y w1 := by
  obtain ⟨role, vl, vi, h1, h2, h3, h4, h5, h6⟩ := h
  exact ⟨role, vl, vi, h1, h2, h3⟩
theorem PBoth.frame (h : PBoth w xb rb hb ab yb bx b_y X Y w1) : Below w.heap.size w w1 := by
  obtain ⟨role, vl, vi, h1, h2, h3⟩ := h
  exact h3
/-- A new object beside them. -/
theorem PBoth.guest (h : PBoth w xb rb hb ab yb bx b_y X Y w1) (so : Obj) (hB : Below w1.heap.size w1 w2) (hn : w2.heap[w1.heap.size]? = some so) : PTwo w xb rb hb ab yb bx b_y X Y w1.heap.size so w2 := by
  obtain ⟨role, vl, vi, h1, h2, h3⟩ := h
  exact ⟨role, vl, vi, h1.below hB, h2.below hB, more_below h3 hB, hn, h1.new (Nat.le_refl _), fun hz => by have := (h2.lt _ hz).2; omega⟩
/-- Another object takes its place: a new one. -/
theorem PTwo.guest (h : PTwo w xb rb hb ab yb bx b_y X Y sb so w1) (so2 : Obj) (hB : Below w1.heap.size w1 w2) (hn : w2.heap[w1.heap.size]? = some so2) : PTwo w xb rb hb ab yb bx b_y X Y w1.heap.size so2 w2 := by
  obtain ⟨role, vl, vi, h1, h2, h3, h4, h5, h6⟩ := h
  exact ⟨role, vl, vi, h1.below hB, h2.below hB, more_below h3 hB, hn, h1.new (Nat.le_refl _), fun hz => by have := (h2.lt _ hz).2; omega⟩
theorem PTwo.terms (hbx : w.heap.size ≤ bx) (h : PTwo w xb rb hb ab yb bx b_y X Y sb so w1) {s : Value} {ts : List Tm} (hs : Terms (fun _ => False) w s ts) : Terms (fun b => w.heap.size ≤ b) w1 s ts := hs.over h.frame fun b hb => hb
theorem PTwo.put (hbx : w.heap.size ≤ bx) (h : PTwo w xb rb hb ab yb bx b_y X Y sb so w1) (hb1 : bx ≤ w1.heap.size) (id : Int) (t : Tm) (s : Value) (hz : t.size ≤ 1000000) (h0 : -9223372036854775808 ≤ id) (hid : id ≤ 9223372036854775807) (hX : X.length ≤ 1000000) (hs : Terms (fun b => w.heap.size ≤ b) w1 s t.args) :
    Calls Tryd.prog 12 #[.pointer (some ⟨xb, 0, none⟩), .int .i64 id, .agg #[.int .i64 t.h, s]] w1 fun e w2 => e = .returned (.int .i64 (pputX X id t).2) ∧ PTwo w xb rb hb ab yb bx b_y (pputX X id t).1 Y sb so w2 ∧ w1.heap.size ≤ w2.heap.size := by
  obtain ⟨role, vl, vi, h1, h2, h3, h4, h5, h6⟩ := h
  have hz1 := h1.z
  refine (pput_calls id t t.h s w1 (by omega) h0 hid hX hb1 h1 ⟨rfl, RepD.bar hs fun b _ hb => by have := (hz1 b hb).1; omega⟩).mono ?_
  rintro e w6 ⟨rfl, rx6, hx6, m6⟩
  have hz6 := hx6.z
  obtain ⟨q1, q2⟩ := m6.obj h5 h4
  exact ⟨rfl, ⟨rx6, vl, vi, hx6, h2.shift (m6.1.mono fun b _ hb => Decidable.not_not.1 hb) fun b hb => ⟨m6.2 b hb, (hz6 b hb).2⟩, h3.trans (m6.under (fun b hb => by have := (hz1 b hb).1; omega) h3.size), q1, q2, h6⟩, m6.1.size⟩
theorem PTwo.rput (hby : w.heap.size ≤ b_y) (h : PTwo w xb rb hb ab yb bx b_y X Y sb so w1) (hb1 : b_y ≤ w1.heap.size) (id : Int) (t : Tm) (s : Value) (hz : t.size ≤ 1000000) (hY : Y.length ≤ 4096) (hs : Terms (fun b => w.heap.size ≤ b) w1 s t.args) :
    Calls Tryd.prog 22 #[.pointer (some ⟨yb, 0, none⟩), .int .i64 id, .agg #[.int .i64 t.h, s]] w1 fun e w2 => e = .returned (.int .i64 (pputX Y id t).2) ∧ PTwo w xb rb hb ab yb bx b_y X (pputX Y id t).1 sb so w2 ∧ w1.heap.size ≤ w2.heap.size := by
  obtain ⟨role, vl, vi, h1, h2, h3, h4, h5, h6⟩ := h
  have hz2 := h2.lt
  refine (r17put_calls id t _ t.h s w1 hz hb1 (by rw [List.length_map]; exact hY) (by simp) h2 ⟨rfl, hs⟩).mono ?_
  rintro e w6 ⟨rfl, vl', vi', hy6, m6⟩
  rw [rp_put] at hy6 ⊢
  have hz6 := hy6.lt
  obtain ⟨q1, q2⟩ := m6.obj h6 h4
  exact ⟨rfl, ⟨role, vl', vi', h1.shift m6.1 fun b hb => ⟨m6.2 b hb, (hz6 b hb).2⟩, hy6, h3.trans (m6.under (fun b hb => by have := (hz2 b hb).1; omega) h3.size), q1, h5, q2⟩, m6.1.size⟩
theorem PTwo.drop (hbx : w.heap.size ≤ bx) (h : PTwo w xb rb hb ab yb bx b_y X Y sb so w1) (hb1 : bx ≤ w1.heap.size) (id : Int) (h0 : -9223372036854775808 ≤ id) (hid : id ≤ 9223372036854775807) (hX : ∀ q ∈ X, chk q.2 = 0) :
    Calls Tryd.prog 23 #[.pointer (some ⟨xb, 0, none⟩), .int .i64 id] w1 fun e w2 => e = .returned (.int .i64 (pdropX X id).2) ∧ PTwo w xb rb hb ab yb bx b_y (pdropX X id).1 Y sb so w2 ∧ w1.heap.size ≤ w2.heap.size := by
  obtain ⟨role, vl, vi, h1, h2, h3, h4, h5, h6⟩ := h
  have hz1 := h1.z
  refine (pdrop_calls id w1 h0 hid hb1 hX h1).mono ?_
  rintro e w6 ⟨rfl, hx6, m6⟩
  have hz6 := hx6.z
  obtain ⟨q1, q2⟩ := m6.obj h5 h4
  exact ⟨rfl, ⟨role, vl, vi, hx6, h2.shift (m6.1.mono fun b _ hb => Decidable.not_not.1 hb) fun b hb => ⟨m6.2 b hb, (hz6 b hb).2⟩, h3.trans (m6.under (fun b hb => by have := (hz1 b hb).1; omega) h3.size), q1, q2, h6⟩, m6.1.size⟩
theorem PTwo.rdrop (hby : w.heap.size ≤ b_y) (h : PTwo w xb rb hb ab yb bx b_y X Y sb so w1) (hb1 : b_y ≤ w1.heap.size) (id : Int) (hY : Y.length ≤ 4096) (hn : (Y.map Prod.fst).Nodup) :
    Calls Tryd.prog 24 #[.pointer (some ⟨yb, 0, none⟩), .int .i64 id] w1 fun e w2 => e = .returned (.int .i64 (pdropX Y id).2) ∧ PTwo w xb rb hb ab yb bx b_y X (pdropX Y id).1 sb so w2 ∧ w1.heap.size ≤ w2.heap.size := by
  obtain ⟨role, vl, vi, h1, h2, h3, h4, h5, h6⟩ := h
  have hz2 := h2.lt
  refine (r17drop_calls id w1 hb1 (by rw [List.length_map]; exact hY) (by simp) h2).mono ?_
  rintro e w6 ⟨rfl, vl', vi', hy6, m6⟩
  rw [rd_drop _ _ hn] at hy6 ⊢
  have hz6 := hy6.lt
  obtain ⟨q1, q2⟩ := m6.obj h6 h4
  exact ⟨rfl, ⟨role, vl', vi', h1.shift m6.1 fun b hb => ⟨m6.2 b hb, (hz6 b hb).2⟩, hy6, h3.trans (m6.under (fun b hb => by have := (hz2 b hb).1; omega) h3.size), q1, h5, q2⟩, m6.1.size⟩
/-- What a search answers: a list that the other index's search answers too. -/
def FTwo (k : Nat) (X : List (Int × Tm)) (t : Tm) (l : List Int) : Prop := (chk t ≠ 0 → l = []) ∧ (chk t = 0 → ∃ o, o.Nodup ∧ l = sortI o ∧ ∀ x, x ∈ o ↔ ∃ u, (x, u) ∈ X ∧ fitT k t u = true)
theorem PTwo.fp {e : Ending} {k : Nat} {t : Tm} (h : PTwo w xb rb hb ab yb bx b_y X Y sb so w1) (hf : FP k X t w1 w2 e) :
    ∃ a c l, e = .returned (.tuple #[.slice a l.length c, .int .i64 (errT t)]) ∧ IntsIn w2 a l ∧ FTwo k X t l ∧ PTwo w xb rb hb ab yb bx b_y X Y sb so w2 ∧ Below w1.heap.size w1 w2 := by
  obtain ⟨a, c, l, q1, q2, q3, q4, q5⟩ := hf.out
  exact ⟨a, c, l, q1, q2, ⟨q4, q5⟩, h.below q3, q3⟩
theorem PTwo.gen (h : PTwo w xb rb hb ab yb bx b_y X Y sb so w1) (hX : X.length ≤ 1000000) (t : Tm) (s : Value) {B : Nat → Prop} (hz : t.size ≤ 1000000) (hs : Terms B w1 s t.args) :
    Calls Tryd.prog 14 #[.pointer (some ⟨xb, 0, none⟩), .agg #[.int .i64 t.h, s]] w1 fun e w2 => ∃ a c l, e = .returned (.tuple #[.slice a l.length c, .int .i64 (errT t)]) ∧ IntsIn w2 a l ∧ FTwo 0 X t l ∧ PTwo w xb rb hb ab yb bx b_y X Y sb so w2 ∧ Below w1.heap.size w1 w2 := by
  have h' := h
  obtain ⟨role, vl, vi, h1, -⟩ := h
  exact (pf0_calls t B t.h s w1 (by omega) hX h1 ⟨rfl, hs⟩).mono fun e w2 hf => h'.fp hf
theorem PTwo.inst (h : PTwo w xb rb hb ab yb bx b_y X Y sb so w1) (hX : X.length ≤ 1000000) (t : Tm) (s : Value) {B : Nat → Prop} (hz : t.size ≤ 1000000) (hs : Terms B w1 s t.args) :
    Calls Tryd.prog 15 #[.pointer (some ⟨xb, 0, none⟩), .agg #[.int .i64 t.h, s]] w1 fun e w2 => ∃ a c l, e = .returned (.tuple #[.slice a l.length c, .int .i64 (errT t)]) ∧ IntsIn w2 a l ∧ FTwo 1 X t l ∧ PTwo w xb rb hb ab yb bx b_y X Y sb so w2 ∧ Below w1.heap.size w1 w2 := by
  have h' := h
  obtain ⟨role, vl, vi, h1, -⟩ := h
  exact (pf1_calls t B t.h s w1 (by omega) hX h1 ⟨rfl, hs⟩).mono fun e w2 hf => h'.fp hf
theorem PTwo.unif (h : PTwo w xb rb hb ab yb bx b_y X Y sb so w1) (hX : X.length ≤ 1000000) (t : Tm) (s : Value) {B : Nat → Prop} (hz : t.size ≤ 1000000) (hs : Terms B w1 s t.args) :
    Calls Tryd.prog 16 #[.pointer (some ⟨xb, 0, none⟩), .agg #[.int .i64 t.h, s]] w1 fun e w2 => ∃ a c l, e = .returned (.tuple #[.slice a l.length c, .int .i64 (errT t)]) ∧ IntsIn w2 a l ∧ FTwo 2 X t l ∧ PTwo w xb rb hb ab yb bx b_y X Y sb so w2 ∧ Below w1.heap.size w1 w2 := by
  have h' := h
  obtain ⟨role, vl, vi, h1, -⟩ := h
  exact (pf2_calls t B t.h s w1 (by omega) hX h1 ⟨rfl, hs⟩).mono fun e w2 hf => h'.fp hf
theorem POk.sizes {n : Nat} (h : POk X n) : ∀ p, p ∈ X → p.2.size ≤ 1000000 := fun p hp => by
  have := (chk_ok (h.2.1 p hp)).2; omega
theorem PTwo.rfind (k : Nat) (hk : k ≤ 2) (kz : Int) (hkz : kz = k) (h : PTwo w xb rb hb ab yb bx b_y X X sb so w1) {n : Nat} (hX : POk X n) (hn : n ≤ 4096) (t : Tm) (s : Value) {B : Nat → Prop} (hz : t.size ≤ 1000000) (hs : Terms B w1 s t.args) {l : List Int} (hl : FTwo k X t l) :
    Calls Tryd.prog 25 #[.pointer (some ⟨yb, 0, none⟩), .agg #[.int .i64 t.h, s], .int .i64 kz] w1 fun e w2 => ∃ a c, e = .returned (.tuple #[.slice a l.length c, .int .i64 (errT t)]) ∧ IntsIn w2 a l ∧ PTwo w xb rb hb ab yb bx b_y X X sb so w2 ∧ Below w1.heap.size w1 w2 := by
  have h' := h
  obtain ⟨role, vl, vi, h1, h2, -⟩ := h
  have hq : ∀ (e : Ending) (w2 : World), FR k X t w1 e w2 → ∃ a c, e = .returned (.tuple #[.slice a l.length c, .int .i64 (errT t)]) ∧ IntsIn w2 a l ∧ PTwo w xb rb hb ab yb bx b_y X X sb so w2 ∧ Below w1.heap.size w1 w2 := fun e w2 hf => by
    obtain ⟨a, c, q1, q2, q3⟩ := hf.out hX.1 hl.1 hl.2
    exact ⟨a, c, q1, q2, h'.below q3, q3⟩
  subst hkz
  have hXl : X.length ≤ 4096 := by have := hX.2.2; omega
  match k, hk with
  | 0, _ => exact (r17find0_calls t B t.h s w1 hz hX.sizes hXl h2 ⟨rfl, hs⟩).mono hq
  | 1, _ => exact (r17find1_calls t B t.h s w1 hz hX.sizes hXl h2 ⟨rfl, hs⟩).mono hq
  | 2, _ => exact (r17find2_calls t B t.h s w1 hz hX.sizes hXl h2 ⟨rfl, hs⟩).mono hq
theorem PTwo.len (h : PTwo w xb rb hb ab yb bx b_y X Y sb so w1) : ∃ vl a c, w1.heap[yb]? = some (.cells #[vl, .slice a Y.length c] 47 (0, 0)) := by
  obtain ⟨role, vl, vi, h1, h2, -⟩ := h
  obtain ⟨a, c, hv, -⟩ := ints_of_row h2.i
  rw [List.length_map] at hv
  exact ⟨vl, a, c, by rw [← hv]; exact h2.x⟩
theorem PTwo.psize (h : PTwo w xb rb hb ab yb bx b_y X Y sb so w1) : Calls Tryd.prog 27 #[.pointer (some ⟨xb, 0, none⟩)] w1 fun e w' => e = .returned (.int .i64 X.length) ∧ w1 = w' := by
  obtain ⟨role, vl, vi, h1, -⟩ := h
  exact psize_calls w1 h1
end
end
open Go.RowKit

theorem box4 {w : World} {b : Nat} {x y z u : Value} {t : TypeId} (h : w.heap[b]? = some (.cells #[x, y, z, u] t (0, 0))) : b < w.heap.size ∧ w.cell? ⟨b, 0, none⟩ = some x ∧ w.cell? ⟨b, 1, none⟩ = some y ∧ w.cell? ⟨b, 2, none⟩ = some z ∧ w.cell? ⟨b, 3, none⟩ = some u :=
  ⟨(Array.getElem?_eq_some_iff.1 h).1, by simp [World.cell?, h], by simp [World.cell?, h], by simp [World.cell?, h], by simp [World.cell?, h]⟩
theorem few_sizes7 {sp : List Bs} (h : fewP sp = true) : sp.length ≤ 30 ∧ ∀ i (hi : i < sp.length), (sp[i]).t.size ≤ 1000000 := by
  rw [fewP, Bool.and_eq_true, decide_eq_true_eq] at h
  refine ⟨h.1, fun i hi => ?_⟩
  have h1 := fewS_sizes h.2
  have h2 := Tm.size_get (sp.map (·.t)) i (by simpa using hi)
  simp only [List.getElem_map] at h2
  omega
set_option maxHeartbeats 16000000 in
set_option maxRecDepth 100000 in
theorem pdoes_calls (sp : List Bs) (s : Value) (w : World) (hid : ∀ x, x ∈ sp → -9223372036854775808 ≤ x.id ∧ x.id ≤ 9223372036854775807) (hs : Steps (fun _ => False) w s sp) : Calls Tryd.prog 4 #[s] w fun e w' => e = .returned (.bool true) ∧ Below w.heap.size w w' := by
  have HID0 := hide hid
  have HS := hide hs
  obtain ⟨a, c, rfl, hlc, hlm⟩ := hs.shape
  have HGE := hide (fun i hi => hs.get i hi)
  clear hs hid
  go_enter Tryd.func4, Tryd.ntmps4
  go_wp2_with fail
  refine (pfew_calls sp _ w HS.out).mono ?_
  rintro e w1 ⟨rfl, b1⟩
  have HB1 := hide b1
  clear b1
  have HFS := hide (few_sizes7 (sp := sp))
  generalize fewP sp = fs at *
  cases fs
  · go_wp2
    go_ret
    exact ⟨rfl, HB1.out⟩
  have h30 : sp.length ≤ 30 := (HFS.out rfl).1
  have HZS := hide (HFS.out rfl).2
  clear HFS
  go_wp2_with fail
  refine (pnew_calls (fun _ => False) w1 (fun _ h => h.elim)).mono ?_
  rintro e w2 ⟨xb, rb, hb, ab, role, rfl, hx2, b2⟩
  have HB2 := hide (more_below HB1.out b2)
  have b3 : Below w2.heap.size w2 (w2.alloc (.cells #[.slice none 0 0, .slice none 0 0] 47)) := (Below.refl _ _).alloc (Nat.le_refl _) _
  have HP3 := hide (show PBoth w xb rb hb ab w2.heap.size w1.heap.size w2.heap.size [] [] (w2.alloc (.cells #[.slice none 0 0, .slice none 0 0] 47)) from by
    have hz := hx2.z
    refine ⟨role, .slice none 0 0, .slice none 0 0, hx2.shift (Keep.of_below b3) fun b h => ?_, { x := World.alloc_heap_new _ _, r := OwnD.nil _ _ _ _ _, i := World.ownsRow_nil _ _ _ _, yb0 := Nat.le_refl _, ne1 := by simp [Value.ownBlock], ne2 := by simp [Value.ownBlock], ne3 := by simp [Value.ownBlock], na := ?_, la := fun b hb => by have := (hz b hb).2; simp; omega }, more_below HB2.out b3⟩
    · rcases h with h | h | h
      · exact ⟨.inr (by omega), by simp; omega⟩
      · simp [Value.ownBlock] at h
      · simp [Value.ownBlock] at h
    · rintro b (h | h | h) h2
      · have := (hz b h2).2; omega
      · simp [Value.ownBlock] at h
      · simp [Value.ownBlock] at h)
  have HBB := hide (show w.heap.size ≤ w1.heap.size ∧ w.heap.size ≤ w2.heap.size from ⟨HB1.out.size, HB2.out.size⟩)
  have s12 := b2.size
  clear b2 b3 hx2 HB1
  go_wp2
  generalize hw3 : w2.alloc (.cells #[.slice none 0 0, .slice none 0 0] 47) = w3 at *
  have s23 : w2.heap.size ≤ w3.heap.size := by rw [← hw3]; simp
  clear hw3
  generalize w2.heap.size = yb at *
  generalize w1.heap.size = bx at *
  go_loopw [5] (fun i wr => ∃ (j : Nat) (X : List (Int × Tm)), i = .int .i64 j ∧ j ≤ sp.length ∧ Hid (PBoth w xb rb hb ab yb bx yb X X wr) ∧ Hid (POk X j) ∧ bx ≤ wr.heap.size ∧ yb ≤ wr.heap.size) (fun i _ => sp.length - (intOf i).toNat)
  case atStart => exact ⟨0, [], rfl, by omega, HP3, hide ⟨by simp, by simp, by simp⟩, by omega, by omega⟩
  case round =>
    clear HP3 s23 s12
    obtain ⟨j, X, rfl, hj, hP, HOK, hbx, hby⟩ := hrel
    by_cases hlt : j < sp.length
    · obtain ⟨b, off, a1, c1, rfl, hb, g0, g1, g2, g3, gt⟩ := HGE.out j hlt
      have HT := hide gt
      have hB := hP.out.frame
      have G0 := (hB.cell (p := ⟨b, off + j * 4, none⟩) hb).trans g0
      have G1 := (hB.cell (p := ⟨b, off + j * 4 + 1, none⟩) hb).trans g1
      have G2 := (hB.cell (p := ⟨b, off + j * 4 + 2, none⟩) hb).trans g2
      have G3 := (hB.cell (p := ⟨b, off + j * 4 + 3, none⟩) hb).trans g3
      have htz := HZS.out j hlt
      have HID := hide (HID0.out _ (List.getElem_mem hlt))
      clear g0 g1 g2 g3 gt hB
      generalize hsj : sp[j] = sj at G0 G1 G2 G3 htz HID HT
      obtain ⟨wv, idv, t⟩ := sj
      simp only at G0 G1 G2 G3 htz HID HT
      clear hsj
      by_cases hw0 : wv = 0
      · subst hw0
        have hbo : Below wr.heap.size wr (wr.alloc (.cells #[.int .i64 0, .int .i64 idv, .int .i64 t.h, .slice a1 t.args.length c1] 49)) := (Below.refl _ _).alloc (Nat.le_refl _) _
        have HG4 := hide (hP.out.guest (so := .cells #[.int .i64 0, .int .i64 idv, .int .i64 t.h, .slice a1 t.args.length c1] 49 (0, 0)) hbo (World.alloc_heap_new wr (.cells #[.int .i64 0, .int .i64 idv, .int .i64 t.h, .slice a1 t.args.length c1] 49)))
        have HKB := hide (fun (W : World) (h : W.heap[wr.heap.size]? = some (.cells #[.int .i64 0, .int .i64 idv, .int .i64 t.h, .slice a1 t.args.length c1] 49 (0, 0))) => (box4 h).2)
        have HS4 := hide hbo.size
        clear hbo
        go_wp2
        refine drawn_tree (fun W => W.cell? ⟨wr.heap.size, 0, none⟩ = some (.int .i64 0) ∧ W.cell? ⟨wr.heap.size, 1, none⟩ = some (.int .i64 idv) ∧ W.cell? ⟨wr.heap.size, 2, none⟩ = some (.int .i64 t.h) ∧ W.cell? ⟨wr.heap.size, 3, none⟩ = some (.slice a1 t.args.length c1)) (.take 0 <| .take 1 <| .take 2 <| .take 3 <| .take 4 <| .take 5 <| .take 6 <| .take 7 <| .take 8 <| .take 10 <| .take 11 <| .take 12 <| .take 13 <| .take 14 <| .one 9 <| .one 15 <| .take 16 <| .take 17 <| .take 18 <| .take 19 <| .take 20 <| .take 21 <| .take 22 <| .take 23 <| .take 24 <| .take 25 <| .take 26 <| .take 27 <| .take 28 <| .take 29 <| .take 30 <| .take 31 <| .take 32 <| .take 33 <| .done) (by kernel_rfl) (by kernel_rfl) (by kernel_rfl) (by kernel_rfl) (fun _ _ _ _ _ h => h) (HKB.out _ (HG4.out.below (Below.refl _ _).drew).obj) ?_
        have HG5 := hide (HG4.out.below (Below.refl _ _).drew)
        have HS5 := hide (show wr.heap.size ≤ (wr.alloc (.cells #[.int .i64 0, .int .i64 idv, .int .i64 t.h, .slice a1 t.args.length c1] 49)).drew.heap.size from HS4.out)
        clear HG4 HS4
        generalize (wr.alloc (.cells #[.int .i64 0, .int .i64 idv, .int .i64 t.h, .slice a1 t.args.length c1] 49)).drew = w4 at *
        iterate 14 (refine t_take (v := ?_) rfl (by rfl) ?_ ?_; rotate_left; (intro w hS; obtain ⟨hS1, hS2, hS3, hS4⟩ := hS; go_simp; try with_reducible rfl); simp only [Act.put, List.setIfInBounds_toArray, List.set_cons_zero, List.set_cons_succ])
        refine t_one rfl (by rfl) ?_
        intro K hK
        go_simp
        refine (PTwo.put HBB.out.1 HG5.out (by have := HS5.out; omega) idv t _ htz HID.out.1 HID.out.2 (by have := HOK.out.2.2; omega) (HG5.out.terms HBB.out.1 HT.out)).mono ?_
        rintro e w5 ⟨rfl, g5, s5⟩
        refine hK.out _ _ (HKB.out _ g5.obj) ?_
        clear hK K
        have HG6 := hide g5
        have HS6 := hide (Nat.le_trans HS5.out s5)
        clear g5 s5 HG5 HS5
        refine t_one rfl (by rfl) ?_
        intro K hK
        go_simp
        refine (PTwo.rput HBB.out.2 HG6.out (by have := HS6.out; omega) idv t _ htz (by have := HOK.out.2.2; omega) (HG6.out.terms HBB.out.1 HT.out)).mono ?_
        rintro e wt ⟨rfl, g5, s5⟩
        refine hK.out _ _ (HKB.out _ g5.obj) ?_
        clear hK K
        have HGT := hide g5
        have HST := hide (Nat.le_trans HS6.out s5)
        have HOK2 := hide (HOK.out.put idv t)
        clear g5 s5 HG6 HS6 HOK
        generalize (pputX X idv t).2 = er
        have hne : (er != er) = false := by simp
        generalize (pputX X idv t).1 = X' at *
        iterate 7 (refine t_take (v := ?_) rfl (by rfl) ?_ ?_; rotate_left; (intro w hS; obtain ⟨hS1, hS2, hS3, hS4⟩ := hS; go_simp; try with_reducible rfl); simp only [Act.put, List.setIfInBounds_toArray, List.set_cons_zero, List.set_cons_succ])
        iterate 9 (refine t_skip rfl (by rfl) ?_; simp only [Act.put, List.setIfInBounds_toArray, List.set_cons_zero, List.set_cons_succ])
        iterate 2 (refine t_take (v := ?_) rfl (by rfl) ?_ ?_; rotate_left; (intro w hS; obtain ⟨hS1, hS2, hS3, hS4⟩ := hS; go_simp; try with_reducible rfl); simp only [Act.put, List.setIfInBounds_toArray, List.set_cons_zero, List.set_cons_succ])
        refine t_done ?_
        obtain ⟨-, z0, z1, z2, z3⟩ := box4 HGT.out.obj
        clear hne
        go_wp2
        clear z0 z1 z2 z3

        obtain ⟨vl9, a9, c9, hy9⟩ := HGT.out.len
        obtain ⟨-, -, yt1, -, -⟩ := box2 hy9
        refine drawn_tree (fun W' => W'.cell? ⟨yb, 1, none⟩ = some (.slice a9 X'.length c9)) (.take 0 (.take 2 (.take 3 (.take 4 (.take 5 (.take 6 (.one 1 (.take 7 .done)))))))) (by kernel_rfl) (by kernel_rfl) (by kernel_rfl) (by kernel_rfl) (fun _ _ _ _ _ h => h) yt1 ?_
        have HGU := hide (HGT.out.below (Below.refl _ _).drew)
        have yu1 : wt.drew.cell? ⟨yb, 1, none⟩ = some (.slice a9 X'.length c9) := yt1
        have HSU := hide (show wr.heap.size ≤ wt.drew.heap.size from HST.out)
        clear yt1 hy9 HGT HST
        generalize wt.drew = wu at *
        iterate 6 (refine t_take (v := ?_) rfl (by rfl) ?_ ?_; rotate_left; (intro w hS; have hS1 := hS; go_simp; try with_reducible rfl); simp only [Act.put, List.setIfInBounds_toArray, List.set_cons_zero, List.set_cons_succ])
        refine t_one rfl (by rfl) ?_
        intro K hK
        go_simp
        refine HGU.out.psize.mono ?_
        rintro e wv ⟨rfl, rfl⟩
        refine hK.out _ _ yu1 ?_
        clear hK K
        iterate 1 (refine t_take (v := ?_) rfl (by rfl) ?_ ?_; rotate_left; (intro w hS; have hS1 := hS; go_simp; try with_reducible rfl); simp only [Act.put, List.setIfInBounds_toArray, List.set_cons_zero, List.set_cons_succ])
        refine t_done ?_
        clear yu1
        go_wp2
        go_roundw
        case rel => exact ⟨j + 1, X', by go_num, by omega, hide HGU.out.both, HOK2, by have := HSU.out; omega, by have := HSU.out; omega⟩
        case measure => simp [intOf]; omega
      by_cases hw1 : wv = 1
      · subst hw1
        have hbo : Below wr.heap.size wr (wr.alloc (.cells #[.int .i64 1, .int .i64 idv, .int .i64 t.h, .slice a1 t.args.length c1] 49)) := (Below.refl _ _).alloc (Nat.le_refl _) _
        have HG4 := hide (hP.out.guest (so := .cells #[.int .i64 1, .int .i64 idv, .int .i64 t.h, .slice a1 t.args.length c1] 49 (0, 0)) hbo (World.alloc_heap_new wr (.cells #[.int .i64 1, .int .i64 idv, .int .i64 t.h, .slice a1 t.args.length c1] 49)))
        have HKB := hide (fun (W : World) (h : W.heap[wr.heap.size]? = some (.cells #[.int .i64 1, .int .i64 idv, .int .i64 t.h, .slice a1 t.args.length c1] 49 (0, 0))) => (box4 h).2)
        have HS4 := hide hbo.size
        clear hbo
        go_wp2
        refine drawn_tree (fun W => W.cell? ⟨wr.heap.size, 0, none⟩ = some (.int .i64 1) ∧ W.cell? ⟨wr.heap.size, 1, none⟩ = some (.int .i64 idv) ∧ W.cell? ⟨wr.heap.size, 2, none⟩ = some (.int .i64 t.h) ∧ W.cell? ⟨wr.heap.size, 3, none⟩ = some (.slice a1 t.args.length c1)) (.take 0 <| .take 1 <| .take 2 <| .take 3 <| .take 4 <| .take 5 <| .take 6 <| .take 7 <| .take 8 <| .take 9 <| .take 10 <| .take 11 <| .take 12 <| .take 13 <| .take 14 <| .take 15 <| .take 16 <| .take 17 <| .take 18 <| .take 19 <| .take 20 <| .take 21 <| .take 22 <| .take 23 <| .take 24 <| .take 25 <| .take 27 <| .take 28 <| .take 29 <| .one 26 <| .one 30 <| .take 31 <| .take 32 <| .take 33 <| .done) (by kernel_rfl) (by kernel_rfl) (by kernel_rfl) (by kernel_rfl) (fun _ _ _ _ _ h => h) (HKB.out _ (HG4.out.below (Below.refl _ _).drew).obj) ?_
        have HG5 := hide (HG4.out.below (Below.refl _ _).drew)
        have HS5 := hide (show wr.heap.size ≤ (wr.alloc (.cells #[.int .i64 1, .int .i64 idv, .int .i64 t.h, .slice a1 t.args.length c1] 49)).drew.heap.size from HS4.out)
        clear HG4 HS4
        generalize (wr.alloc (.cells #[.int .i64 1, .int .i64 idv, .int .i64 t.h, .slice a1 t.args.length c1] 49)).drew = w4 at *
        iterate 4 (refine t_take (v := ?_) rfl (by rfl) ?_ ?_; rotate_left; (intro w hS; obtain ⟨hS1, hS2, hS3, hS4⟩ := hS; go_simp; try with_reducible rfl); simp only [Act.put, List.setIfInBounds_toArray, List.set_cons_zero, List.set_cons_succ])
        iterate 13 (refine t_skip rfl (by rfl) ?_; simp only [Act.put, List.setIfInBounds_toArray, List.set_cons_zero, List.set_cons_succ])
        iterate 9 (refine t_take (v := ?_) rfl (by rfl) ?_ ?_; rotate_left; (intro w hS; obtain ⟨hS1, hS2, hS3, hS4⟩ := hS; go_simp; try with_reducible rfl); simp only [Act.put, List.setIfInBounds_toArray, List.set_cons_zero, List.set_cons_succ])
        iterate 3 (refine t_take (v := ?_) rfl (by rfl) ?_ ?_; rotate_left; (intro w hS; obtain ⟨hS1, hS2, hS3, hS4⟩ := hS; go_simp; try with_reducible rfl); simp only [Act.put, List.setIfInBounds_toArray, List.set_cons_zero, List.set_cons_succ])
        refine t_one rfl (by rfl) ?_
        intro K hK
        go_simp
        refine (PTwo.drop HBB.out.1 HG5.out (by have := HS5.out; omega) idv HID.out.1 HID.out.2 HOK.out.2.1).mono ?_
        rintro e w5 ⟨rfl, g5, s5⟩
        refine hK.out _ _ (HKB.out _ g5.obj) ?_
        clear hK K
        have HG6 := hide g5
        have HS6 := hide (Nat.le_trans HS5.out s5)
        clear g5 s5 HG5 HS5
        refine t_one rfl (by rfl) ?_
        intro K hK
        go_simp
        refine (PTwo.rdrop HBB.out.2 HG6.out (by have := HS6.out; omega) idv (by have := HOK.out.2.2; omega) HOK.out.1).mono ?_
        rintro e wt ⟨rfl, g5, s5⟩
        refine hK.out _ _ (HKB.out _ g5.obj) ?_
        clear hK K
        have HGT := hide g5
        have HST := hide (Nat.le_trans HS6.out s5)
        have HOK2 := hide (HOK.out.drop idv).more
        clear g5 s5 HG6 HS6 HOK
        generalize (pdropX X idv).2 = er
        have hne : (er != er) = false := by simp
        generalize (pdropX X idv).1 = X' at *
        iterate 3 (refine t_take (v := ?_) rfl (by rfl) ?_ ?_; rotate_left; (intro w hS; obtain ⟨hS1, hS2, hS3, hS4⟩ := hS; go_simp; try with_reducible rfl); simp only [Act.put, List.setIfInBounds_toArray, List.set_cons_zero, List.set_cons_succ])
        refine t_done ?_
        obtain ⟨-, z0, z1, z2, z3⟩ := box4 HGT.out.obj
        clear hne
        go_wp2
        clear z0 z1 z2 z3

        obtain ⟨vl9, a9, c9, hy9⟩ := HGT.out.len
        obtain ⟨-, -, yt1, -, -⟩ := box2 hy9
        refine drawn_tree (fun W' => W'.cell? ⟨yb, 1, none⟩ = some (.slice a9 X'.length c9)) (.take 0 (.take 2 (.take 3 (.take 4 (.take 5 (.take 6 (.one 1 (.take 7 .done)))))))) (by kernel_rfl) (by kernel_rfl) (by kernel_rfl) (by kernel_rfl) (fun _ _ _ _ _ h => h) yt1 ?_
        have HGU := hide (HGT.out.below (Below.refl _ _).drew)
        have yu1 : wt.drew.cell? ⟨yb, 1, none⟩ = some (.slice a9 X'.length c9) := yt1
        have HSU := hide (show wr.heap.size ≤ wt.drew.heap.size from HST.out)
        clear yt1 hy9 HGT HST
        generalize wt.drew = wu at *
        iterate 6 (refine t_take (v := ?_) rfl (by rfl) ?_ ?_; rotate_left; (intro w hS; have hS1 := hS; go_simp; try with_reducible rfl); simp only [Act.put, List.setIfInBounds_toArray, List.set_cons_zero, List.set_cons_succ])
        refine t_one rfl (by rfl) ?_
        intro K hK
        go_simp
        refine HGU.out.psize.mono ?_
        rintro e wv ⟨rfl, rfl⟩
        refine hK.out _ _ yu1 ?_
        clear hK K
        iterate 1 (refine t_take (v := ?_) rfl (by rfl) ?_ ?_; rotate_left; (intro w hS; have hS1 := hS; go_simp; try with_reducible rfl); simp only [Act.put, List.setIfInBounds_toArray, List.set_cons_zero, List.set_cons_succ])
        refine t_done ?_
        clear yu1
        go_wp2
        go_roundw
        case rel => exact ⟨j + 1, X', by go_num, by omega, hide HGU.out.both, HOK2, by have := HSU.out; omega, by have := HSU.out; omega⟩
        case measure => simp [intOf]; omega
      by_cases hw2 : wv = 2
      · subst hw2
        have hbo : Below wr.heap.size wr (wr.alloc (.cells #[.int .i64 2, .int .i64 idv, .int .i64 t.h, .slice a1 t.args.length c1] 49)) := (Below.refl _ _).alloc (Nat.le_refl _) _
        have HG4 := hide (hP.out.guest (so := .cells #[.int .i64 2, .int .i64 idv, .int .i64 t.h, .slice a1 t.args.length c1] 49 (0, 0)) hbo (World.alloc_heap_new wr (.cells #[.int .i64 2, .int .i64 idv, .int .i64 t.h, .slice a1 t.args.length c1] 49)))
        have HKB := hide (fun (W : World) (h : W.heap[wr.heap.size]? = some (.cells #[.int .i64 2, .int .i64 idv, .int .i64 t.h, .slice a1 t.args.length c1] 49 (0, 0))) => (box4 h).2)
        have HS4 := hide hbo.size
        clear hbo
        go_wp2
        refine drawn_tree (fun W => W.cell? ⟨wr.heap.size, 0, none⟩ = some (.int .i64 2) ∧ W.cell? ⟨wr.heap.size, 1, none⟩ = some (.int .i64 idv) ∧ W.cell? ⟨wr.heap.size, 2, none⟩ = some (.int .i64 t.h) ∧ W.cell? ⟨wr.heap.size, 3, none⟩ = some (.slice a1 t.args.length c1)) (.take 0 <| .take 1 <| .take 2 <| .take 3 <| .take 4 <| .take 5 <| .take 6 <| .take 7 <| .take 8 <| .take 9 <| .take 10 <| .take 11 <| .take 12 <| .take 13 <| .take 14 <| .take 15 <| .take 16 <| .take 17 <| .take 18 <| .take 19 <| .take 20 <| .take 21 <| .take 22 <| .take 23 <| .take 24 <| .take 25 <| .take 26 <| .take 27 <| .take 28 <| .take 29 <| .take 30 <| .take 31 <| .take 32 <| .take 33 <| .done) (by kernel_rfl) (by kernel_rfl) (by kernel_rfl) (by kernel_rfl) (fun _ _ _ _ _ h => h) (HKB.out _ (HG4.out.below (Below.refl _ _).drew).obj) ?_
        have HG5 := hide (HG4.out.below (Below.refl _ _).drew)
        have HS5 := hide (show wr.heap.size ≤ (wr.alloc (.cells #[.int .i64 2, .int .i64 idv, .int .i64 t.h, .slice a1 t.args.length c1] 49)).drew.heap.size from HS4.out)
        clear HG4 HS4
        generalize (wr.alloc (.cells #[.int .i64 2, .int .i64 idv, .int .i64 t.h, .slice a1 t.args.length c1] 49)).drew = w4 at *
        iterate 4 (refine t_take (v := ?_) rfl (by rfl) ?_ ?_; rotate_left; (intro w hS; obtain ⟨hS1, hS2, hS3, hS4⟩ := hS; go_simp; try with_reducible rfl); simp only [Act.put, List.setIfInBounds_toArray, List.set_cons_zero, List.set_cons_succ])
        iterate 13 (refine t_skip rfl (by rfl) ?_; simp only [Act.put, List.setIfInBounds_toArray, List.set_cons_zero, List.set_cons_succ])
        iterate 6 (refine t_take (v := ?_) rfl (by rfl) ?_ ?_; rotate_left; (intro w hS; obtain ⟨hS1, hS2, hS3, hS4⟩ := hS; go_simp; try with_reducible rfl); simp only [Act.put, List.setIfInBounds_toArray, List.set_cons_zero, List.set_cons_succ])
        iterate 9 (refine t_skip rfl (by rfl) ?_; simp only [Act.put, List.setIfInBounds_toArray, List.set_cons_zero, List.set_cons_succ])
        iterate 2 (refine t_take (v := ?_) rfl (by rfl) ?_ ?_; rotate_left; (intro w hS; obtain ⟨hS1, hS2, hS3, hS4⟩ := hS; go_simp; try with_reducible rfl); simp only [Act.put, List.setIfInBounds_toArray, List.set_cons_zero, List.set_cons_succ])
        refine t_done ?_
        obtain ⟨-, z0, z1, z2, z3⟩ := box4 HG5.out.obj
        go_wp2_with fail
        refine (HG5.out.gen (by have := HOK.out.2.2; omega) t _ htz (HG5.out.terms HBB.out.1 HT.out)).mono ?_
        rintro e w5 ⟨fa, fc, l, rfl, hi5, hf5, g5, b5⟩
        have HI5 := hide hi5
        have HF5 := hide hf5
        have HG6 := hide g5
        have HS6 := hide (Nat.le_trans HS5.out b5.size)
        obtain ⟨-, y0, y1, y2, y3⟩ := box4 g5.obj
        clear hi5 hf5 g5 b5 HG5 HS5 z0 z1 z2 z3
        go_wp2_with fail
        refine (PTwo.rfind 0 (by omega) _ (by simp) HG6.out HOK.out (by have := h30; omega) t _ htz (HG6.out.terms HBB.out.1 HT.out) HF5.out).mono ?_
        rintro e w7 ⟨ga, gc, rfl, hi7, g7, b7⟩
        have HI7 := hide (HI5.out.below b7)
        have HJ7 := hide hi7
        have HG7 := hide g7
        have HS7 := hide (Nat.le_trans HS6.out b7.size)
        clear hi7 g7 b7 HG6 HS6 HI5 HF5 y0 y1 y2 y3
        generalize errT t = er
        have hne : (er != er) = false := by simp
        go_wp2_with fail
        refine (rints_calls l l fa ga fc gc w7 HI7.out HJ7.out).mono ?_
        rintro e wt ⟨rfl, bt⟩
        rw [show decide (l = l) = true by simp]
        have HGT := hide (HG7.out.below bt)
        have HST := hide (Nat.le_trans HS7.out bt.size)
        have HOK2 := hide HOK.out.more
        clear bt HG7 HS7 HI7 HJ7 HOK
        go_wp2

        obtain ⟨vl9, a9, c9, hy9⟩ := HGT.out.len
        obtain ⟨-, -, yt1, -, -⟩ := box2 hy9
        refine drawn_tree (fun W' => W'.cell? ⟨yb, 1, none⟩ = some (.slice a9 X.length c9)) (.take 0 (.take 2 (.take 3 (.take 4 (.take 5 (.take 6 (.one 1 (.take 7 .done)))))))) (by kernel_rfl) (by kernel_rfl) (by kernel_rfl) (by kernel_rfl) (fun _ _ _ _ _ h => h) yt1 ?_
        have HGU := hide (HGT.out.below (Below.refl _ _).drew)
        have yu1 : wt.drew.cell? ⟨yb, 1, none⟩ = some (.slice a9 X.length c9) := yt1
        have HSU := hide (show wr.heap.size ≤ wt.drew.heap.size from HST.out)
        clear yt1 hy9 HGT HST
        generalize wt.drew = wu at *
        iterate 6 (refine t_take (v := ?_) rfl (by rfl) ?_ ?_; rotate_left; (intro w hS; have hS1 := hS; go_simp; try with_reducible rfl); simp only [Act.put, List.setIfInBounds_toArray, List.set_cons_zero, List.set_cons_succ])
        refine t_one rfl (by rfl) ?_
        intro K hK
        go_simp
        refine HGU.out.psize.mono ?_
        rintro e wv ⟨rfl, rfl⟩
        refine hK.out _ _ yu1 ?_
        clear hK K
        iterate 1 (refine t_take (v := ?_) rfl (by rfl) ?_ ?_; rotate_left; (intro w hS; have hS1 := hS; go_simp; try with_reducible rfl); simp only [Act.put, List.setIfInBounds_toArray, List.set_cons_zero, List.set_cons_succ])
        refine t_done ?_
        clear yu1
        go_wp2
        go_roundw
        case rel => exact ⟨j + 1, X, by go_num, by omega, hide HGU.out.both, HOK2, by have := HSU.out; omega, by have := HSU.out; omega⟩
        case measure => simp [intOf]; omega
      by_cases hw3 : wv = 3
      · subst hw3
        have hbo : Below wr.heap.size wr (wr.alloc (.cells #[.int .i64 3, .int .i64 idv, .int .i64 t.h, .slice a1 t.args.length c1] 49)) := (Below.refl _ _).alloc (Nat.le_refl _) _
        have HG4 := hide (hP.out.guest (so := .cells #[.int .i64 3, .int .i64 idv, .int .i64 t.h, .slice a1 t.args.length c1] 49 (0, 0)) hbo (World.alloc_heap_new wr (.cells #[.int .i64 3, .int .i64 idv, .int .i64 t.h, .slice a1 t.args.length c1] 49)))
        have HKB := hide (fun (W : World) (h : W.heap[wr.heap.size]? = some (.cells #[.int .i64 3, .int .i64 idv, .int .i64 t.h, .slice a1 t.args.length c1] 49 (0, 0))) => (box4 h).2)
        have HS4 := hide hbo.size
        clear hbo
        go_wp2
        refine drawn_tree (fun W => W.cell? ⟨wr.heap.size, 0, none⟩ = some (.int .i64 3) ∧ W.cell? ⟨wr.heap.size, 1, none⟩ = some (.int .i64 idv) ∧ W.cell? ⟨wr.heap.size, 2, none⟩ = some (.int .i64 t.h) ∧ W.cell? ⟨wr.heap.size, 3, none⟩ = some (.slice a1 t.args.length c1)) (.take 0 <| .take 1 <| .take 2 <| .take 3 <| .take 4 <| .take 5 <| .take 6 <| .take 7 <| .take 8 <| .take 9 <| .take 10 <| .take 11 <| .take 12 <| .take 13 <| .take 14 <| .take 15 <| .take 16 <| .take 17 <| .take 18 <| .take 19 <| .take 20 <| .take 21 <| .take 22 <| .take 23 <| .take 24 <| .take 25 <| .take 26 <| .take 27 <| .take 28 <| .take 29 <| .take 30 <| .take 31 <| .take 32 <| .take 33 <| .done) (by kernel_rfl) (by kernel_rfl) (by kernel_rfl) (by kernel_rfl) (fun _ _ _ _ _ h => h) (HKB.out _ (HG4.out.below (Below.refl _ _).drew).obj) ?_
        have HG5 := hide (HG4.out.below (Below.refl _ _).drew)
        have HS5 := hide (show wr.heap.size ≤ (wr.alloc (.cells #[.int .i64 3, .int .i64 idv, .int .i64 t.h, .slice a1 t.args.length c1] 49)).drew.heap.size from HS4.out)
        clear HG4 HS4
        generalize (wr.alloc (.cells #[.int .i64 3, .int .i64 idv, .int .i64 t.h, .slice a1 t.args.length c1] 49)).drew = w4 at *
        iterate 4 (refine t_take (v := ?_) rfl (by rfl) ?_ ?_; rotate_left; (intro w hS; obtain ⟨hS1, hS2, hS3, hS4⟩ := hS; go_simp; try with_reducible rfl); simp only [Act.put, List.setIfInBounds_toArray, List.set_cons_zero, List.set_cons_succ])
        iterate 13 (refine t_skip rfl (by rfl) ?_; simp only [Act.put, List.setIfInBounds_toArray, List.set_cons_zero, List.set_cons_succ])
        iterate 6 (refine t_take (v := ?_) rfl (by rfl) ?_ ?_; rotate_left; (intro w hS; obtain ⟨hS1, hS2, hS3, hS4⟩ := hS; go_simp; try with_reducible rfl); simp only [Act.put, List.setIfInBounds_toArray, List.set_cons_zero, List.set_cons_succ])
        iterate 9 (refine t_skip rfl (by rfl) ?_; simp only [Act.put, List.setIfInBounds_toArray, List.set_cons_zero, List.set_cons_succ])
        iterate 2 (refine t_take (v := ?_) rfl (by rfl) ?_ ?_; rotate_left; (intro w hS; obtain ⟨hS1, hS2, hS3, hS4⟩ := hS; go_simp; try with_reducible rfl); simp only [Act.put, List.setIfInBounds_toArray, List.set_cons_zero, List.set_cons_succ])
        refine t_done ?_
        obtain ⟨-, z0, z1, z2, z3⟩ := box4 HG5.out.obj
        go_wp2_with fail
        refine (HG5.out.inst (by have := HOK.out.2.2; omega) t _ htz (HG5.out.terms HBB.out.1 HT.out)).mono ?_
        rintro e w5 ⟨fa, fc, l, rfl, hi5, hf5, g5, b5⟩
        have HI5 := hide hi5
        have HF5 := hide hf5
        have HG6 := hide g5
        have HS6 := hide (Nat.le_trans HS5.out b5.size)
        obtain ⟨-, y0, y1, y2, y3⟩ := box4 g5.obj
        clear hi5 hf5 g5 b5 HG5 HS5 z0 z1 z2 z3
        go_wp2_with fail
        refine (PTwo.rfind 1 (by omega) _ (by simp) HG6.out HOK.out (by have := h30; omega) t _ htz (HG6.out.terms HBB.out.1 HT.out) HF5.out).mono ?_
        rintro e w7 ⟨ga, gc, rfl, hi7, g7, b7⟩
        have HI7 := hide (HI5.out.below b7)
        have HJ7 := hide hi7
        have HG7 := hide g7
        have HS7 := hide (Nat.le_trans HS6.out b7.size)
        clear hi7 g7 b7 HG6 HS6 HI5 HF5 y0 y1 y2 y3
        generalize errT t = er
        have hne : (er != er) = false := by simp
        go_wp2_with fail
        refine (rints_calls l l fa ga fc gc w7 HI7.out HJ7.out).mono ?_
        rintro e wt ⟨rfl, bt⟩
        rw [show decide (l = l) = true by simp]
        have HGT := hide (HG7.out.below bt)
        have HST := hide (Nat.le_trans HS7.out bt.size)
        have HOK2 := hide HOK.out.more
        clear bt HG7 HS7 HI7 HJ7 HOK
        go_wp2

        obtain ⟨vl9, a9, c9, hy9⟩ := HGT.out.len
        obtain ⟨-, -, yt1, -, -⟩ := box2 hy9
        refine drawn_tree (fun W' => W'.cell? ⟨yb, 1, none⟩ = some (.slice a9 X.length c9)) (.take 0 (.take 2 (.take 3 (.take 4 (.take 5 (.take 6 (.one 1 (.take 7 .done)))))))) (by kernel_rfl) (by kernel_rfl) (by kernel_rfl) (by kernel_rfl) (fun _ _ _ _ _ h => h) yt1 ?_
        have HGU := hide (HGT.out.below (Below.refl _ _).drew)
        have yu1 : wt.drew.cell? ⟨yb, 1, none⟩ = some (.slice a9 X.length c9) := yt1
        have HSU := hide (show wr.heap.size ≤ wt.drew.heap.size from HST.out)
        clear yt1 hy9 HGT HST
        generalize wt.drew = wu at *
        iterate 6 (refine t_take (v := ?_) rfl (by rfl) ?_ ?_; rotate_left; (intro w hS; have hS1 := hS; go_simp; try with_reducible rfl); simp only [Act.put, List.setIfInBounds_toArray, List.set_cons_zero, List.set_cons_succ])
        refine t_one rfl (by rfl) ?_
        intro K hK
        go_simp
        refine HGU.out.psize.mono ?_
        rintro e wv ⟨rfl, rfl⟩
        refine hK.out _ _ yu1 ?_
        clear hK K
        iterate 1 (refine t_take (v := ?_) rfl (by rfl) ?_ ?_; rotate_left; (intro w hS; have hS1 := hS; go_simp; try with_reducible rfl); simp only [Act.put, List.setIfInBounds_toArray, List.set_cons_zero, List.set_cons_succ])
        refine t_done ?_
        clear yu1
        go_wp2
        go_roundw
        case rel => exact ⟨j + 1, X, by go_num, by omega, hide HGU.out.both, HOK2, by have := HSU.out; omega, by have := HSU.out; omega⟩
        case measure => simp [intOf]; omega
      by_cases hw4 : wv = 4
      · subst hw4
        have hbo : Below wr.heap.size wr (wr.alloc (.cells #[.int .i64 4, .int .i64 idv, .int .i64 t.h, .slice a1 t.args.length c1] 49)) := (Below.refl _ _).alloc (Nat.le_refl _) _
        have HG4 := hide (hP.out.guest (so := .cells #[.int .i64 4, .int .i64 idv, .int .i64 t.h, .slice a1 t.args.length c1] 49 (0, 0)) hbo (World.alloc_heap_new wr (.cells #[.int .i64 4, .int .i64 idv, .int .i64 t.h, .slice a1 t.args.length c1] 49)))
        have HKB := hide (fun (W : World) (h : W.heap[wr.heap.size]? = some (.cells #[.int .i64 4, .int .i64 idv, .int .i64 t.h, .slice a1 t.args.length c1] 49 (0, 0))) => (box4 h).2)
        have HS4 := hide hbo.size
        clear hbo
        go_wp2
        refine drawn_tree (fun W => W.cell? ⟨wr.heap.size, 0, none⟩ = some (.int .i64 4) ∧ W.cell? ⟨wr.heap.size, 1, none⟩ = some (.int .i64 idv) ∧ W.cell? ⟨wr.heap.size, 2, none⟩ = some (.int .i64 t.h) ∧ W.cell? ⟨wr.heap.size, 3, none⟩ = some (.slice a1 t.args.length c1)) (.take 0 <| .take 1 <| .take 2 <| .take 3 <| .take 4 <| .take 5 <| .take 6 <| .take 7 <| .take 8 <| .take 9 <| .take 10 <| .take 11 <| .take 12 <| .take 13 <| .take 14 <| .take 15 <| .take 16 <| .take 17 <| .take 18 <| .take 19 <| .take 20 <| .take 21 <| .take 22 <| .take 23 <| .take 24 <| .take 25 <| .take 26 <| .take 27 <| .take 28 <| .take 29 <| .take 30 <| .take 31 <| .take 32 <| .take 33 <| .done) (by kernel_rfl) (by kernel_rfl) (by kernel_rfl) (by kernel_rfl) (fun _ _ _ _ _ h => h) (HKB.out _ (HG4.out.below (Below.refl _ _).drew).obj) ?_
        have HG5 := hide (HG4.out.below (Below.refl _ _).drew)
        have HS5 := hide (show wr.heap.size ≤ (wr.alloc (.cells #[.int .i64 4, .int .i64 idv, .int .i64 t.h, .slice a1 t.args.length c1] 49)).drew.heap.size from HS4.out)
        clear HG4 HS4
        generalize (wr.alloc (.cells #[.int .i64 4, .int .i64 idv, .int .i64 t.h, .slice a1 t.args.length c1] 49)).drew = w4 at *
        iterate 4 (refine t_take (v := ?_) rfl (by rfl) ?_ ?_; rotate_left; (intro w hS; obtain ⟨hS1, hS2, hS3, hS4⟩ := hS; go_simp; try with_reducible rfl); simp only [Act.put, List.setIfInBounds_toArray, List.set_cons_zero, List.set_cons_succ])
        iterate 13 (refine t_skip rfl (by rfl) ?_; simp only [Act.put, List.setIfInBounds_toArray, List.set_cons_zero, List.set_cons_succ])
        iterate 6 (refine t_take (v := ?_) rfl (by rfl) ?_ ?_; rotate_left; (intro w hS; obtain ⟨hS1, hS2, hS3, hS4⟩ := hS; go_simp; try with_reducible rfl); simp only [Act.put, List.setIfInBounds_toArray, List.set_cons_zero, List.set_cons_succ])
        iterate 9 (refine t_skip rfl (by rfl) ?_; simp only [Act.put, List.setIfInBounds_toArray, List.set_cons_zero, List.set_cons_succ])
        iterate 2 (refine t_take (v := ?_) rfl (by rfl) ?_ ?_; rotate_left; (intro w hS; obtain ⟨hS1, hS2, hS3, hS4⟩ := hS; go_simp; try with_reducible rfl); simp only [Act.put, List.setIfInBounds_toArray, List.set_cons_zero, List.set_cons_succ])
        refine t_done ?_
        obtain ⟨-, z0, z1, z2, z3⟩ := box4 HG5.out.obj
        go_wp2_with fail
        refine (HG5.out.unif (by have := HOK.out.2.2; omega) t _ htz (HG5.out.terms HBB.out.1 HT.out)).mono ?_
        rintro e w5 ⟨fa, fc, l, rfl, hi5, hf5, g5, b5⟩
        have HI5 := hide hi5
        have HF5 := hide hf5
        have HG6 := hide g5
        have HS6 := hide (Nat.le_trans HS5.out b5.size)
        obtain ⟨-, y0, y1, y2, y3⟩ := box4 g5.obj
        clear hi5 hf5 g5 b5 HG5 HS5 z0 z1 z2 z3
        go_wp2_with fail
        refine (PTwo.rfind 2 (by omega) _ (by simp) HG6.out HOK.out (by have := h30; omega) t _ htz (HG6.out.terms HBB.out.1 HT.out) HF5.out).mono ?_
        rintro e w7 ⟨ga, gc, rfl, hi7, g7, b7⟩
        have HI7 := hide (HI5.out.below b7)
        have HJ7 := hide hi7
        have HG7 := hide g7
        have HS7 := hide (Nat.le_trans HS6.out b7.size)
        clear hi7 g7 b7 HG6 HS6 HI5 HF5 y0 y1 y2 y3
        generalize errT t = er
        have hne : (er != er) = false := by simp
        go_wp2_with fail
        refine (rints_calls l l fa ga fc gc w7 HI7.out HJ7.out).mono ?_
        rintro e wt ⟨rfl, bt⟩
        rw [show decide (l = l) = true by simp]
        have HGT := hide (HG7.out.below bt)
        have HST := hide (Nat.le_trans HS7.out bt.size)
        have HOK2 := hide HOK.out.more
        clear bt HG7 HS7 HI7 HJ7 HOK
        go_wp2

        obtain ⟨vl9, a9, c9, hy9⟩ := HGT.out.len
        obtain ⟨-, -, yt1, -, -⟩ := box2 hy9
        refine drawn_tree (fun W' => W'.cell? ⟨yb, 1, none⟩ = some (.slice a9 X.length c9)) (.take 0 (.take 2 (.take 3 (.take 4 (.take 5 (.take 6 (.one 1 (.take 7 .done)))))))) (by kernel_rfl) (by kernel_rfl) (by kernel_rfl) (by kernel_rfl) (fun _ _ _ _ _ h => h) yt1 ?_
        have HGU := hide (HGT.out.below (Below.refl _ _).drew)
        have yu1 : wt.drew.cell? ⟨yb, 1, none⟩ = some (.slice a9 X.length c9) := yt1
        have HSU := hide (show wr.heap.size ≤ wt.drew.heap.size from HST.out)
        clear yt1 hy9 HGT HST
        generalize wt.drew = wu at *
        iterate 6 (refine t_take (v := ?_) rfl (by rfl) ?_ ?_; rotate_left; (intro w hS; have hS1 := hS; go_simp; try with_reducible rfl); simp only [Act.put, List.setIfInBounds_toArray, List.set_cons_zero, List.set_cons_succ])
        refine t_one rfl (by rfl) ?_
        intro K hK
        go_simp
        refine HGU.out.psize.mono ?_
        rintro e wv ⟨rfl, rfl⟩
        refine hK.out _ _ yu1 ?_
        clear hK K
        iterate 1 (refine t_take (v := ?_) rfl (by rfl) ?_ ?_; rotate_left; (intro w hS; have hS1 := hS; go_simp; try with_reducible rfl); simp only [Act.put, List.setIfInBounds_toArray, List.set_cons_zero, List.set_cons_succ])
        refine t_done ?_
        clear yu1
        go_wp2
        go_roundw
        case rel => exact ⟨j + 1, X, by go_num, by omega, hide HGU.out.both, HOK2, by have := HSU.out; omega, by have := HSU.out; omega⟩
        case measure => simp [intOf]; omega
      have e0 : (wv == 0) = false := by simp [hw0]
      have e1 : (wv == 1) = false := by simp [hw1]
      have e2 : (wv == 2) = false := by simp [hw2]
      have e3 : (wv == 3) = false := by simp [hw3]
      have e4 : (wv == 4) = false := by simp [hw4]
      by_cases hge : wv ≥ 2
      · have e5 : decide (wv ≥ 2) = true := by simpa using hge
        have e6 : decide (wv ≤ 4) = false := by simp; omega
        clear hge hw0 hw1 hw2 hw3 hw4
        have hbo : Below wr.heap.size wr (wr.alloc (.cells #[.int .i64 wv, .int .i64 idv, .int .i64 t.h, .slice a1 t.args.length c1] 49)) := (Below.refl _ _).alloc (Nat.le_refl _) _
        have HG4 := hide (hP.out.guest (so := .cells #[.int .i64 wv, .int .i64 idv, .int .i64 t.h, .slice a1 t.args.length c1] 49 (0, 0)) hbo (World.alloc_heap_new wr (.cells #[.int .i64 wv, .int .i64 idv, .int .i64 t.h, .slice a1 t.args.length c1] 49)))
        have HKB := hide (fun (W : World) (h : W.heap[wr.heap.size]? = some (.cells #[.int .i64 wv, .int .i64 idv, .int .i64 t.h, .slice a1 t.args.length c1] 49 (0, 0))) => (box4 h).2)
        have HS4 := hide hbo.size
        clear hbo
        go_wp2
        refine drawn_tree (fun W => W.cell? ⟨wr.heap.size, 0, none⟩ = some (.int .i64 wv) ∧ W.cell? ⟨wr.heap.size, 1, none⟩ = some (.int .i64 idv) ∧ W.cell? ⟨wr.heap.size, 2, none⟩ = some (.int .i64 t.h) ∧ W.cell? ⟨wr.heap.size, 3, none⟩ = some (.slice a1 t.args.length c1)) (.take 0 <| .take 1 <| .take 2 <| .take 3 <| .take 4 <| .take 5 <| .take 6 <| .take 7 <| .take 8 <| .take 9 <| .take 10 <| .take 11 <| .take 12 <| .take 13 <| .take 14 <| .take 15 <| .take 16 <| .take 17 <| .take 18 <| .take 19 <| .take 20 <| .take 21 <| .take 22 <| .take 23 <| .take 24 <| .take 25 <| .take 26 <| .take 27 <| .take 28 <| .take 29 <| .take 30 <| .take 31 <| .take 32 <| .take 33 <| .done) (by kernel_rfl) (by kernel_rfl) (by kernel_rfl) (by kernel_rfl) (fun _ _ _ _ _ h => h) (HKB.out _ (HG4.out.below (Below.refl _ _).drew).obj) ?_
        have HG5 := hide (HG4.out.below (Below.refl _ _).drew)
        have HS5 := hide (show wr.heap.size ≤ (wr.alloc (.cells #[.int .i64 wv, .int .i64 idv, .int .i64 t.h, .slice a1 t.args.length c1] 49)).drew.heap.size from HS4.out)
        clear HG4 HS4
        generalize (wr.alloc (.cells #[.int .i64 wv, .int .i64 idv, .int .i64 t.h, .slice a1 t.args.length c1] 49)).drew = w4 at *
        iterate 4 (refine t_take (v := ?_) rfl (by rfl) ?_ ?_; rotate_left; (intro w hS; obtain ⟨hS1, hS2, hS3, hS4⟩ := hS; go_simp; try with_reducible rfl); simp only [Act.put, List.setIfInBounds_toArray, List.set_cons_zero, List.set_cons_succ])
        iterate 13 (refine t_skip rfl (by rfl) ?_; simp only [Act.put, List.setIfInBounds_toArray, List.set_cons_zero, List.set_cons_succ])
        iterate 6 (refine t_take (v := ?_) rfl (by rfl) ?_ ?_; rotate_left; (intro w hS; obtain ⟨hS1, hS2, hS3, hS4⟩ := hS; go_simp; try with_reducible rfl); simp only [Act.put, List.setIfInBounds_toArray, List.set_cons_zero, List.set_cons_succ])
        iterate 9 (refine t_skip rfl (by rfl) ?_; simp only [Act.put, List.setIfInBounds_toArray, List.set_cons_zero, List.set_cons_succ])
        iterate 2 (refine t_take (v := ?_) rfl (by rfl) ?_ ?_; rotate_left; (intro w hS; obtain ⟨hS1, hS2, hS3, hS4⟩ := hS; go_simp; try with_reducible rfl); simp only [Act.put, List.setIfInBounds_toArray, List.set_cons_zero, List.set_cons_succ])
        refine t_done ?_
        obtain ⟨-, z0, z1, z2, z3⟩ := box4 HG5.out.obj
        have HGT := HG5
        have HST := HS5
        have HOK2 := hide HOK.out.more
        clear HG5 HS5 HOK
        generalize w4 = wt at *
        go_wp2
        clear z0 z1 z2 z3

        obtain ⟨vl9, a9, c9, hy9⟩ := HGT.out.len
        obtain ⟨-, -, yt1, -, -⟩ := box2 hy9
        refine drawn_tree (fun W' => W'.cell? ⟨yb, 1, none⟩ = some (.slice a9 X.length c9)) (.take 0 (.take 2 (.take 3 (.take 4 (.take 5 (.take 6 (.one 1 (.take 7 .done)))))))) (by kernel_rfl) (by kernel_rfl) (by kernel_rfl) (by kernel_rfl) (fun _ _ _ _ _ h => h) yt1 ?_
        have HGU := hide (HGT.out.below (Below.refl _ _).drew)
        have yu1 : wt.drew.cell? ⟨yb, 1, none⟩ = some (.slice a9 X.length c9) := yt1
        have HSU := hide (show wr.heap.size ≤ wt.drew.heap.size from HST.out)
        clear yt1 hy9 HGT HST
        generalize wt.drew = wu at *
        iterate 6 (refine t_take (v := ?_) rfl (by rfl) ?_ ?_; rotate_left; (intro w hS; have hS1 := hS; go_simp; try with_reducible rfl); simp only [Act.put, List.setIfInBounds_toArray, List.set_cons_zero, List.set_cons_succ])
        refine t_one rfl (by rfl) ?_
        intro K hK
        go_simp
        refine HGU.out.psize.mono ?_
        rintro e wv ⟨rfl, rfl⟩
        refine hK.out _ _ yu1 ?_
        clear hK K
        iterate 1 (refine t_take (v := ?_) rfl (by rfl) ?_ ?_; rotate_left; (intro w hS; have hS1 := hS; go_simp; try with_reducible rfl); simp only [Act.put, List.setIfInBounds_toArray, List.set_cons_zero, List.set_cons_succ])
        refine t_done ?_
        clear yu1
        go_wp2
        go_roundw
        case rel => exact ⟨j + 1, X, by go_num, by omega, hide HGU.out.both, HOK2, by have := HSU.out; omega, by have := HSU.out; omega⟩
        case measure => simp [intOf]; omega
      · have e5 : decide (wv ≥ 2) = false := by simpa using hge
        clear hge hw0 hw1 hw2 hw3 hw4
        have hbo : Below wr.heap.size wr (wr.alloc (.cells #[.int .i64 wv, .int .i64 idv, .int .i64 t.h, .slice a1 t.args.length c1] 49)) := (Below.refl _ _).alloc (Nat.le_refl _) _
        have HG4 := hide (hP.out.guest (so := .cells #[.int .i64 wv, .int .i64 idv, .int .i64 t.h, .slice a1 t.args.length c1] 49 (0, 0)) hbo (World.alloc_heap_new wr (.cells #[.int .i64 wv, .int .i64 idv, .int .i64 t.h, .slice a1 t.args.length c1] 49)))
        have HKB := hide (fun (W : World) (h : W.heap[wr.heap.size]? = some (.cells #[.int .i64 wv, .int .i64 idv, .int .i64 t.h, .slice a1 t.args.length c1] 49 (0, 0))) => (box4 h).2)
        have HS4 := hide hbo.size
        clear hbo
        go_wp2
        refine drawn_tree (fun W => W.cell? ⟨wr.heap.size, 0, none⟩ = some (.int .i64 wv) ∧ W.cell? ⟨wr.heap.size, 1, none⟩ = some (.int .i64 idv) ∧ W.cell? ⟨wr.heap.size, 2, none⟩ = some (.int .i64 t.h) ∧ W.cell? ⟨wr.heap.size, 3, none⟩ = some (.slice a1 t.args.length c1)) (.take 0 <| .take 1 <| .take 2 <| .take 3 <| .take 4 <| .take 5 <| .take 6 <| .take 7 <| .take 8 <| .take 9 <| .take 10 <| .take 11 <| .take 12 <| .take 13 <| .take 14 <| .take 15 <| .take 16 <| .take 17 <| .take 18 <| .take 19 <| .take 20 <| .take 21 <| .take 22 <| .take 23 <| .take 24 <| .take 25 <| .take 26 <| .take 27 <| .take 28 <| .take 29 <| .take 30 <| .take 31 <| .take 32 <| .take 33 <| .done) (by kernel_rfl) (by kernel_rfl) (by kernel_rfl) (by kernel_rfl) (fun _ _ _ _ _ h => h) (HKB.out _ (HG4.out.below (Below.refl _ _).drew).obj) ?_
        have HG5 := hide (HG4.out.below (Below.refl _ _).drew)
        have HS5 := hide (show wr.heap.size ≤ (wr.alloc (.cells #[.int .i64 wv, .int .i64 idv, .int .i64 t.h, .slice a1 t.args.length c1] 49)).drew.heap.size from HS4.out)
        clear HG4 HS4
        generalize (wr.alloc (.cells #[.int .i64 wv, .int .i64 idv, .int .i64 t.h, .slice a1 t.args.length c1] 49)).drew = w4 at *
        iterate 4 (refine t_take (v := ?_) rfl (by rfl) ?_ ?_; rotate_left; (intro w hS; obtain ⟨hS1, hS2, hS3, hS4⟩ := hS; go_simp; try with_reducible rfl); simp only [Act.put, List.setIfInBounds_toArray, List.set_cons_zero, List.set_cons_succ])
        iterate 13 (refine t_skip rfl (by rfl) ?_; simp only [Act.put, List.setIfInBounds_toArray, List.set_cons_zero, List.set_cons_succ])
        iterate 6 (refine t_take (v := ?_) rfl (by rfl) ?_ ?_; rotate_left; (intro w hS; obtain ⟨hS1, hS2, hS3, hS4⟩ := hS; go_simp; try with_reducible rfl); simp only [Act.put, List.setIfInBounds_toArray, List.set_cons_zero, List.set_cons_succ])
        iterate 9 (refine t_skip rfl (by rfl) ?_; simp only [Act.put, List.setIfInBounds_toArray, List.set_cons_zero, List.set_cons_succ])
        iterate 2 (refine t_take (v := ?_) rfl (by rfl) ?_ ?_; rotate_left; (intro w hS; obtain ⟨hS1, hS2, hS3, hS4⟩ := hS; go_simp; try with_reducible rfl); simp only [Act.put, List.setIfInBounds_toArray, List.set_cons_zero, List.set_cons_succ])
        refine t_done ?_
        obtain ⟨-, z0, z1, z2, z3⟩ := box4 HG5.out.obj
        have HGT := HG5
        have HST := HS5
        have HOK2 := hide HOK.out.more
        clear HG5 HS5 HOK
        generalize w4 = wt at *
        go_wp2
        clear z0 z1 z2 z3

        obtain ⟨vl9, a9, c9, hy9⟩ := HGT.out.len
        obtain ⟨-, -, yt1, -, -⟩ := box2 hy9
        refine drawn_tree (fun W' => W'.cell? ⟨yb, 1, none⟩ = some (.slice a9 X.length c9)) (.take 0 (.take 2 (.take 3 (.take 4 (.take 5 (.take 6 (.one 1 (.take 7 .done)))))))) (by kernel_rfl) (by kernel_rfl) (by kernel_rfl) (by kernel_rfl) (fun _ _ _ _ _ h => h) yt1 ?_
        have HGU := hide (HGT.out.below (Below.refl _ _).drew)
        have yu1 : wt.drew.cell? ⟨yb, 1, none⟩ = some (.slice a9 X.length c9) := yt1
        have HSU := hide (show wr.heap.size ≤ wt.drew.heap.size from HST.out)
        clear yt1 hy9 HGT HST
        generalize wt.drew = wu at *
        iterate 6 (refine t_take (v := ?_) rfl (by rfl) ?_ ?_; rotate_left; (intro w hS; have hS1 := hS; go_simp; try with_reducible rfl); simp only [Act.put, List.setIfInBounds_toArray, List.set_cons_zero, List.set_cons_succ])
        refine t_one rfl (by rfl) ?_
        intro K hK
        go_simp
        refine HGU.out.psize.mono ?_
        rintro e wv ⟨rfl, rfl⟩
        refine hK.out _ _ yu1 ?_
        clear hK K
        iterate 1 (refine t_take (v := ?_) rfl (by rfl) ?_ ?_; rotate_left; (intro w hS; have hS1 := hS; go_simp; try with_reducible rfl); simp only [Act.put, List.setIfInBounds_toArray, List.set_cons_zero, List.set_cons_succ])
        refine t_done ?_
        clear yu1
        go_wp2
        go_roundw
        case rel => exact ⟨j + 1, X, by go_num, by omega, hide HGU.out.both, HOK2, by have := HSU.out; omega, by have := HSU.out; omega⟩
        case measure => simp [intOf]; omega
    · have hB := hP.out.frame
      go_wp2_with fail
      refine (awake17_calls wr).mono ?_
      rintro e w3 ⟨rfl, b3⟩
      have HB3 := hide (more_below hB b3)
      go_wp2
      go_ret
      exact ⟨rfl, HB3.out⟩
end Go.Proofs.YtneecjikdghchaaDoor
