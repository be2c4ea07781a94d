/- What the proof of the law rests on: contracts of the functions, plain laws, and words. -/
import Derived.Test.YthplndalbfcbbaaKFeatureDoesL2
import Derived.Test.YthplndalbfcbbaaKFeatureDoesL0
import Derived.Test.YthplndalbfcbbaaKFeatureDoesXRead4
set_option linter.unusedSimpArgs false
set_option linter.unusedVariables false
namespace Go.Proofs.Ythplndalbfcbbaa
open Go.RowKit
def litsD (ls : List Lt) : D := .row 5 (ls.map Lt.d)
theorem Lt.oneD (x : Lt) : OneD x.d := by
  intro A w cs h u hu
  obtain ⟨s1, s2, rfl, h1, h2⟩ := repLt.1 h
  obtain ⟨a1, c1, rfl, _⟩ := h1.shape
  obtain ⟨a2, c2, rfl, _⟩ := h2.shape
  simp at hu
  rcases hu with rfl | rfl | rfl | rfl | rfl <;> rfl
theorem All2.at {β γ : Type} {R : β → γ → Prop} {a : List β} {c : List γ} (h : All2 R a c) : ∀ (j : Nat) (h1 : j < a.length) (h2 : j < c.length), R a[j] c[j] := by
  induction h with
  | nil => intro j h1; simp at h1
  | cons h _ ih =>
    intro j h1 h2
    cases j with
    | zero => exact h
    | succ j => exact ih j (by simpa using h1) (by simpa using h2)
theorem flat_one : ∀ {css : List (List Value)}, (∀ cs, cs ∈ css → cs.length = 1) → ∀ (j : Nat) (s : Value), css[j]? = some [s] → css.flatten[j]? = some s
  | c :: css, h, 0, s, hj => by
    simp only [List.getElem?_cons_zero, Option.some.injEq] at hj
    subst hj; rfl
  | c :: css, h, j + 1, s, hj => by
    have hc := h c (by simp)
    rw [List.flatten_cons, List.getElem?_append_right (by omega), hc]
    simpa using flat_one (fun cs hcs => h cs (by simp [hcs])) j s (by simpa using hj)
def RZ (rb : Nat) (vi vc : Value) : Nat → Prop := fun b => b = rb ∨ vi.ownBlock = some b ∨ vc.ownBlock = some b
structure RIx (w : World) (rb mb : Nat) (gs : List Sy) (ids : List Int) (cs : List (List Lt)) (sg vi vc : Value) (base : Nat) : Prop where
  x : w.heap[rb]? = some (.cells #[sg, vi, vc] 80 (0, 0))
  g : Syms (fun b => base ≤ b) w sg gs
  i : w.ownsRow base 3 1 vi ids.length (ids.map (Value.int .i64))
  c : OwnD (fun b => b = mb ∨ b = rb ∨ vi.ownBlock = some b) w base 63 1 vc (cs.map litsD)
  rb0 : base ≤ rb
  mb0 : base ≤ mb
  ne1 : vi.ownBlock ≠ some rb
  ne2 : vc.ownBlock ≠ some rb
  ne3 : vi.ownBlock ≠ some mb
  ne4 : vc.ownBlock ≠ some mb
  ne5 : rb ≠ mb
  ne6 : ∀ b, vi.ownBlock = some b → vc.ownBlock ≠ some b
  len : cs.length = ids.length
theorem RIx.lt {w : World} {rb mb : Nat} {gs : List Sy} {ids : List Int} {cs : List (List Lt)} {sg vi vc : Value} {base : Nat} (h : RIx w rb mb gs ids cs sg vi vc base) : ∀ b, RZ rb vi vc b → base ≤ b ∧ b < w.heap.size := by
  rintro b (rfl | hb | hb)
  · exact ⟨h.rb0, (Array.getElem?_eq_some_iff.1 h.x).1⟩
  · exact h.i.lt b hb
  · exact h.c.lt b hb
theorem RIx.keep {w w' : World} {rb mb : Nat} {gs : List Sy} {ids : List Int} {cs : List (List Lt)} {sg vi vc : Value} {base : Nat} (h : RIx w rb mb gs ids cs sg vi vc base) (hk : Keep (fun b => b ≠ mb) w w') : RIx w' rb mb gs ids cs sg vi vc base :=
  { h with
    x := hk.obj h.ne5 h.x
    g := RepD.frame (fun b hb hlt => hk.block b hlt (by have := h.mb0; omega)) (fun _ _ h => h) _ _ h.g
    i := ownsRow_keep h.i hk (fun b hb e => h.ne3 (e ▸ hb))
    c := h.c.keep hk (fun b _ hb e => hb (.inl e)) (fun b hb e => h.ne4 (e ▸ hb)) }
theorem RIx.below {w w' : World} {rb mb : Nat} {gs : List Sy} {ids : List Int} {cs : List (List Lt)} {sg vi vc : Value} {base : Nat} (h : RIx w rb mb gs ids cs sg vi vc base) (hB : Below w.heap.size w w') : RIx w' rb mb gs ids cs sg vi vc base :=
  h.keep (Keep.of_below hB)
theorem RIx.lits {w : World} {rb mb : Nat} {gs : List Sy} {ids : List Int} {cs : List (List Lt)} {sg vi vc : Value} {base : Nat} (h : RIx w rb mb gs ids cs sg vi vc base) :
    ∃ a c, vc = .slice a cs.length c ∧ ∀ j (hj : j < cs.length), ∃ b s, a = some ⟨b, 0, none⟩ ∧ w.cell? ⟨b, j, none⟩ = some s ∧ Lits (fun b => b = mb ∨ b = rb ∨ vi.ownBlock = some b ∨ vc.ownBlock = some b) w s cs[j] := by
  obtain ⟨css, h1, h2, h3⟩ := h.c
  rw [List.length_map] at h1
  obtain ⟨a, c, hv⟩ := h.c.shape
  rw [List.length_map] at hv
  refine ⟨a, c, hv, fun j hj => ?_⟩
  have hl := h3.length
  have hjd : j < (cs.map litsD).length := by simpa using hj
  have hr := h3.at j (by rw [hl]; exact hjd) hjd
  simp only [List.getElem_map, litsD] at hr
  have hr' := hr
  simp only [RepD] at hr'
  obtain ⟨a', n', c', e1, -⟩ := hr'
  rcases h1.2 with ⟨h0, h0'⟩ | ⟨g, cap, cur, q1, hg, hh, hn, hm, hs, ht⟩
  · omega
  · rw [q1] at hv
    simp only [Value.slice.injEq] at hv
    refine ⟨g, .slice a' n' c', hv.1.symm, ?_, ?_⟩
    · have hf : css.flatten[j]? = some (.slice a' n' c') := by
        exact flat_one h2 j _ (by rw [List.getElem?_eq_getElem (by rw [hl]; exact hjd), e1])
      have hfl : j < css.flatten.length := (List.getElem?_eq_some_iff.1 hf).1
      have := h1.cells (g := g) (by rw [q1]; rfl) j (css.flatten[j]) (by simp)
      rw [add_plain] at this
      rw [this, ← hf, List.getElem?_eq_getElem hfl]
    · show RepD _ w (.row 5 (cs[j].map Lt.d)) _
      rw [e1] at hr
      exact RepD.bar hr fun b _ hb => by
        rcases hb with hb | hb | hb | hb
        · exact .inl (.inl hb)
        · exact .inl (.inr (.inl hb))
        · exact .inl (.inr (.inr hb))
        · exact .inr hb
def atG (id : Int) : List Int → Int → Int
  | [], _ => -1
  | y :: r, k => if y = id then k else atG id r (k + 1)
def atI (ids : List Int) (id : Int) : Int := atG id ids 0
theorem atG_drop (ids : List Int) (id : Int) (j : Nat) (h : j < ids.length) : atG id (ids.drop j) j = if ids[j] = id then (j : Int) else atG id (ids.drop (j + 1)) ((j + 1 : Nat) : Int) := by
  rw [List.drop_eq_getElem_cons h, atG]; rfl
set_option maxHeartbeats 4000000 in
set_option maxRecDepth 100000 in
theorem rat_calls (ids : List Int) (rb : Nat) (base : Nat) (sg vi vc : Value) (id : Int) (w : World) (hl : ids.length ≤ 1000) (hx : w.heap[rb]? = some (.cells #[sg, vi, vc] 80 (0, 0))) (hi : w.ownsRow base 3 1 vi ids.length (ids.map (Value.int .i64))) :
    Calls Try.prog 129 #[.pointer (some ⟨rb, 0, none⟩), .int .i64 id] w fun e w' => e = .returned (.int .i64 (atI ids id)) ∧ w' = w := by
  obtain ⟨a, c, rfl, -, hin⟩ := ints_of_row hi
  obtain ⟨-, q0, q1, q2⟩ := box3 hx
  have HI := hide hin
  clear hi hin hx
  go_enter Try.func129, Try.ntmps129
  go_wp2
  go_loopw [5] (fun i wr => ∃ j : Nat, j ≤ ids.length ∧ i = .int .i64 j ∧ Hid (atG id (ids.drop j) j = atI ids id) ∧ Hid (wr = w)) (fun i _ => ids.length - (intOf i).toNat)
  case atStart => exact ⟨0, by omega, rfl, hide rfl, hide rfl⟩
  case round =>
    obtain ⟨j, hj, rfl, hn, hw⟩ := hrel
    obtain rfl := hw.out
    by_cases hlt : j < ids.length
    · obtain ⟨b, off, rfl, y0⟩ := HI.out j hlt
      have hd := hn.out
      rw [atG_drop ids id j hlt] at hd
      by_cases he : ids[j] = id
      · rw [if_pos he] at hd
        have HR := hide hd
        clear hd
        have HE := hide he
        generalize ids[j] = y at *
        subst he
        go_wp2
        go_ret
        exact ⟨ret_int HR.out, rfl⟩
      · rw [if_neg he] at hd
        have HN := hide hd
        clear hd
        have hne : (ids[j] == id) = false := by simpa using he
        generalize ids[j] = y at *
        clear he
        go_wp2
        go_roundw
        case rel => exact ⟨j + 1, by omega, by go_num, HN, by first | exact hide rfl | exact hide trivial⟩
        case measure => simp [intOf]; omega
    · obtain rfl : j = ids.length := by omega
      have hd := hn.out
      rw [List.drop_eq_nil_of_le (Nat.le_refl _), atG] at hd
      have HR := hide hd
      clear hd
      go_wp2
      go_ret
      exact ⟨ret_int HR.out, rfl⟩
end Go.Proofs.Ythplndalbfcbbaa
set_option linter.unusedSimpArgs false
set_option linter.unusedVariables false
namespace Go.Proofs.Ythplndalbfcbbaa
open Go.RowKit
theorem OwnD.bar {A B : Nat → Prop} {w : World} {base e k : Nat} {v : Value} {ds : List D} (h : OwnD A w base e k v ds) (hB : ∀ b, b < w.heap.size → B b → A b) : OwnD B w base e k v ds := by
  obtain ⟨css, h1, h2, h3⟩ := h
  exact ⟨css, h1, h2, h3.imp fun cs d hd => RepD.bar hd fun b hlt hb => by
    rcases hb with hb | hb
    · exact .inl (hB b hlt hb)
    · exact .inr hb⟩
theorem OwnD.snoc1 {A : Nat → Prop} {W w' : World} {base e k : Nat} {v v' : Value} {ds : List D} {d : D} {cs : List Value} {css : List (List Value)} (h1 : W.ownsRow base e k v ds.length css.flatten) (h2 : ∀ cs, cs ∈ css → cs.length = k) (h3 : All2 (fun cs d => RepD (fun b => A b ∨ v.ownBlock = some b) W d cs) css ds) (hcs : cs.length = k) (hd : RepD (fun b => A b ∨ v.ownBlock = some b) W d cs)
    (r1 : w'.ownsRow base e k v' (ds.length + 1) (css.flatten ++ cs)) (r2 : Keep (fun b => v.ownBlock ≠ some b) W w') (r3 : ∀ b, v'.ownBlock = some b → v.ownBlock = some b ∨ W.heap.size < b) : OwnD A w' base e k v' (ds ++ [d]) := by
  have hf : ∀ c d, RepD (fun b => A b ∨ v.ownBlock = some b) W d c → RepD (fun b => A b ∨ v'.ownBlock = some b) w' d c := fun c d h => h.frame (fun b hb hlt => r2.block b hlt (fun h => hb (.inr h))) (fun b hb h => by
    rcases h with h | h
    · exact .inl h
    · rcases r3 b h with h | h
      · exact .inr h
      · omega)
  refine ⟨css ++ [cs], by simpa using r1, fun c hc => ?_, (h3.imp hf).append (.cons (hf _ _ hd) .nil)⟩
  rcases List.mem_append.1 hc with h | h
  · exact h2 c h
  · simp at h; rw [h]; exact hcs
theorem size_set (w : World) (a : Addr) (v : Value) : (w.setCell a v).heap.size = w.heap.size := by simp [World.setCell]
theorem box3_frozen {w : World} {b : Nat} {x y z : Value} {t : TypeId} (h : w.heap[b]? = some (.cells #[x, y, z] t (0, 0))) (i : Nat) : w.frozen? ⟨b, i, none⟩ = false := by simp [World.frozen?, h]
theorem box3_set1 {w : World} {b : Nat} {x y z v : Value} {t : TypeId} (h : w.heap[b]? = some (.cells #[x, y, z] t (0, 0))) : (w.setCell ⟨b, 1, none⟩ v).heap[b]? = some (.cells #[x, v, z] t (0, 0)) := by
  simp [World.setCell, Array.getElem?_modify, h]
theorem box3_set2 {w : World} {b : Nat} {x y z v : Value} {t : TypeId} (h : w.heap[b]? = some (.cells #[x, y, z] t (0, 0))) : (w.setCell ⟨b, 2, none⟩ v).heap[b]? = some (.cells #[x, y, v] t (0, 0)) := by
  simp [World.setCell, Array.getElem?_modify, h]
theorem check10_calls (gs : List Sy) (ls : List Lt) (A B : Nat → Prop) (sg sl : Value) (w : World) (ho : LtsOk ls) (hg : Syms A w sg gs) (hl : Lits B w sl ls) :
    Calls Try.prog 123 #[sg, sl] w fun e w' => e = .returned (.int .i64 (clauseC gs ls)) ∧ Below w.heap.size w w' := by
  obtain ⟨a0, c0, rfl, -, g9⟩ := hg.shape
  obtain ⟨a1, c1, rfl, -, -⟩ := hl.shape
  obtain ⟨e0, l0, k0⟩ := cg_of hg
  obtain ⟨e1, l1, k1⟩ := cl_of hl
  rw [e0, e1]
  obtain ⟨f0, hk⟩ := check10 gs g9 ls ho
  exact PA.elenchusref10_Check.calls f0 a0 c0 (toGL gs) a1 c1 (toLL ls) _ w k0 l0 k1 l1 (hk f0 (Nat.le_refl _))
def rputC (gs : List Sy) (ids : List Int) (id : Int) (ls : List Lt) : Int := if clauseC gs ls ≠ 0 then clauseC gs ls else if 0 ≤ atI ids id then 1 else 0
def rputI (gs : List Sy) (ids : List Int) (id : Int) (ls : List Lt) : List Int := if rputC gs ids id ls = 0 then ids ++ [id] else ids
def rputL (gs : List Sy) (ids : List Int) (cs : List (List Lt)) (id : Int) (ls : List Lt) : List (List Lt) := if rputC gs ids id ls = 0 then cs ++ [ls] else cs
def RPost (w w' : World) (rb mb : Nat) (gs : List Sy) (ids : List Int) (cs : List (List Lt)) (sg vi vc : Value) (base : Nat) : Prop :=
  ∃ vi' vc', RIx w' rb mb gs ids cs sg vi' vc' base ∧ Keep (fun b => ¬ RZ rb vi vc b) w w' ∧ ∀ b, RZ rb vi' vc' b → RZ rb vi vc b ∨ w.heap.size ≤ b
set_option maxHeartbeats 4000000 in
set_option maxRecDepth 100000 in
theorem rput_calls (gs : List Sy) (ids : List Int) (cs : List (List Lt)) (sg vi vc : Value) (rb mb base : Nat) (id : Int) (ls : List Lt) (sl : Value) (w : World) (hl : ids.length ≤ 100) (ho : LtsOk ls) (h40 : ls.length ≤ 40) (hmb : mb < w.heap.size)
    (hx : RIx w rb mb gs ids cs sg vi vc base) (hls : Lits (fun b => base ≤ b) w sl ls) :
    Calls Try.prog 69 #[.pointer (some ⟨rb, 0, none⟩), .int .i64 id, sl] w fun e w' => e = .returned (.int .i64 (rputC gs ids id ls)) ∧
      RPost w w' rb mb gs (rputI gs ids id ls) (rputL gs ids cs id ls) sg vi vc base := by
  have HPI := hide (show rputI gs ids id ls = if rputC gs ids id ls = 0 then ids ++ [id] else ids from rfl)
  have HPL := hide (show rputL gs ids cs id ls = if rputC gs ids id ls = 0 then cs ++ [ls] else cs from rfl)
  have HX := hide hx
  have HC := hide (check10_calls gs ls _ _ sg sl w ho hx.g hls)
  have HPC := hide (show rputC gs ids id ls = if clauseC gs ls ≠ 0 then clauseC gs ls else if 0 ≤ atI ids id then 1 else 0 from rfl)
  have HLS := hide hls
  obtain ⟨-, q0, q1, q2⟩ := box3 hx.x
  obtain ⟨al, cl, rfl, hlc, hlm⟩ := hls.shape
  clear hx hls
  go_enter Try.func69, Try.ntmps69
  go_wp2_with fail
  refine HC.out.mono ?_
  rintro e w1 ⟨rfl, b1⟩
  have HX1 := hide (HX.out.below b1)
  have HLS1 := hide (HLS.out.below b1)
  have hs1 := b1.size
  have HB1 := hide b1
  clear HC HLS q0 q1 q2 b1
  obtain ⟨-, q0, q1, q2⟩ := box3 HX1.out.x
  generalize hcc : clauseC gs ls = cc at *
  by_cases hc0 : cc = 0
  rotate_left
  · have hne : (cc != 0) = true := by simpa using hc0
    have HR := hide (show rputC gs ids id ls = cc by rw [HPC.out, if_pos hc0])
    have HZ := hide hc0
    clear hc0
    go_wp2
    go_ret
    refine ⟨ret_int HR.out.symm, ?_⟩
    rw [HPI.out, HPL.out, HR.out, if_neg HZ.out, if_neg HZ.out]
    exact ⟨vi, vc, HX1.out, Keep.of_below HB1.out, fun b hb => .inl hb⟩
  subst hc0
  go_wp2_with fail
  refine (rat_calls ids rb base sg vi vc id w1 (by omega) HX1.out.x HX1.out.i).mono ?_
  rintro e w1' ⟨rfl, rfl⟩
  have HAT := hide (show atI ids id = atI ids id from rfl)
  generalize hat : atI ids id = at_ at HAT HPC ⊢
  by_cases hge : 0 ≤ at_
  · have hd : decide (at_ ≥ 0) = true := by simpa using hge
    have HR := hide (show rputC gs ids id ls = 1 by rw [HPC.out, if_neg (by simp), if_pos hge])
    clear hge
    go_wp2
    go_ret
    refine ⟨ret_int HR.out.symm, ?_⟩
    rw [HPI.out, HPL.out, HR.out, if_neg (by decide), if_neg (by decide)]
    exact ⟨vi, vc, HX1.out, Keep.of_below HB1.out, fun b hb => .inl hb⟩
  have hd : decide (at_ ≥ 0) = false := by simpa using hge
  have HR := hide (show rputC gs ids id ls = 0 by rw [HPC.out, if_neg (by simp), if_neg hge])
  clear hge hat HAT HPC hcc
  have hpi := HPI.out
  have hpl := HPL.out
  rw [HR.out, if_pos rfl] at hpi hpl
  have HPI := hide hpi
  have HPL := hide hpl
  clear hpi hpl
  have HLT := hide (show ∀ b, (b = mb ∨ RZ rb vi vc b) → base ≤ b ∧ b < w1'.heap.size from fun b hb => by
    rcases hb with rfl | hb
    · exact ⟨HX1.out.mb0, by omega⟩
    · exact HX1.out.lt b hb)
  have HD := hide (show RepD (fun b => (b = mb ∨ RZ rb vi vc b) ∨ (Value.slice none 0 0).ownBlock = some b) w1' (.row 5 (ls.map Lt.d)) [.slice al ls.length cl] from RepD.bar HLS1.out fun b _ hb => by
    rcases hb with hb | hb
    · exact (HLT.out b hb).1
    · simp [Value.ownBlock] at hb)
  have HN := hide (show ∀ b, (Value.slice none 0 0).ownBlock ≠ some b from fun b h => by simp [Value.ownBlock] at h)
  have HBS := hide (show ∀ n, w1'.heap.size ≤ n → base ≤ n from fun n hn => by have := (HLT.out mb (.inl rfl)); omega)
  obtain ⟨css, g1, g2, g3⟩ := HX1.out.c
  have G1 := hide g1
  have G2 := hide g2
  have G3 := hide g3
  have HCL := hide (show (cs.map litsD).length = cs.length by simp)
  have hcl := HX1.out.len
  clear g1 g2 g3
  have hk9 : (ids.length + 1) * 8 ≤ 140737488355328 := by omega
  have hk8 : ((cs.map litsD).length + 1) * 24 ≤ 140737488355328 := by rw [List.length_map]; omega
  go_wp2_with (at_builtin; first
    | (refine app_all_pl rfl (.tmp 22) (.tmp 23) 63 rfl w1'.heap.size 142 (.agg #[.bool false, .int .i64 0, .slice none 0 0, .int .i64 0, .slice none 0 0]) 5 72 Try.underlying63 (by kernel_rfl) rfl (by decide) (v := .slice none 0 0) (xv := .slice al ls.length cl) rfl rfl (OwnD.nil (fun b => b = mb ∨ RZ rb vi vc b) w1' w1'.heap.size 142 5) HD.out (fun d hd => by obtain ⟨z, -, rfl⟩ := List.mem_map.1 hd; exact Lt.oneD z) (by simp [maxLen]; omega) (by simp; omega) (Nat.le_refl _) ?_; intro vo w2 o2 k2 ob2 sh2; obtain ⟨oa, oc, rfl⟩ := sh2; have X2 := hide (k2.obj (HN.out rb) HX1.out.x); obtain ⟨-, p0, p1, p2⟩ := box3 X2.out)
    | (refine app_pl rfl _ _ 37 rfl base 3 (.int .i64 0) 1 8 Try.underlying37 (by kernel_rfl) rfl (by decide) (by decide) vi ids.length _ rfl (ownsRow_keep HX1.out.i k2 fun b _ => HN.out b) 1 1 _ rfl (by simp [Value.oneCell']) rfl hk9 (HBS.out _ k2.size) ?_; intro vi' w3 r1 r2 r3 r4; obtain ⟨ia, ic, rfl⟩ := r4; have X3 := hide (r2.obj HX1.out.ne1 X2.out); have X4 := hide (box3_set1 (v := .slice ia (ids.length + 1) ic) X3.out); obtain ⟨-, p0, p1, p2⟩ := box3 X4.out; obtain ⟨-, s0, s1, s2⟩ := box3 X3.out; have z1 := box3_frozen X3.out 1)
    | (refine app_pl rfl _ _ 78 rfl base 63 (.slice none 0 0) 1 24 Try.underlying78 (by kernel_rfl) rfl (by decide) (by decide) vc (cs.map litsD).length _ rfl (ownsRow_keep (ownsRow_keep (ownsRow_keep G1.out k2 fun b _ => HN.out b) r2 fun b hb h => HX1.out.ne6 b h hb) ((Keep.refl _ _).setCell (p := ⟨rb, 1, none⟩) (by simp) (.slice ia (ids.length + 1) ic) : Keep (fun b => b ≠ rb) _ _) fun b hb h => HX1.out.ne2 (h ▸ hb)) 1 1 _ rfl (by simp [Value.oneCell']) (by rw [size_set]; rfl) hk8 (HBS.out _ (by rw [size_set]; exact Nat.le_trans k2.size r2.size)) ?_; intro vc' w5 t1 t2 t3 t4; obtain ⟨ca, cc', rfl⟩ := t4; have X5 := hide (t2.obj HX1.out.ne2 X4.out); have X6 := hide (box3_set2 (v := .slice ca ((cs.map litsD).length + 1) cc') X5.out); obtain ⟨-, p0, p1, p2⟩ := box3 X6.out; obtain ⟨-, s0, s1, s2⟩ := box3 X5.out; have z1 := box3_frozen X5.out 2))
  go_ret
  refine ⟨ret_int HR.out.symm, ?_⟩
  rw [HPI.out, HPL.out]
  generalize hvi : Value.slice ia (ids.length + 1) ic = vi' at *
  rw [show ids.length + 1 = (cs.map litsD).length + 1 from by rw [HCL.out, hcl]]
  generalize hvc : Value.slice ca ((cs.map litsD).length + 1) cc' = vc' at *
  generalize hvo : Value.slice oa ls.length oc = vo at *
  have hx := HX1.out
  have K1 : Keep (fun _ => True) w1' w2 := k2.mono fun b _ _ => HN.out b
  have K4 : Keep (fun b => b ≠ rb ∧ vi.ownBlock ≠ some b) w2 (w3.setCell ⟨rb, 1, none⟩ vi') := (r2.mono fun b _ h => h.2).trans (((Keep.refl _ _).setCell (p := ⟨rb, 1, none⟩) (by simp) vi' : Keep (fun b => b ≠ rb) w3 _).mono fun b _ h => h.1)
  have K5 : Keep (fun b => b ≠ rb ∧ vi.ownBlock ≠ some b ∧ vc.ownBlock ≠ some b) w2 w5 := (K4.mono fun b _ h => ⟨h.1, h.2.1⟩).trans (t2.mono fun b _ h => h.2.2)
  have K6 : Keep (fun b => b ≠ rb) w5 (w5.setCell ⟨rb, 2, none⟩ vc') := (Keep.refl _ _).setCell (p := ⟨rb, 2, none⟩) (by simp) vc'
  have S2 := k2.size
  have S3 := r2.size
  have S4 : (w3.setCell ⟨rb, 1, none⟩ vi').heap.size = w3.heap.size := size_set _ _ _
  have S5 := t2.size
  rw [S4] at S5 t3
  have L1 := HLT.out
  have lvi := r1.lt
  have lvc := t1.lt
  have lvi0 := fun b h => L1 b (.inr (.inr (.inl h)))
  have lvc0 := fun b h => L1 b (.inr (.inr (.inr h)))
  have lrb := L1 rb (.inr (.inl rfl))
  have n1 : vi'.ownBlock ≠ some rb := fun h => by
    rcases r3 _ h with h | h
    · exact hx.ne1 h
    · omega
  have n2 : vc'.ownBlock ≠ some rb := fun h => by
    rcases t3 _ h with h | h
    · exact hx.ne2 h
    · omega
  have n3 : vi'.ownBlock ≠ some mb := fun h => by
    rcases r3 _ h with h | h
    · exact hx.ne3 h
    · omega
  have n4 : vc'.ownBlock ≠ some mb := fun h => by
    rcases t3 _ h with h | h
    · exact hx.ne4 h
    · omega
  have n7 : ∀ b, vi'.ownBlock = some b → vc.ownBlock ≠ some b := fun b h hc => by
    rcases r3 _ h with h | h
    · exact hx.ne6 b h hc
    · have := (lvc0 b hc).2; omega
  have n6 : ∀ b, vi'.ownBlock = some b → vc'.ownBlock ≠ some b := fun b h hc => by
    rcases t3 _ hc with hc | hc
    · exact n7 b h hc
    · have := (lvi b h).2; omega
  -- the clauses, in the world ahead of their append
  have hB : ∀ cs' d, RepD (fun b => (b = mb ∨ b = rb ∨ vi.ownBlock = some b) ∨ vc.ownBlock = some b) w1' d cs' → RepD (fun b => (b = mb ∨ b = rb ∨ vi.ownBlock = some b ∨ vi'.ownBlock = some b) ∨ vc.ownBlock = some b) (w3.setCell ⟨rb, 1, none⟩ vi') d cs' := fun cs' d h => by
    have h1 : RepD (fun b => (b = mb ∨ b = rb ∨ vi.ownBlock = some b) ∨ vc.ownBlock = some b) w2 d cs' := h.frame (fun b _ hlt => K1.block b hlt trivial) (fun _ _ h => h)
    have h2 : RepD (fun b => (b = mb ∨ b = rb ∨ vi.ownBlock = some b ∨ vi'.ownBlock = some b) ∨ vc.ownBlock = some b) w2 d cs' := RepD.bar h1 fun b hlt hb => by
      rcases hb with (hb | hb | hb | hb) | hb
      · exact .inl (.inl hb)
      · exact .inl (.inr (.inl hb))
      · exact .inl (.inr (.inr hb))
      · rcases r3 _ hb with hb | hb
        · exact .inl (.inr (.inr hb))
        · omega
      · exact .inr hb
    exact h2.frame (fun b hb hlt => K4.block b hlt ⟨fun e => hb (.inl (.inr (.inl e))), fun e => hb (.inl (.inr (.inr (.inl e))))⟩) (fun _ _ h => h)
  have hO : RepD (fun b => (b = mb ∨ b = rb ∨ vi.ownBlock = some b ∨ vi'.ownBlock = some b) ∨ vc.ownBlock = some b) (w3.setCell ⟨rb, 1, none⟩ vi') (litsD ls) [vo] := by
    have o3 : OwnD (fun b => b = mb ∨ RZ rb vi vc b) w2 w1'.heap.size 142 5 vo (ls.map Lt.d) := by
      have := o2
      simp only [List.length_nil, Nat.zero_add, List.length_map, List.nil_append] at this
      rwa [hvo] at this
    have h1 : RepD (fun b => b = mb ∨ RZ rb vi vc b) w2 (litsD ls) [vo] := o3.rep fun b hb => (L1 b hb).2
    have h2 : RepD (fun b => (b = mb ∨ b = rb ∨ vi.ownBlock = some b ∨ vi'.ownBlock = some b) ∨ vc.ownBlock = some b) w2 (litsD ls) [vo] := RepD.bar h1 fun b hlt hb => by
      rcases hb with (hb | hb | hb | hb) | hb
      · exact .inl hb
      · exact .inr (.inl hb)
      · exact .inr (.inr (.inl hb))
      · rcases r3 _ hb with hb | hb
        · exact .inr (.inr (.inl hb))
        · omega
      · exact .inr (.inr (.inr hb))
    exact h2.frame (fun b hb hlt => K4.block b hlt ⟨fun e => hb (.inl (.inr (.inl e))), fun e => hb (.inl (.inr (.inr (.inl e))))⟩) (fun _ _ h => h)
  have hc5 : OwnD (fun b => b = mb ∨ b = rb ∨ vi.ownBlock = some b ∨ vi'.ownBlock = some b) w5 base 63 1 vc' (cs.map litsD ++ [litsD ls]) :=
    OwnD.snoc1 (ownsRow_keep (ownsRow_keep (ownsRow_keep G1.out k2 fun b _ => HN.out b) r2 fun b hb h => hx.ne6 b h hb) ((Keep.refl _ _).setCell (p := ⟨rb, 1, none⟩) (by simp) vi' : Keep (fun b => b ≠ rb) _ _) fun b hb h => hx.ne2 (h ▸ hb)) G2.out (G3.out.imp hB) rfl hO t1 t2 (fun b h => by
      rcases t3 b h with h | h
      · exact .inl h
      · exact .inr (by rw [S4]; exact h))
  have hc6 := hc5.keep K6 (fun b _ hb e => hb (.inr (.inl e))) (fun b hb e => n2 (e ▸ hb))
  have hi5 := ownsRow_keep (ownsRow_keep (ownsRow_keep r1 ((Keep.refl _ _).setCell (p := ⟨rb, 1, none⟩) (by simp) vi' : Keep (fun b => b ≠ rb) _ _) fun b hb h => n1 (h ▸ hb)) t2 fun b hb h => n7 b hb h) K6 fun b hb h => n1 (h ▸ hb)
  have KT : Keep (fun b => ¬ RZ rb vi vc b) w (w5.setCell ⟨rb, 2, none⟩ vc') := (Keep.of_below HB1.out).trans (((K1.mono fun _ _ _ => trivial).trans (K5.mono fun b _ h => ⟨fun e => h (.inl e), fun e => h (.inr (.inl e)), fun e => h (.inr (.inr e))⟩)).trans (K6.mono fun b _ h e => h (.inl e)))
  refine ⟨vi', vc', ⟨X6.out, ?_, by simpa using hi5, ?_, hx.rb0, hx.mb0, n1, n2, n3, n4, hx.ne5, n6, by simp [hx.len]⟩, KT, ?_⟩
  · refine RepD.frame (fun b hb hlt => KT.block b hlt fun hz => hb ?_) (fun _ _ h => h) _ _ HX.out.g
    exact (HX.out.lt b hz).1
  · rw [List.map_append]
    exact hc6.bar fun b _ hb => by
      rcases hb with hb | hb | hb
      · exact .inl hb
      · exact .inr (.inl hb)
      · exact .inr (.inr (.inr hb))
  · rintro b (hb | hb | hb)
    · exact .inl (.inl hb)
    · rcases r3 _ hb with hb | hb
      · exact .inl (.inr (.inl hb))
      · exact .inr (by omega)
    · rcases t3 _ hb with hb | hb
      · exact .inl (.inr (.inr hb))
      · exact .inr (by omega)
end Go.Proofs.Ythplndalbfcbbaa
set_option linter.unusedSimpArgs false
set_option linter.unusedVariables false
namespace Go.Proofs.Ythplndalbfcbbaa
open Go.RowKit
theorem take_len {α : Type} (l : List α) (k : Nat) (h : k ≤ l.length) : (l.take k).length = k := by rw [List.length_take]; omega
theorem erase_same {α : Type} (l : List α) (k : Nat) (h : k < l.length) : (l.take (k + 1)).eraseIdx k = (l.take k).eraseIdx k := by
  have h1 := take_len l k (by omega)
  rw [List.take_succ_eq_append_getElem h, List.eraseIdx_append_of_length_le (by omega), List.eraseIdx_of_length_le (l := l.take k) (by omega), h1, Nat.sub_self]
  simp
theorem erase_step {α : Type} (l : List α) (j k : Nat) (h : j < l.length) (hne : j ≠ k) : (l.take (j + 1)).eraseIdx k = (l.take j).eraseIdx k ++ [l[j]] := by
  have h1 := take_len l j (by omega)
  rw [List.take_succ_eq_append_getElem h]
  by_cases hk : k < j
  · rw [List.eraseIdx_append_of_lt_length (by omega)]
  · rw [List.eraseIdx_append_of_length_le (by omega), List.eraseIdx_of_length_le (l := l.take j) (by omega), h1]
    obtain ⟨m, hm⟩ : ∃ m, k - j = m + 1 := ⟨k - j - 1, by omega⟩
    rw [hm]; simp
theorem atG_range (id : Int) : ∀ (l : List Int) (k : Int), 0 ≤ k → atG id l k = -1 ∨ (k ≤ atG id l k ∧ atG id l k < k + l.length)
  | [], k, _ => .inl rfl
  | y :: r, k, h => by
    rw [atG]
    split
    · exact .inr ⟨Int.le_refl _, by simp only [List.length_cons]; omega⟩
    · rcases atG_range id r (k + 1) (by omega) with h1 | h1
      · exact .inl h1
      · exact .inr ⟨by omega, by simp only [List.length_cons]; omega⟩
theorem atI_range (ids : List Int) (id : Int) : atI ids id = -1 ∨ (0 ≤ atI ids id ∧ atI ids id < ids.length) := by
  have := atG_range id ids 0 (Int.le_refl _)
  simpa [atI] using this
theorem ownsRow_base {w : World} {base base' e k n : Nat} {v : Value} {xs : List Value} (h : w.ownsRow base e k v n xs) (hb : base' ≤ base) : w.ownsRow base' e k v n xs := by
  refine ⟨h.1, ?_⟩
  rcases h.2 with h2 | ⟨g, cap, cur, q1, q2, q3⟩
  · exact .inl h2
  · exact .inr ⟨g, cap, cur, q1, by omega, q3⟩
theorem OwnD.base {A : Nat → Prop} {w : World} {base base' e k : Nat} {v : Value} {ds : List D} (h : OwnD A w base e k v ds) (hb : base' ≤ base) : OwnD A w base' e k v ds := by
  obtain ⟨css, h1, h2, h3⟩ := h
  exact ⟨css, ownsRow_base h1 hb, h2, h3⟩
def rdropC (ids : List Int) (id : Int) : Int := if 0 ≤ atI ids id then 0 else 6
def rdropI (ids : List Int) (id : Int) : List Int := if 0 ≤ atI ids id then ids.eraseIdx (atI ids id).toNat else ids
def rdropL (ids : List Int) (cs : List (List Lt)) (id : Int) : List (List Lt) := if 0 ≤ atI ids id then cs.eraseIdx (atI ids id).toNat else cs
set_option maxHeartbeats 4000000 in
set_option maxRecDepth 100000 in
theorem rdrop_calls (gs : List Sy) (ids : List Int) (cs : List (List Lt)) (sg vi vc : Value) (rb mb base : Nat) (id : Int) (w : World) (hl : ids.length ≤ 100) (hmb : mb < w.heap.size)
    (hx : RIx w rb mb gs ids cs sg vi vc base) :
    Calls Try.prog 71 #[.pointer (some ⟨rb, 0, none⟩), .int .i64 id] w fun e w' => e = .returned (.int .i64 (rdropC ids id)) ∧
      RPost w w' rb mb gs (rdropI ids id) (rdropL ids cs id) sg vi vc base := by
  have HPC := hide (show rdropC ids id = if 0 ≤ atI ids id then 0 else 6 from rfl)
  have HPI := hide (show rdropI ids id = if 0 ≤ atI ids id then ids.eraseIdx (atI ids id).toNat else ids from rfl)
  have HPL := hide (show rdropL ids cs id = if 0 ≤ atI ids id then cs.eraseIdx (atI ids id).toNat else cs from rfl)
  have HAR := hide (atI_range ids id)
  have HX := hide hx
  have HCA := hide (rat_calls ids rb base sg vi vc id w (by omega) hx.x hx.i)
  clear hx
  go_enter Try.func71, Try.ntmps71
  go_wp2_with fail
  refine HCA.out.mono ?_
  rintro e w1 ⟨rfl, rfl⟩
  clear HCA
  generalize hat : atI ids id = at_ at HAR HPC HPI HPL ⊢
  by_cases hge : at_ < 0
  · have hd : decide (at_ < 0) = true := by simpa using hge
    have hpc := HPC.out
    have hpi := HPI.out
    have hpl := HPL.out
    rw [if_neg (by omega)] at hpc hpi hpl
    have HPC := hide hpc
    have HPI := hide hpi
    have HPL := hide hpl
    clear hge hpc hpi hpl
    go_wp2
    go_ret
    refine ⟨ret_int HPC.out.symm, ?_⟩
    rw [HPI.out, HPL.out]
    exact ⟨vi, vc, HX.out, Keep.refl _ _, fun b hb => .inl hb⟩
  have hd : decide (at_ < 0) = false := by simpa using hge
  obtain ⟨k, rfl⟩ : ∃ k : Nat, at_ = k := ⟨at_.toNat, by omega⟩
  have hkl : k < ids.length := by have := HAR.out; omega
  have HZ := hide (show 0 ≤ (k : Int) by omega)
  have hpc := HPC.out
  have hpi := HPI.out
  have hpl := HPL.out
  rw [if_pos HZ.out] at hpc hpi hpl
  rw [Int.toNat_natCast] at hpi hpl
  have HPC := hide hpc
  have HPI := hide hpi
  have HPL := hide hpl
  clear hge hpc hpi hpl HAR hat hd
  obtain ⟨-, q0, q1, q2⟩ := box3 HX.out.x
  obtain ⟨ai, ci, hvi, hin⟩ := ints_of_row HX.out.i
  obtain ⟨ac, cc, hvc, hlits⟩ := HX.out.lits
  have hlen := HX.out.len
  have HIN := hide hin
  have HLI := hide hlits
  subst hvi hvc
  have hrb := (HX.out.lt rb (.inl rfl)).2
  clear hin hlits
  have hd : decide ((k : Int) < 0) = false := by simp
  have HLE := hide (show ∀ j, ((ids.take j).eraseIdx k).length ≤ 100 ∧ ((cs.take j).eraseIdx k).length ≤ 100 from fun j => by
    have e1 := List.length_eraseIdx_le (ids.take j) k
    have e2 := List.length_eraseIdx_le (cs.take j) k
    rw [List.length_take] at e1 e2
    omega)
  go_wp2
  go_loopw [6, 7, 8] (fun v6 v7 i wr => ∃ j : Nat, j ≤ ids.length ∧ i = .int .i64 j ∧ Hid (wr.ownsRow w1.heap.size 3 1 v6 ((ids.take j).eraseIdx k).length (((ids.take j).eraseIdx k).map (Value.int .i64))) ∧ Hid (OwnD (fun b => b = mb ∨ b = rb ∨ w1.heap.size ≤ b) wr w1.heap.size 63 1 v7 (((cs.take j).eraseIdx k).map litsD)) ∧ Hid (Below w1.heap.size w1 wr) ∧ Hid (∀ b, v6.ownBlock = some b → v7.ownBlock ≠ some b)) (fun _ _ i _ => ids.length - (intOf i).toNat)
  case atStart => exact ⟨0, by omega, rfl, hide (World.ownsRow_nil _ _ _ _), hide (OwnD.nil _ _ _ _ _), hide (Below.refl _ _), hide (fun b h => by simp [Value.ownBlock] at h)⟩
  case round =>
    obtain ⟨j, hj, rfl, h6, h7, hB, hne⟩ := hrel
    have XW := hide ((hB.out.block rb hrb).trans HX.out.x)
    obtain ⟨-, p0, p1, p2⟩ := box3 XW.out
    have HSW := hide hB.out.size
    by_cases hlt : j < ids.length
    · by_cases hjk : j = k
      · subst hjk
        have hb1 : ((j : Int) != (j : Int)) = false := by simp
        have E1 := hide (erase_same ids j hlt)
        have E2 := hide (erase_same cs j (by omega))
        go_wp2
        go_roundw
        case rel => exact ⟨j + 1, by omega, by go_num, hide (by rw [E1.out]; exact h6.out), hide (by rw [E2.out]; exact h7.out), hB, hne⟩
        case measure => simp [intOf]; omega
      · have hb1 : ((j : Int) != (k : Int)) = true := by simp; omega
        have E1 := hide (erase_step ids j k hlt hjk)
        have E2 := hide (erase_step cs j k (by omega) hjk)
        obtain ⟨bi, oi, hai, y0⟩ := HIN.out.2 j hlt
        obtain ⟨bc, sc, hac, y1, y2⟩ := HLI.out j (by omega)
        subst hai hac
        have hbi := World.block_lt_of_cell? w1 ⟨bi, oi + j, none⟩ y0
        have hbc := World.block_lt_of_cell? w1 ⟨bc, j, none⟩ y1
        have Y0 := (hB.out.cell (p := ⟨bi, oi + j, none⟩) hbi).trans y0
        have Y1 := (hB.out.cell (p := ⟨bc, j, none⟩) hbc).trans y1
        obtain ⟨al, cl, rfl, -, -⟩ := y2.shape
        have Y2 := hide (show RepD (fun b => b = mb ∨ b = rb ∨ w1.heap.size ≤ b) w1 (litsD cs[j]) [.slice al cs[j].length cl] from RepD.bar y2 fun b hlt hb => by
          rcases hb with hb | hb | hb
          · exact .inl hb
          · exact .inr (.inl hb)
          · omega)
        clear y0 y1 y2
        have hle := HLE.out j
        have hk9 : (((ids.take j).eraseIdx k).length + 1) * 8 ≤ 140737488355328 := by omega
        have hk8 : ((((cs.take j).eraseIdx k).map litsD).length + 1) * 24 ≤ 140737488355328 := by rw [List.length_map]; omega
        obtain ⟨css, g1, g2, g3⟩ := h7.out
        have G1 := hide g1
        have G2 := hide g2
        have G3 := hide g3
        clear g1 g2 g3 h7 hle
        generalize hidj : ids[j] = yi at *
        have hl7 : j < cs.length := by omega
        go_wp2_with (at_builtin; first
          | (refine app_pl rfl _ _ 37 rfl w1.heap.size 3 (.int .i64 0) 1 8 Try.underlying37 (by kernel_rfl) rfl (by decide) (by decide) u6 ((ids.take j).eraseIdx k).length _ rfl h6.out 1 1 _ rfl (by simp [Value.oneCell']) rfl hk9 HSW.out ?_; intro v6' w3 r1 r2 r3 r4; obtain ⟨ia, ic, rfl⟩ := r4; have X3 := hide (r2.obj (fun h => by have := (h6.out.lt rb h).1; omega) XW.out); obtain ⟨-, s0, s1, s2⟩ := box3 X3.out; have Y3 := r2.cell (p := ⟨bc, j, none⟩) (fun h => by have := (h6.out.lt bc h).1; simp only at hbc; omega) Y1)
          | (refine app_pl rfl _ _ 78 rfl w1.heap.size 63 (.slice none 0 0) 1 24 Try.underlying78 (by kernel_rfl) rfl (by decide) (by decide) u7 (((cs.take j).eraseIdx k).map litsD).length _ rfl (ownsRow_keep G1.out r2 fun b hb h => hne.out b h hb) 1 1 _ rfl (by simp [Value.oneCell']) rfl hk8 (Nat.le_trans HSW.out r2.size) ?_; intro v7' w5 t1 t2 t3 t4; obtain ⟨ca, cc2, rfl⟩ := t4))
        generalize hv6 : Value.slice ia (((ids.take j).eraseIdx k).length + 1) ic = v6' at *
        rw [show ((cs.take j).eraseIdx k).length + 1 = (((cs.take j).eraseIdx k).map litsD).length + 1 from by rw [List.length_map]]
        generalize hv7 : Value.slice ca ((((cs.take j).eraseIdx k).map litsD).length + 1) cc2 = v7' at *
        have l6 := h6.out.lt
        have l6' := r1.lt
        have l7 := G1.out.lt
        have S2 := r2.size
        have B3 : Below w1.heap.size w1 w3 := hB.out.trans (r2.below (fun b hb h => by have := (l6 b h).1; omega) HSW.out)
        have B5 : Below w1.heap.size w1 w5 := B3.trans (t2.below (fun b hb h => by have := (l7 b h).1; omega) B3.size)
        have H6 := hide (ownsRow_keep r1 t2 fun b hb h => by
          rcases r3 b hb with h1 | h1
          · exact hne.out b h1 h
          · have := (l7 b h).2; omega)
        have H7 : OwnD (fun b => b = mb ∨ b = rb ∨ w1.heap.size ≤ b) w5 w1.heap.size 63 1 v7' (((cs.take j).eraseIdx k).map litsD ++ [litsD cs[j]]) :=
          OwnD.snoc1 (ownsRow_keep G1.out r2 fun b hb h => hne.out b h hb) G2.out (G3.out.imp fun c d hd => hd.frame (fun b hb hlt => r2.block b hlt fun h => hb (.inl (.inr (.inr (l6 b h).1)))) (fun _ _ h => h)) rfl
            ((RepD.bar (B := fun b => (b = mb ∨ b = rb ∨ w1.heap.size ≤ b) ∨ u7.ownBlock = some b) Y2.out fun b hlt hb => by
              rcases hb with hb | hb
              · exact hb
              · have := (l7 b hb).1; omega).frame (fun b hb hlt => B3.block b (by
                rcases Nat.lt_or_ge b w1.heap.size with h | h
                · exact h
                · exact absurd (.inl (.inr (.inr h))) hb)) (fun _ _ h => h)) t1 t2 t3
        have HNE := hide (show ∀ b, v6'.ownBlock = some b → v7'.ownBlock ≠ some b from fun b h h' => by
          rcases t3 b h' with h1 | h1
          · rcases r3 b h with h2 | h2
            · exact hne.out b h2 h1
            · have := (l7 b h1).2; omega
          · have := (l6' b h).2; omega)
        go_roundw
        case rel => exact ⟨j + 1, by omega, by go_num, hide (by rw [E1.out, List.length_append, List.map_append]; exact H6.out), hide (by rw [E2.out, List.map_append]; exact H7), hide B5, HNE⟩
        case measure => simp [intOf]; omega
    · obtain rfl : j = ids.length := by omega
      have h6' := h6.out
      have h7' := h7.out
      rw [List.take_length] at h6'
      rw [← HX.out.len, List.take_length] at h7'
      obtain ⟨a6, c6, rfl, -⟩ := ints_of_row h6'
      obtain ⟨a7, c7, rfl⟩ := h7'.shape
      have H6 := hide h6'
      have H7 := hide h7'
      have X4 := hide (box3_set1 (v := .slice a6 (ids.eraseIdx k).length c6) XW.out)
      have X5 := hide (box3_set2 (v := .slice a7 ((cs.eraseIdx k).map litsD).length c7) X4.out)
      have z1 := box3_frozen XW.out 1
      have z2 := box3_frozen X4.out 2
      obtain ⟨-, s0, s1, s2⟩ := box3 X4.out
      clear h6' h7' h6 h7
      have e7 : (List.map litsD (cs.eraseIdx k)).length = (cs.eraseIdx k).length := by simp
      go_wp2
      go_ret
      refine ⟨ret_int HPC.out.symm, ?_⟩
      rw [HPI.out, HPL.out]
      generalize hv6 : Value.slice a6 (ids.eraseIdx k).length c6 = v6 at *
      rw [← e7]
      generalize hv7 : Value.slice a7 ((cs.eraseIdx k).map litsD).length c7 = v7 at *
      have hx := HX.out
      have h6 := H6.out
      have h7 := H7.out
      have l6 := h6.lt
      have l7 := h7.lt
      have L1 := hx.lt
      have lrb := L1 rb (.inl rfl)
      have K1 : Keep (fun b => b ≠ rb) wr (wr.setCell ⟨rb, 1, none⟩ v6) := (Keep.refl _ _).setCell (p := ⟨rb, 1, none⟩) (by simp) v6
      have K2 : Keep (fun b => b ≠ rb) (wr.setCell ⟨rb, 1, none⟩ v6) ((wr.setCell ⟨rb, 1, none⟩ v6).setCell ⟨rb, 2, none⟩ v7) := (Keep.refl _ _).setCell (p := ⟨rb, 2, none⟩) (by simp) v7
      have K3 := K1.trans K2
      have n1 : v6.ownBlock ≠ some rb := fun h => by have := (l6 _ h).1; omega
      have n2 : v7.ownBlock ≠ some rb := fun h => by have := (l7 _ h).1; omega
      have n3 : v6.ownBlock ≠ some mb := fun h => by have := (l6 _ h).1; omega
      have n4 : v7.ownBlock ≠ some mb := fun h => by have := (l7 _ h).1; omega
      have KT : Keep (fun b => b ≠ rb) w1 _ := (Keep.of_below hB.out).trans K3
      have hbase : base ≤ w1.heap.size := by omega
      refine ⟨v6, v7, ⟨X5.out, ?_, ?_, ?_, hx.rb0, hx.mb0, n1, n2, n3, n4, hx.ne5, hne.out, ?_⟩, KT.mono fun b _ h e => h (.inl e), ?_⟩
      · exact RepD.frame (fun b hb hlt => KT.block b hlt fun e => hb (by omega)) (fun _ _ h => h) _ _ hx.g
      · have h := ownsRow_keep h6 K3 (fun b hb e => n1 (e ▸ hb))
        exact ownsRow_base h hbase
      · have h := (h7.keep K3 (fun b _ hb e => hb (.inr (.inl e))) (fun b hb e => n2 (e ▸ hb))).bar (B := fun b => b = mb ∨ b = rb ∨ v6.ownBlock = some b) fun b _ hb => by
          rcases hb with hb | hb | hb
          · exact .inl hb
          · exact .inr (.inl hb)
          · exact .inr (.inr (l6 b hb).1)
        exact h.base hbase
      · rw [List.length_eraseIdx_of_lt hkl, List.length_eraseIdx_of_lt (by have := hx.len; omega), hx.len]
      · rintro b (hb | hb | hb)
        · exact .inl (.inl hb)
        · exact .inr (l6 b hb).1
        · exact .inr (l7 b hb).1
end Go.Proofs.Ythplndalbfcbbaa
set_option linter.unusedSimpArgs false
set_option linter.unusedVariables false
namespace Go.Proofs.Ythplndalbfcbbaa
open Go.RowKit Go.Proofs.YthplndalbfcbbaaW.PrintWords
def insR (x : Int) : List Int → List Int
  | [] => [x]
  | y :: r => if y < x then y :: insR x r else x :: y :: r
def sortR (l : List Int) : List Int := l.foldl (fun o x => insR x o) []
theorem insR_length (x : Int) : ∀ l : List Int, (insR x l).length = l.length + 1
  | [] => rfl
  | y :: r => by rw [insR]; split <;> simp [insR_length x r]
theorem insR_perm (x : Int) : ∀ l : List Int, (insR x l).Perm (x :: l)
  | [] => .refl _
  | y :: r => by
    rw [insR]
    split
    · exact ((insR_perm x r).cons y).trans (List.Perm.swap x y r)
    · exact .refl _
theorem insR_sorted (x : Int) : ∀ l : List Int, l.Pairwise (· ≤ ·) → (insR x l).Pairwise (· ≤ ·)
  | [], _ => by simp [insR]
  | y :: r, h => by
    rw [List.pairwise_cons] at h
    rw [insR]
    split
    · rw [List.pairwise_cons]
      refine ⟨fun z hz => ?_, insR_sorted x r h.2⟩
      rcases List.mem_cons.1 ((insR_perm x r).mem_iff.1 hz) with rfl | hz
      · omega
      · exact h.1 z hz
    · rw [List.pairwise_cons, List.pairwise_cons]
      refine ⟨fun z hz => ?_, h⟩
      rcases List.mem_cons.1 hz with rfl | hz
      · omega
      · have := h.1 z hz; omega
theorem foldR_perm : ∀ (l o : List Int), (l.foldl (fun o x => insR x o) o).Perm (l ++ o)
  | [], o => .refl _
  | x :: l, o => by
    rw [List.foldl_cons]
    refine (foldR_perm l (insR x o)).trans ?_
    refine ((insR_perm x o).append_left l).trans ?_
    exact List.perm_middle
theorem foldR_sorted : ∀ (l o : List Int), o.Pairwise (· ≤ ·) → (l.foldl (fun o x => insR x o) o).Pairwise (· ≤ ·)
  | [], _, h => h
  | x :: l, o, h => foldR_sorted l _ (insR_sorted x o h)
theorem sortR_perm (l : List Int) : (sortR l).Perm l := by simpa [sortR] using foldR_perm l []
theorem sortR_sorted (l : List Int) : (sortR l).Pairwise (· ≤ ·) := foldR_sorted l [] .nil
theorem lt_ext : ∀ {a b : List Int}, a.Pairwise (· < ·) → b.Pairwise (· < ·) → (∀ x, x ∈ a ↔ x ∈ b) → a = b
  | [], [], _, _, _ => rfl
  | [], y :: b, _, _, h => absurd ((h y).2 (by simp)) (by simp)
  | x :: a, [], _, _, h => absurd ((h x).1 (by simp)) (by simp)
  | x :: a, y :: b, ha, hb, h => by
    rw [List.pairwise_cons] at ha hb
    have hxy : x = y := by
      have h1 := (h x).1 (by simp)
      have h2 := (h y).2 (by simp)
      rcases List.mem_cons.1 h1 with h1 | h1
      · exact h1
      · rcases List.mem_cons.1 h2 with h2 | h2
        · exact h2.symm
        · have := ha.1 y h2
          have := hb.1 x h1
          omega
    subst hxy
    congr 1
    refine lt_ext ha.2 hb.2 fun z => ⟨fun hz => ?_, fun hz => ?_⟩
    · rcases List.mem_cons.1 ((h z).1 (by simp [hz])) with h1 | h1
      · have := ha.1 z hz; omega
      · exact h1
    · rcases List.mem_cons.1 ((h z).2 (by simp [hz])) with h1 | h1
      · have := hb.1 z hz; omega
      · exact h1
theorem le_nodup_lt {l : List Int} (h : l.Pairwise (· ≤ ·)) (hn : l.Nodup) : l.Pairwise (· < ·) := by
  induction l with
  | nil => exact .nil
  | cons x l ih =>
    rw [List.pairwise_cons] at h ⊢
    rw [List.nodup_cons] at hn
    refine ⟨fun y hy => ?_, ih h.2 hn.2⟩
    have h1 := h.1 y hy
    have h2 : x ≠ y := fun e => hn.1 (e ▸ hy)
    omega
theorem sort_same {a b : List Int} (ha : a.Nodup) (hb : b.Nodup) (h : ∀ x, x ∈ a ↔ x ∈ b) : sortI a = sortR b := by
  refine lt_ext (le_nodup_lt (sortI_sorted a) ?_) (le_nodup_lt (sortR_sorted b) ((sortR_perm b).nodup_iff.2 hb)) fun x => ?_
  · have : (sortI a).Perm a := List.mergeSort_perm _ _
    exact this.nodup_iff.2 ha
  · rw [sortI_mem, (sortR_perm b).mem_iff, h]
theorem sorted16_l1 (l : List Int) (hl : l.length ≤ 1000) (i : Nat) (hi : i < l.length) (out : List Int) (ho : out.length ≤ 1000) (rest : List Int) (hr : Ev (fun k => PA.elenchusref16_Sorted.l0 k l (insR l[i] out) ((i + 1 : Nat) : Int)) rest) :
    ∀ (d m : Nat), m + d = out.length → insR l[i] out = out.take m ++ insR l[i] (out.drop m) → Ev (fun k => PA.elenchusref16_Sorted.l1 k l out (i : Int) (m : Int)) rest := by
  have stop : ∀ m : Nat, m ≤ out.length → insR l[i] out = out.take m ++ l[i] :: out.drop m → Ev (fun k => PA.elenchusref16_Sorted.j2 k l out (i : Int) (m : Int) false) rest := fun m hm he => by
    refine hr.step fun k => ?_
    have hm2 := take_len out m hm
    rw [PA.elenchusref16_Sorted.j2, if_neg (by simp), if_pos (by omega), if_pos (by omega), Int.toNat_natCast]
    simp only [Option.bind_some, List.nil_append, List.length_nil]
    rw [if_pos (by omega), if_pos (by omega), if_pos (by omega), if_pos (by omega), if_pos (by simp only [List.length_append, List.length_drop, List.length_cons, List.length_nil]; omega), rd_nat l i hi, wrap_next (by omega) (by omega), he]
    simp
  intro d
  induction d with
  | zero =>
    intro m hm he
    obtain rfl : m = out.length := by omega
    rw [List.drop_length, insR, List.take_length] at he
    refine (stop out.length (Nat.le_refl _) (by rw [List.take_length, List.drop_length]; exact he)).step fun k => ?_
    rw [PA.elenchusref16_Sorted.l1, if_neg (by omega)]
  | succ d ih =>
    intro m hm he
    have hlt : m < out.length := by omega
    have hd := List.drop_eq_getElem_cons hlt
    by_cases hc : out[m] < l[i]
    · have he2 : insR l[i] out = out.take (m + 1) ++ insR l[i] (out.drop (m + 1)) := by
        rw [he, hd, insR, if_pos hc, List.take_succ_eq_append_getElem hlt, List.append_assoc]; rfl
      refine ((ih (m + 1) (by omega) he2).step (g := fun k => PA.elenchusref16_Sorted.j2 k l out (i : Int) (m : Int) true) fun k => ?_).step fun k => ?_
      · rw [PA.elenchusref16_Sorted.j2, if_pos rfl, wrap_next (by omega) (by omega)]; rfl
      · rw [PA.elenchusref16_Sorted.l1, if_pos (by omega), if_pos (by omega), if_pos (by omega), if_pos (by omega), rd_nat l i hi, rd_nat out m hlt, decide_eq_true hc]
    · have he2 : insR l[i] out = out.take m ++ l[i] :: out.drop m := by
        rw [he, hd, insR, if_neg hc]
      refine (stop m (by omega) he2).step fun k => ?_
      rw [PA.elenchusref16_Sorted.l1, if_pos (by omega), if_pos (by omega), if_pos (by omega), if_pos (by omega), rd_nat l i hi, rd_nat out m hlt, decide_eq_false hc]
theorem foldR_length : ∀ (l o : List Int), (l.foldl (fun o x => insR x o) o).length = l.length + o.length
  | [], o => by simp
  | x :: l, o => by rw [List.foldl_cons, foldR_length l, insR_length, List.length_cons]; omega
theorem sorted16_l0 (l : List Int) (hl : l.length ≤ 1000) : ∀ (d i : Nat), i + d = l.length → Ev (fun k => PA.elenchusref16_Sorted.l0 k l ((l.take i).foldl (fun o x => insR x o) []) (i : Int)) (sortR l)
  | 0, i, hi => by
    rw [List.take_of_length_le (by omega)]
    refine Ev.const.step fun k => ?_
    rw [PA.elenchusref16_Sorted.l0, if_neg (by omega)]; rfl
  | d + 1, i, hi => by
    have hlt : i < l.length := by omega
    have hrec := sorted16_l0 l hl d (i + 1) (by omega)
    rw [List.take_succ_eq_append_getElem hlt, List.foldl_append] at hrec
    simp only [List.foldl_cons, List.foldl_nil] at hrec
    have hlen := foldR_length (l.take i) []
    rw [take_len l i (by omega)] at hlen
    simp only [List.length_nil] at hlen
    refine (sorted16_l1 l hl i hlt _ (by omega) _ hrec ((l.take i).foldl (fun o x => insR x o) []).length 0 (by omega) (by simp)).step fun k => ?_
    rw [PA.elenchusref16_Sorted.l0, if_pos (by omega)]; rfl
theorem sorted16 (l : List Int) (hl : l.length ≤ 1000) : Ev (fun k => PA.elenchusref16_Sorted.f k l) (sortR l) := by
  have := sorted16_l0 l hl l.length 0 (by omega)
  rw [List.take_zero] at this
  exact this
theorem ints_c {w : World} {a : Option Addr} {c : Nat} {l : List Int} (h : IntsIn w a l) : (Kd.int .i64).C w a l.length l := by
  refine ⟨rfl, h.1, fun h0 => ?_⟩
  obtain ⟨b, off, rfl, h1⟩ := h.2 0 h0
  refine ⟨_, rfl, fun j p hp => ?_⟩
  obtain ⟨hj, rfl⟩ := List.getElem?_eq_some_iff.1 hp
  obtain ⟨b', off', e, h2⟩ := h.2 j hj
  simp only [Option.some.injEq, Addr.mk.injEq, and_true] at e
  obtain ⟨rfl, rfl⟩ := e
  refine ⟨[_], rfl, rfl, fun i u hu => ?_⟩
  have hi : i < 1 := by have := (List.getElem?_eq_some_iff.1 hu).1; simpa using this
  obtain rfl : i = 0 := by omega
  simp only [List.getElem?_cons_zero, Option.some.injEq] at hu
  subst hu
  rw [add_flat]
  show w.cell? ⟨b, off + (j * 1 + 0), none⟩ = _
  rw [Nat.mul_one, Nat.add_zero]; exact h2
theorem rsorted_calls (l : List Int) (a : Option Addr) (c : Nat) (w : World) (hl : l.length ≤ 1000) (hc : l.length ≤ c) (h : IntsIn w a l) :
    Calls Try.prog 163 #[.slice a l.length c] w fun e w' => ∃ v, e = .returned v ∧ w'.ownsRow w.heap.size 3 1 v (sortR l).length ((sortR l).map (Value.int .i64)) ∧ Below w.heap.size w w' := by
  obtain ⟨f0, hk⟩ := sorted16 l hl
  refine (PA.elenchusref16_Sorted.calls f0 a c l _ w (ints_c (c := c) h) hc (hk f0 (Nat.le_refl _))).mono ?_
  rintro e w' ⟨v, rfl, h1, h2⟩
  exact ⟨v, rfl, Kd.own_of_R h1, h2⟩
theorem rof_calls (gs : List Sy) (ls : List Lt) (A B : Nat → Prop) (sg sl : Value) (w : World) (ho : LtsOk ls) (hg : Syms A w sg gs) (hl : Lits B w sl ls) :
    Calls Try.prog 62 #[sg, sl] w fun e w' => ∃ v, e = .returned (.tuple #[v, .int .i64 (clauseC gs ls)]) ∧ w'.ownsRow w.heap.size 3 1 v (if clauseC gs ls = 0 then feat gs ls else []).length ((if clauseC gs ls = 0 then feat gs ls else []).map (Value.int .i64)) ∧ Below w.heap.size w w' := by
  obtain ⟨a0, c0, rfl, -, g9⟩ := hg.shape
  obtain ⟨a1, c1, rfl, -, -⟩ := hl.shape
  obtain ⟨e0, l0, k0⟩ := cg_of hg
  obtain ⟨e1, l1, k1⟩ := cl_of hl
  rw [e0, e1]
  obtain ⟨f0, hk⟩ := of16 gs g9 ls ho
  refine (PA.elenchusref16_Of.calls f0 a0 c0 (toGL gs) a1 c1 (toLL ls) _ _ w k0 l0 k1 l1 (hk f0 (Nat.le_refl _))).mono ?_
  rintro e w' ⟨v, rfl, h1, h2⟩
  exact ⟨v, rfl, Kd.own_of_R h1, h2⟩
theorem runder_calls (x y : List Int) (a b : Option Addr) (ca cb : Nat) (w : World) (hca : x.length ≤ ca) (hcb : y.length ≤ cb) (ha : IntsIn w a x) (hb : IntsIn w b y) :
    Calls Try.prog 66 #[.slice a x.length ca, .slice b y.length cb] w fun e w' => e = .returned (.bool (underB x y)) ∧ Below w.heap.size w w' := by
  obtain ⟨f0, hk⟩ := under16 x y ha.1
  refine (PA.elenchusref16_Under.calls f0 a ca x b cb y _ w (ints_c (c := ca) ha) hca (ints_c (c := cb) hb) hcb (hk f0 (Nat.le_refl _))).mono ?_
  rintro e w' ⟨rfl, nd, rfl⟩
  exact ⟨rfl, pw_below_drewN (Below.refl _ _) _⟩
end Go.Proofs.Ythplndalbfcbbaa
set_option linter.unusedSimpArgs false
set_option linter.unusedVariables false
namespace Go.Proofs.Ythplndalbfcbbaa
open Go.RowKit
def rfindL (ov : Bool) (n : List Int) (gs : List Sy) : List Int → List (List Lt) → List Int
  | id :: ids, c :: cs => if closB ov n (feat gs c) = true then id :: rfindL ov n gs ids cs else rfindL ov n gs ids cs
  | _, _ => []
theorem rfindL_take (ov : Bool) (n : List Int) (gs : List Sy) : ∀ (ids : List Int) (cs : List (List Lt)) (j : Nat) (h1 : j < ids.length) (h2 : j < cs.length),
    rfindL ov n gs (ids.take (j + 1)) (cs.take (j + 1)) = rfindL ov n gs (ids.take j) (cs.take j) ++ if closB ov n (feat gs cs[j]) = true then [ids[j]] else []
  | [], _, _, h1, _ => by simp at h1
  | _ :: _, [], _, _, h2 => by simp at h2
  | id :: ids, c :: cs, 0, _, _ => by simp only [List.take_succ_cons, List.take_zero, rfindL, List.getElem_cons_zero, List.nil_append]
  | id :: ids, c :: cs, j + 1, h1, h2 => by
    have ih := rfindL_take ov n gs ids cs j (by simpa using h1) (by simpa using h2)
    simp only [List.take_succ_cons, rfindL, List.getElem_cons_succ] at ih ⊢
    rw [ih]
    split <;> simp
theorem rfindL_length (ov : Bool) (n : List Int) (gs : List Sy) : ∀ (ids : List Int) (cs : List (List Lt)), (rfindL ov n gs ids cs).length ≤ ids.length
  | [], _ => by simp [rfindL]
  | _ :: _, [] => by simp [rfindL]
  | id :: ids, c :: cs => by
    have ih := rfindL_length ov n gs ids cs
    simp only [rfindL]
    split <;> simp <;> omega
theorem IntsIn.below {w w' : World} {a : Option Addr} {l : List Int} (h : IntsIn w a l) (hB : Below w.heap.size w w') : IntsIn w' a l := ⟨h.1, fun i hi => by
  obtain ⟨b, off, e1, e2⟩ := h.2 i hi
  exact ⟨b, off, e1, (hB.cell (p := ⟨b, off + i, none⟩) (cell_lt e2)).trans e2⟩⟩
theorem own_cap {w : World} {base e : Nat} {a : Option Addr} {n c : Nat} {xs : List Value} (h : w.ownsRow base e 1 (.slice a n c) n xs) : n ≤ c := by
  rcases h.2 with ⟨h, h'⟩ | ⟨g, cap, cur, q1, hg, hh, hn, hm, hs, ht⟩
  · omega
  · simp only [Value.slice.injEq] at q1; omega
def RFinds (ov : Bool) (gs : List Sy) (ids : List Int) (cs : List (List Lt)) (ls : List Lt) (w : World) (e : Ending) (w' : World) : Prop :=
  Below w.heap.size w w' ∧ ((clauseC gs ls ≠ 0 ∧ e = .returned (.tuple #[.slice none 0 0, .int .i64 (clauseC gs ls)])) ∨
    (clauseC gs ls = 0 ∧ ∃ v base, w.heap.size ≤ base ∧ e = .returned (.tuple #[v, .int .i64 0]) ∧ w'.ownsRow base 3 1 v (sortR (rfindL ov (feat gs ls) gs ids cs)).length ((sortR (rfindL ov (feat gs ls) gs ids cs)).map (Value.int .i64))))
set_option maxHeartbeats 4000000 in
set_option maxRecDepth 100000 in
theorem rfind_calls (ov : Bool) (gs : List Sy) (ids : List Int) (cs : List (List Lt)) (sg vi vc : Value) (rb mb base : Nat) (ls : List Lt) (B : Nat → Prop) (sl : Value) (w : World) (hl : ids.length ≤ 100) (ho : LtsOk ls) (hok : ∀ c ∈ cs, LtsOk c ∧ clauseC gs c = 0)
    (hx : RIx w rb mb gs ids cs sg vi vc base) (hls : Lits B w sl ls) :
    Calls Try.prog 132 #[.pointer (some ⟨rb, 0, none⟩), sl, .bool ov] w fun e w' => RFinds ov gs ids cs ls w e w' := by
  have HX := hide hx
  have HOF := hide (rof_calls gs ls _ _ sg sl w ho hx.g hls)
  have HOK := hide hok
  obtain ⟨-, q0, q1, q2⟩ := box3 hx.x
  obtain ⟨ai, ci, hvi, hin⟩ := ints_of_row hx.i
  obtain ⟨ac, cc, hvc, hlits⟩ := hx.lits
  have hlen := hx.len
  have HIN := hide hin
  have HLI := hide hlits
  have hrb := (hx.lt rb (.inl rfl)).2
  subst hvi hvc
  clear hx hls hin hlits hok
  go_enter Try.func132, Try.ntmps132
  go_wp2_with fail
  refine HOF.out.mono ?_
  rintro e w1 ⟨va, rfl, o1, b1⟩
  have HB1 := hide b1
  have HO1 := hide o1
  clear o1 b1 HOF
  by_cases hc : clauseC gs ls = 0
  rotate_left
  · have hne : (clauseC gs ls != 0) = true := by simpa using hc
    have HC := hide hc
    clear hc
    go_wp2
    exact bodyPost_ret (v := .tuple #[.slice none 0 0, .int .i64 (clauseC gs ls)]) (by simp [results, Try.results132, go_sem]) rfl ⟨HB1.out, .inl ⟨HC.out, rfl⟩⟩
  have HC := hide hc
  have o1 := HO1.out
  rw [if_pos hc] at o1
  obtain ⟨a1, c1, rfl, i1⟩ := ints_of_row o1
  have HI1 := hide i1
  have HO1 := hide o1
  have hne : (clauseC gs ls != 0) = false := by simpa using hc
  have HLC := hide (own_cap o1)
  rw [hc]
  clear hc i1 o1
  generalize hft : feat gs ls = ft at *
  have HFT := hide hft
  clear hft
  go_wp2
  go_loopw [10, 11] (fun v10 i wr => ∃ j : Nat, j ≤ ids.length ∧ i = .int .i64 j ∧ Hid (wr.ownsRow w1.heap.size 3 1 v10 (rfindL ov ft gs (ids.take j) (cs.take j)).length ((rfindL ov ft gs (ids.take j) (cs.take j)).map (Value.int .i64))) ∧ Hid (Below w1.heap.size w1 wr)) (fun _ i _ => ids.length - (intOf i).toNat)
  case atStart => exact ⟨0, by omega, rfl, hide (World.ownsRow_nil _ _ _ _), hide (Below.refl _ _)⟩
  case round =>
    obtain ⟨j, hj, rfl, h10, hB⟩ := hrel
    have HBW := hide (HB1.out.trans (hB.out.mono HB1.out.size))
    have XW := hide ((HBW.out.block rb hrb).trans HX.out.x)
    obtain ⟨-, p0, p1, p2⟩ := box3 XW.out
    by_cases hlt : j < ids.length
    · obtain ⟨bi, oi, hai, y0⟩ := HIN.out.2 j hlt
      obtain ⟨bc, sc, hac, y1, y2⟩ := HLI.out j (by omega)
      subst hai hac
      obtain ⟨al, cl, rfl, -, -⟩ := y2.shape
      have hbi := World.block_lt_of_cell? w ⟨bi, oi + j, none⟩ y0
      have hbc := World.block_lt_of_cell? w ⟨bc, j, none⟩ y1
      have hjc : j < cs.length := by omega
      have OK := HOK.out cs[j] (List.getElem_mem hjc)
      have HST := hide (rfindL_take ov ft gs ids cs j hlt hjc)
      have S := fun (W : World) (hW : Below wr.heap.size wr W) => (show W.cell? ⟨rb, 0, none⟩ = some sg ∧ W.cell? ⟨rb, 2, none⟩ = some (.slice (some ⟨bc, 0, none⟩) cs.length cc) ∧ W.cell? ⟨bc, j, none⟩ = some (.slice al cs[j].length cl) from by
        obtain ⟨-, p0, p1, p2⟩ := box3 ((hW.block rb (Array.getElem?_eq_some_iff.1 XW.out).1).trans XW.out)
        exact ⟨p0, p2, (hW.cell (p := ⟨bc, j, none⟩) (Nat.lt_of_lt_of_le hbc HBW.out.size)).trans ((HBW.out.cell (p := ⟨bc, j, none⟩) hbc).trans y1)⟩)
      have HS := hide S
      clear S
      go_wp2
      refine drawn_text (fun W => W.cell? ⟨rb, 0, none⟩ = some sg ∧ W.cell? ⟨rb, 2, none⟩ = some (.slice (some ⟨bc, 0, none⟩) cs.length cc) ∧ W.cell? ⟨bc, j, none⟩ = some (.slice al cs[j].length cl)) [false, false, false, false, false, false, false, false, false, false, false, true, false, false, false, false, false] [some 36, some 37, some 38, some 39, some 40, some 41, some 42, some 43, some 44, some 45, some 46, some 47, some 35, some 48, some 49, some 12, some 13] (by kernel_rfl) (by kernel_rfl) (by kernel_rfl) (by kernel_rfl) (by kernel_rfl) (fun _ _ _ _ _ h => h) ?_ ?_
      · exact HS.out _ (Below.refl _ _).drew
      have g0 := (Below.refl wr.heap.size wr).drew
      have HSY := hide (HX.out.g.below (HBW.out.trans (g0.mono HBW.out.size)))
      have HLT := hide (Lits.below y2 (HBW.out.trans (g0.mono HBW.out.size)))
      have H10 := hide (World.ownsRow.drew h10.out)
      have HI2 := hide ((HI1.out.below hB.out).below g0)
      have G0 := hide g0
      have HB2 := hide hB.out.size
      have HBD := hide (hB.out.trans (g0.mono hB.out.size))
      clear y0 y1 y2 h10 g0
      generalize wr.drew = W0 at *
      iterate 11 (refine txt_take (v := ?_) rfl ?_ ?_; rotate_left; (intro w hS; obtain ⟨hS1, hS2, hS3⟩ := hS; go_simp; try with_reducible rfl); simp only [Act.put, List.setIfInBounds_toArray, List.set_cons_zero, List.set_cons_succ])
      refine txt_do rfl ?_
      intro K hK
      go_simp
      refine (rof_calls gs cs[j] _ _ sg _ W0 OK.1 HSY.out HLT.out).mono ?_
      rintro e w3 ⟨vb, rfl, o3, b3⟩
      rw [if_pos OK.2] at o3
      obtain ⟨a3, c3, rfl, i3⟩ := ints_of_row o3
      have HI3 := hide i3
      have HC3 := hide (own_cap o3)
      have HI4 := hide (HI2.out.below b3)
      have H10' := hide (ownsRow_keep H10.out (Keep.of_below (S := fun _ => True) b3) fun _ _ => trivial)
      have HB3 := hide (more_below HBD.out b3)
      refine hK.out _ _ (HS.out _ (more_below G0.out b3)) ?_
      clear hK K b3 o3 i3 HI2 H10 HBD
      try simp only [Act.put, List.setIfInBounds_toArray, List.set_cons_zero, List.set_cons_succ]
      iterate 5 (refine txt_take (v := ?_) rfl ?_ ?_; rotate_left; (intro w hS; obtain ⟨hS1, hS2, hS3⟩ := hS; go_simp; try with_reducible rfl); simp only [Act.put, List.setIfInBounds_toArray, List.set_cons_zero, List.set_cons_succ])
      refine txt_done ?_
      have hlen10 := rfindL_length ov ft gs (ids.take j) (cs.take j)
      rw [take_len ids j hj] at hlen10
      have hk9 : ((rfindL ov ft gs (ids.take j) (cs.take j)).length + 1) * 8 ≤ 140737488355328 := by omega
      have hw3 : w1.heap.size ≤ w3.heap.size := HB3.out.size
      have HS3 := hide hw3
      have Y3 := (HB3.out.mono HB1.out.size : Below w.heap.size w1 w3)
      have HW3 := hide (HB1.out.trans Y3)
      have X3 := hide ((HW3.out.block rb hrb).trans HX.out.x)
      obtain ⟨-, p0, p1, p2⟩ := box3 X3.out
      obtain ⟨bi', oi', hai', y0⟩ := HIN.out.2 j hlt
      simp only [Option.some.injEq, Addr.mk.injEq, and_true] at hai'
      obtain ⟨rfl, rfl⟩ := hai'
      have Y0 := (HW3.out.cell (p := ⟨bi, oi + j, none⟩) hbi).trans y0
      clear Y3 y0 HBW XW hB
      cases ov
      · have HCB := hide (show closB false ft (feat gs cs[j]) = underB (feat gs cs[j]) ft from rfl)
        go_wp2_with fail
        refine (runder_calls (feat gs cs[j]) ft a3 a1 c3 c1 w3 HC3.out HLC.out HI3.out HI4.out).mono ?_
        rintro e w4 ⟨rfl, b4⟩
        have Y4 := (b4.cell (p := ⟨bi, oi + j, none⟩) (cell_lt Y0)).trans Y0
        have X4 := hide ((b4.block rb (Array.getElem?_eq_some_iff.1 X3.out).1).trans X3.out)
        have H11 := hide (ownsRow_keep H10'.out (Keep.of_below (S := fun _ => True) b4) fun _ _ => trivial)
        have HB4 := hide (more_below HB3.out b4)
        have hs4 := Nat.le_trans HS3.out b4.size
        obtain ⟨-, p0, p1, p2⟩ := box3 X4.out
        generalize underB (feat gs cs[j]) ft = ub at *
        rw [HCB.out] at HST
        clear b4 H10' HB3 X3 Y0
        generalize ids[j] = yi at *
        cases ub
        · go_wp2
          go_roundw
          case rel => exact ⟨j + 1, by omega, by go_num, hide (by rw [HST.out]; simpa using H11.out), HB4⟩
          case measure => simp [intOf]; omega
        · go_wp2_with (at_builtin; refine app_pl rfl _ _ 37 rfl w1.heap.size 3 (.int .i64 0) 1 8 Try.underlying37 (by kernel_rfl) rfl (by decide) (by decide) u10 (rfindL false ft gs (ids.take j) (cs.take j)).length _ rfl H11.out 1 1 _ rfl (by simp [Value.oneCell']) rfl hk9 hs4 ?_; intro v' w5 r1 r2 r3 r4; obtain ⟨ia, ic, rfl⟩ := r4)
          have R1 := hide r1
          have HB5 := hide (HB4.out.trans (r2.below (fun b hb h => by have := (H11.out.lt b h).1; omega) hs4))
          clear r1 r2 r3
          go_roundw
          case rel => exact ⟨j + 1, by omega, by go_num, hide (by rw [HST.out]; simpa using R1.out), HB5⟩
          case measure => simp [intOf]; omega
      · have HCB := hide (show closB true ft (feat gs cs[j]) = underB ft (feat gs cs[j]) from rfl)
        go_wp2_with fail
        refine (runder_calls ft (feat gs cs[j]) a1 a3 c1 c3 w3 HLC.out HC3.out HI4.out HI3.out).mono ?_
        rintro e w4 ⟨rfl, b4⟩
        have Y4 := (b4.cell (p := ⟨bi, oi + j, none⟩) (cell_lt Y0)).trans Y0
        have X4 := hide ((b4.block rb (Array.getElem?_eq_some_iff.1 X3.out).1).trans X3.out)
        have H11 := hide (ownsRow_keep H10'.out (Keep.of_below (S := fun _ => True) b4) fun _ _ => trivial)
        have HB4 := hide (more_below HB3.out b4)
        have hs4 := Nat.le_trans HS3.out b4.size
        obtain ⟨-, p0, p1, p2⟩ := box3 X4.out
        generalize underB ft (feat gs cs[j]) = ub at *
        rw [HCB.out] at HST
        clear b4 H10' HB3 X3 Y0
        generalize ids[j] = yi at *
        cases ub
        · go_wp2
          go_roundw
          case rel => exact ⟨j + 1, by omega, by go_num, hide (by rw [HST.out]; simpa using H11.out), HB4⟩
          case measure => simp [intOf]; omega
        · go_wp2_with (at_builtin; refine app_pl rfl _ _ 37 rfl w1.heap.size 3 (.int .i64 0) 1 8 Try.underlying37 (by kernel_rfl) rfl (by decide) (by decide) u10 (rfindL true ft gs (ids.take j) (cs.take j)).length _ rfl H11.out 1 1 _ rfl (by simp [Value.oneCell']) rfl hk9 hs4 ?_; intro v' w5 r1 r2 r3 r4; obtain ⟨ia, ic, rfl⟩ := r4)
          have R1 := hide r1
          have HB5 := hide (HB4.out.trans (r2.below (fun b hb h => by have := (H11.out.lt b h).1; omega) hs4))
          clear r1 r2 r3
          go_roundw
          case rel => exact ⟨j + 1, by omega, by go_num, hide (by rw [HST.out]; simpa using R1.out), HB5⟩
          case measure => simp [intOf]; omega
    · obtain rfl : j = ids.length := by omega
      have h10' := h10.out
      rw [List.take_length, ← hlen, List.take_length] at h10'
      have hln := rfindL_length ov ft gs ids cs
      obtain ⟨a4, c4, rfl, i4⟩ := ints_of_row h10'
      have hcp := own_cap h10'
      have HI4 := hide i4
      have HB4 := hide hB.out
      clear i4 h10' h10 hB
      go_wp2_with fail
      refine (rsorted_calls (rfindL ov ft gs ids cs) a4 c4 wr (by omega) hcp HI4.out).mono ?_
      rintro e w5 ⟨v, rfl, o5, b5⟩
      have HO5 := hide o5
      have HB5 := hide (more_below HBW.out b5)
      have hs5 := HBW.out.size
      clear o5 b5
      go_wp2
      exact bodyPost_ret (v := .tuple #[v, .int .i64 0]) (by simp [results, Try.results132, go_sem]) rfl ⟨HB5.out, .inr ⟨HC.out, v, _, hs5, rfl, by rw [HFT.out]; exact HO5.out⟩⟩
set_option maxHeartbeats 4000000 in
set_option maxRecDepth 100000 in
theorem rover_calls (gs : List Sy) (ids : List Int) (cs : List (List Lt)) (sg vi vc : Value) (rb mb base : Nat) (ls : List Lt) (B : Nat → Prop) (sl : Value) (w : World) (hl : ids.length ≤ 100) (ho : LtsOk ls) (hok : ∀ c ∈ cs, LtsOk c ∧ clauseC gs c = 0)
    (hx : RIx w rb mb gs ids cs sg vi vc base) (hls : Lits B w sl ls) :
    Calls Try.prog 73 #[.pointer (some ⟨rb, 0, none⟩), sl] w fun e w' => RFinds true gs ids cs ls w e w' := by
  have HC := hide (rfind_calls true gs ids cs sg vi vc rb mb base ls B sl w hl ho hok hx hls)
  clear hx hls hok
  go_enter Try.func73, Try.ntmps73
  go_wp2_with fail
  refine HC.out.mono ?_
  rintro e w1 ⟨hB, ⟨hc, rfl⟩ | ⟨hc, v, bs, hb, rfl, o⟩⟩
  · have HB := hide hB
    have HZ := hide hc
    clear hB hc HC
    go_wp2
    exact bodyPost_ret (v := .tuple #[.slice none 0 0, .int .i64 (clauseC gs ls)]) (by simp [results, Try.results73, go_sem]) rfl ⟨HB.out, .inl ⟨HZ.out, rfl⟩⟩
  · have HB := hide hB
    have HZ := hide (And.intro hc (And.intro hb o))
    clear hB hc hb o HC
    go_wp2
    exact bodyPost_ret (v := .tuple #[v, .int .i64 0]) (by simp [results, Try.results73, go_sem]) rfl ⟨HB.out, .inr ⟨HZ.out.1, v, bs, HZ.out.2.1, rfl, HZ.out.2.2⟩⟩
set_option maxHeartbeats 4000000 in
set_option maxRecDepth 100000 in
theorem rbelow_calls (gs : List Sy) (ids : List Int) (cs : List (List Lt)) (sg vi vc : Value) (rb mb base : Nat) (ls : List Lt) (B : Nat → Prop) (sl : Value) (w : World) (hl : ids.length ≤ 100) (ho : LtsOk ls) (hok : ∀ c ∈ cs, LtsOk c ∧ clauseC gs c = 0)
    (hx : RIx w rb mb gs ids cs sg vi vc base) (hls : Lits B w sl ls) :
    Calls Try.prog 75 #[.pointer (some ⟨rb, 0, none⟩), sl] w fun e w' => RFinds false gs ids cs ls w e w' := by
  have HC := hide (rfind_calls false gs ids cs sg vi vc rb mb base ls B sl w hl ho hok hx hls)
  clear hx hls hok
  go_enter Try.func75, Try.ntmps75
  go_wp2_with fail
  refine HC.out.mono ?_
  rintro e w1 ⟨hB, ⟨hc, rfl⟩ | ⟨hc, v, bs, hb, rfl, o⟩⟩
  · have HB := hide hB
    have HZ := hide hc
    clear hB hc HC
    go_wp2
    exact bodyPost_ret (v := .tuple #[.slice none 0 0, .int .i64 (clauseC gs ls)]) (by simp [results, Try.results75, go_sem]) rfl ⟨HB.out, .inl ⟨HZ.out, rfl⟩⟩
  · have HB := hide hB
    have HZ := hide (And.intro hc (And.intro hb o))
    clear hB hc hb o HC
    go_wp2
    exact bodyPost_ret (v := .tuple #[v, .int .i64 0]) (by simp [results, Try.results75, go_sem]) rfl ⟨HB.out, .inr ⟨HZ.out.1, v, bs, HZ.out.2.1, rfl, HZ.out.2.2⟩⟩
end Go.Proofs.Ythplndalbfcbbaa
set_option linter.unusedSimpArgs false
set_option linter.unusedVariables false
namespace Go.Proofs.Ythplndalbfcbbaa
open Go.RowKit
def Mof (gs : List Sy) : List Int → List (List Lt) → FRows
  | id :: ids, c :: cs => (id, feat gs c) :: Mof gs ids cs
  | _, _ => []
theorem Mof_length (gs : List Sy) : ∀ (ids : List Int) (cs : List (List Lt)), (Mof gs ids cs).length ≤ ids.length
  | [], _ => by simp [Mof]
  | _ :: _, [] => by simp [Mof]
  | id :: ids, c :: cs => by simp only [Mof, List.length_cons]; have := Mof_length gs ids cs; omega
theorem Mof_keys (gs : List Sy) : ∀ (ids : List Int) (cs : List (List Lt)), cs.length = ids.length → (Mof gs ids cs).map (·.1) = ids
  | [], [], _ => rfl
  | [], _ :: _, h => by simp at h
  | _ :: _, [], h => by simp at h
  | id :: ids, c :: cs, h => by simp only [Mof, List.map_cons]; rw [Mof_keys gs ids cs (by simpa using h)]
theorem Mof_append (gs : List Sy) (id : Int) (c : List Lt) : ∀ (ids : List Int) (cs : List (List Lt)), cs.length = ids.length → Mof gs (ids ++ [id]) (cs ++ [c]) = Mof gs ids cs ++ [(id, feat gs c)]
  | [], [], _ => rfl
  | [], _ :: _, h => by simp at h
  | _ :: _, [], h => by simp at h
  | id' :: ids, c' :: cs, h => by simp only [List.cons_append, Mof]; rw [Mof_append gs id c ids cs (by simpa using h)]
theorem atG_mem (id : Int) : ∀ (ids : List Int) (k : Int), 0 ≤ k → (0 ≤ atG id ids k ↔ id ∈ ids)
  | [], k, h => by simp [atG]
  | y :: r, k, h => by
    rw [atG]
    by_cases hy : y = id
    · rw [if_pos hy]; simp [hy, h]
    · rw [if_neg hy, atG_mem id r (k + 1) (by omega)]
      have : ¬ id = y := fun e => hy e.symm
      simp [this]
theorem inM_keys (M : FRows) (id : Int) : inM M id = true ↔ id ∈ M.map (·.1) := by
  simp only [inM, List.any_eq_true, beq_iff_eq, List.mem_map]
theorem inM_at {gs : List Sy} {ids : List Int} {cs : List (List Lt)} (h : cs.length = ids.length) (id : Int) : inM (Mof gs ids cs) id = true ↔ 0 ≤ atI ids id := by
  rw [inM_keys, Mof_keys gs ids cs h, atI, atG_mem id ids 0 (Int.le_refl _)]
theorem ixput_same {gs : List Sy} {ids : List Int} {cs : List (List Lt)} (h : cs.length = ids.length) (id : Int) (ls : List Lt) : putC gs (Mof gs ids cs) id ls = rputC gs ids id ls ∧ putM gs (Mof gs ids cs) id ls = Mof gs (rputI gs ids id ls) (rputL gs ids cs id ls) := by
  have e : putC gs (Mof gs ids cs) id ls = rputC gs ids id ls := by
    simp only [putC, rputC]
    by_cases hc : clauseC gs ls ≠ 0
    · rw [if_pos hc, if_pos hc]
    · rw [if_neg hc, if_neg hc]
      by_cases hi : inM (Mof gs ids cs) id = true
      · rw [if_pos hi, if_pos ((inM_at h id).1 hi)]
      · rw [if_neg hi, if_neg (fun h9 => hi ((inM_at h id).2 h9))]
  refine ⟨e, ?_⟩
  simp only [putM, rputI, rputL]
  rw [e]
  by_cases hc : rputC gs ids id ls = 0
  · rw [if_pos hc, if_pos hc, if_pos hc, Mof_append gs id ls ids cs h]
  · rw [if_neg hc, if_neg hc, if_neg hc]
theorem dropM_not {M : FRows} {id : Int} (h : id ∉ M.map (·.1)) : dropM M id = M := by
  simp only [dropM, List.filter_eq_self]
  intro p hp
  have : p.1 ≠ id := fun e => h (List.mem_map.2 ⟨p, hp, e⟩)
  simpa using this
theorem drop_at (gs : List Sy) (id : Int) : ∀ (ids : List Int) (cs : List (List Lt)) (k : Int), cs.length = ids.length → ids.Nodup → 0 ≤ k → id ∈ ids →
    ∃ m : Nat, atG id ids k = k + m ∧ dropM (Mof gs ids cs) id = Mof gs (ids.eraseIdx m) (cs.eraseIdx m)
  | [], _, _, _, _, _, h => by simp at h
  | _ :: _, [], _, h, _, _, _ => by simp at h
  | y :: r, c :: cs, k, hl, hn, hk, hm => by
    rw [List.nodup_cons] at hn
    rw [atG]
    by_cases hy : y = id
    · subst hy
      refine ⟨0, by simp, ?_⟩
      have h1 : y ∉ (Mof gs r cs).map (·.1) := by rw [Mof_keys gs r cs (by simpa using hl)]; exact hn.1
      have h2 := dropM_not h1
      simp only [dropM, Mof] at h2 ⊢
      rw [List.filter_cons_of_neg (by simp), h2]; rfl
    · rcases List.mem_cons.1 hm with hm | hm
      · exact absurd hm.symm hy
      · obtain ⟨m, h1, h2⟩ := drop_at gs id r cs (k + 1) (by simpa using hl) hn.2 (by omega) hm
        refine ⟨m + 1, by rw [if_neg hy, h1]; push_cast; omega, ?_⟩
        simp only [dropM, Mof, List.eraseIdx_cons_succ] at h2 ⊢
        rw [List.filter_cons_of_pos (by simpa using hy), h2]
theorem ixdrop_same {gs : List Sy} {ids : List Int} {cs : List (List Lt)} (h : cs.length = ids.length) (hn : ids.Nodup) (id : Int) : dropC (Mof gs ids cs) id = rdropC ids id ∧ dropM (Mof gs ids cs) id = Mof gs (rdropI ids id) (rdropL ids cs id) := by
  simp only [dropC, rdropC, rdropI, rdropL]
  by_cases hi : 0 ≤ atI ids id
  · rw [if_pos hi, if_pos hi, if_pos hi, if_pos ((inM_at h id).2 hi)]
    obtain ⟨m, h1, h2⟩ := drop_at gs id ids cs 0 h hn (Int.le_refl _) ((atG_mem id ids 0 (Int.le_refl _)).1 hi)
    refine ⟨rfl, ?_⟩
    have : (atI ids id).toNat = m := by rw [atI, h1]; omega
    rw [this, h2]
  · rw [if_neg hi, if_neg hi, if_neg hi, if_neg (fun h9 => hi ((inM_at h id).1 h9))]
    refine ⟨rfl, dropM_not ?_⟩
    rw [Mof_keys gs ids cs h]
    exact fun hm => hi ((atG_mem id ids 0 (Int.le_refl _)).2 hm)
theorem rfindL_mem (ov : Bool) (n : List Int) (gs : List Sy) : ∀ (ids : List Int) (cs : List (List Lt)) (x : Int), x ∈ rfindL ov n gs ids cs ↔ ∃ row, (x, row) ∈ Mof gs ids cs ∧ closB ov n row = true
  | [], _, x => by simp [rfindL, Mof]
  | _ :: _, [], x => by simp [rfindL, Mof]
  | id :: ids, c :: cs, x => by
    have ih := rfindL_mem ov n gs ids cs x
    simp only [rfindL, Mof, List.mem_cons, Prod.mk.injEq]
    split
    · next hc =>
      rw [List.mem_cons, ih]
      constructor
      · rintro (rfl | ⟨row, h1, h2⟩)
        · exact ⟨_, .inl ⟨rfl, rfl⟩, hc⟩
        · exact ⟨row, .inr h1, h2⟩
      · rintro ⟨row, ⟨rfl, rfl⟩ | h1, h2⟩
        · exact .inl rfl
        · exact .inr ⟨row, h1, h2⟩
    · next hc =>
      rw [ih]
      constructor
      · rintro ⟨row, h1, h2⟩
        exact ⟨row, .inr h1, h2⟩
      · rintro ⟨row, ⟨rfl, rfl⟩ | h1, h2⟩
        · exact absurd h2 hc
        · exact ⟨row, h1, h2⟩
theorem rfindL_sub (ov : Bool) (n : List Int) (gs : List Sy) : ∀ (ids : List Int) (cs : List (List Lt)), (rfindL ov n gs ids cs).Sublist ids
  | [], _ => by simp [rfindL]
  | _ :: _, [] => by simp [rfindL]
  | id :: ids, c :: cs => by
    have ih := rfindL_sub ov n gs ids cs
    simp only [rfindL]
    split
    · exact ih.cons_cons _
    · exact ih.cons _
theorem ixfind_same {gs : List Sy} {ids : List Int} {cs : List (List Lt)} (h : cs.length = ids.length) (hn : ids.Nodup) (ov : Bool) (n : List Int) {dn : List Int} (hd : ∀ x, x ∈ dn ↔ ∃ row, (x, row) ∈ Mof gs ids cs) (hdn : dn.Nodup) :
    sortI (idsOf ov n (Mof gs ids cs) dn) = sortR (rfindL ov n gs ids cs) := by
  have hk : ((Mof gs ids cs).map (·.1)).Nodup := by rw [Mof_keys gs ids cs h]; exact hn
  refine sort_same ?_ ((rfindL_sub ov n gs ids cs).nodup hn) fun x => ?_
  · simp only [idsOf]
    exact (List.reverse_perm _).nodup_iff.2 (hdn.filter _)
  · rw [rfindL_mem]
    simp only [idsOf, List.mem_reverse, List.mem_filter]
    constructor
    · rintro ⟨h1, h2⟩
      obtain ⟨row, hr⟩ := (hd x).1 h1
      exact ⟨row, hr, by rwa [rowOf_mem hk hr] at h2⟩
    · rintro ⟨row, hr, h2⟩
      exact ⟨(hd x).2 ⟨row, hr⟩, by rwa [rowOf_mem hk hr]⟩
structure Fine (gs : List Sy) (ids : List Int) (cs : List (List Lt)) (j : Nat) : Prop where
  nd : ids.Nodup
  le : ids.length ≤ j
  len : cs.length = ids.length
  ok : ∀ c ∈ cs, LtsOk c ∧ clauseC gs c = 0
theorem Fine.mono {gs : List Sy} {ids : List Int} {cs : List (List Lt)} {j : Nat} (h : Fine gs ids cs j) : Fine gs ids cs (j + 1) := ⟨h.nd, by have := h.le; omega, h.len, h.ok⟩
theorem Fine.put {gs : List Sy} {ids : List Int} {cs : List (List Lt)} {j : Nat} (h : Fine gs ids cs j) (id : Int) (ls : List Lt) (ho : LtsOk ls) : Fine gs (rputI gs ids id ls) (rputL gs ids cs id ls) (j + 1) := by
  simp only [rputI, rputL]
  by_cases hc : rputC gs ids id ls = 0
  · rw [if_pos hc, if_pos hc]
    have hcl : clauseC gs ls = 0 := by
      simp only [rputC] at hc
      split at hc
      · contradiction
      · next h1 => simpa using h1
    have hat : ¬ 0 ≤ atI ids id := by
      simp only [rputC, hcl] at hc
      rw [if_neg (by simp)] at hc
      split at hc
      · contradiction
      · assumption
    have hni : id ∉ ids := fun hm => hat ((atG_mem id ids 0 (Int.le_refl _)).2 hm)
    refine ⟨List.nodup_append.2 ⟨h.nd, by simp, fun a ha b hb => ?_⟩, by simp; have := h.le; omega, by simp [h.len], fun c hc => ?_⟩
    · simp only [List.mem_singleton] at hb
      subst hb
      exact fun e => hni (e ▸ ha)
    · rcases List.mem_append.1 hc with hc | hc
      · exact h.ok c hc
      · simp only [List.mem_singleton] at hc
        subst hc
        exact ⟨ho, hcl⟩
  · rw [if_neg hc, if_neg hc]; exact h.mono
theorem Fine.drop {gs : List Sy} {ids : List Int} {cs : List (List Lt)} {j : Nat} (h : Fine gs ids cs j) (id : Int) : Fine gs (rdropI ids id) (rdropL ids cs id) (j + 1) := by
  simp only [rdropI, rdropL]
  by_cases hc : 0 ≤ atI ids id
  · rw [if_pos hc, if_pos hc]
    have h1 := List.eraseIdx_sublist ids (atI ids id).toNat
    have h2 := List.eraseIdx_sublist cs (atI ids id).toNat
    have h3 := (atI_range ids id)
    refine ⟨h1.nodup h.nd, by have := h1.length_le; have := h.le; omega, ?_, fun c hc => h.ok c (h2.subset hc)⟩
    rw [List.length_eraseIdx_of_lt (by have := h.len; omega), List.length_eraseIdx_of_lt (by omega), h.len]
  · rw [if_neg hc, if_neg hc]; exact h.mono
structure IxZ (Z : Nat → Prop) (w : Go.World) (xb mb : Nat) (gs : List Sy) (M : FRows) (N : Nat) (sg : Go.Value) (f : Int → Option Go.Value) : Prop where
  ix : IxAt w xb mb gs M N sg f
  zx : ¬ Z xb
  zm : ¬ Z mb
  zg : Syms (fun b => b = mb ∨ Z b) w sg gs
  zr : ∀ y nb, f y = some (.slice (some ⟨nb, 0, none⟩) N N) → ¬ Z nb
theorem IxZ.below {Z : Nat → Prop} {w w' : Go.World} {xb mb : Nat} {gs : List Sy} {M : FRows} {N : Nat} {sg : Go.Value} {f : Int → Option Go.Value} (h : IxZ Z w xb mb gs M N sg f) (hB : Below w.heap.size w w') : IxZ Z w' xb mb gs M N sg f :=
  ⟨h.ix.below hB, h.zx, h.zm, h.zg.below hB, h.zr⟩
theorem IxZ.keep {Z : Nat → Prop} {w w' : Go.World} {xb mb : Nat} {gs : List Sy} {M : FRows} {N : Nat} {sg : Go.Value} {f : Int → Option Go.Value} (h : IxZ Z w xb mb gs M N sg f) (hk : Keep (fun b => ¬ Z b) w w') : IxZ Z w' xb mb gs M N sg f := by
  have hg : Syms (fun b => b = mb ∨ Z b) w' sg gs := RepD.frame (fun b hb hlt => hk.block b hlt fun hz => hb (.inr hz)) (fun _ _ h => h) _ _ h.zg
  refine ⟨⟨hk.obj h.zx h.ix.x, RepD.bar hg fun b _ hb => .inl hb, h.ix.m.keep hk h.zm, ⟨h.ix.r.nd, fun id v hv => ?_, h.ix.r.dom⟩, h.ix.ne, h.ix.n, h.ix.ok⟩, h.zx, h.zm, hg, h.zr⟩
  obtain ⟨row, nb, h1, h2, h3, h4, h5⟩ := h.ix.r.val id v hv
  exact ⟨row, nb, h1, h2, h3, hk.obj (h.zr id nb (by rw [hv, h2])) h4, h5⟩
theorem IxZ.grow {Z Z' : Nat → Prop} {w : Go.World} {xb mb : Nat} {gs : List Sy} {M : FRows} {N : Nat} {sg : Go.Value} {f : Int → Option Go.Value} (h : IxZ Z w xb mb gs M N sg f) (n : Nat) (hn : n ≤ w.heap.size)
    (hz : ∀ b, Z' b → Z b ∨ n ≤ b) (hxn : xb < n) (hmn : mb < n) (hgn : Syms (fun b => b = mb ∨ Z b ∨ n ≤ b) w sg gs) (hrn : ∀ y nb, f y = some (.slice (some ⟨nb, 0, none⟩) N N) → nb < n) : IxZ Z' w xb mb gs M N sg f :=
  ⟨h.ix, fun hb => (hz _ hb).elim h.zx (by omega), fun hb => (hz _ hb).elim h.zm (by omega), RepD.bar hgn fun b _ hb => by
    rcases hb with hb | hb
    · exact .inl hb
    · rcases hz b hb with hb | hb
      · exact .inr (.inl hb)
      · exact .inr (.inr hb), fun y nb hy hb => (hz _ hb).elim (h.zr y nb hy) (by have := hrn y nb hy; omega)⟩
theorem IxZ.rows_lt {Z : Nat → Prop} {w : Go.World} {xb mb : Nat} {gs : List Sy} {M : FRows} {N : Nat} {sg : Go.Value} {f : Int → Option Go.Value} (h : IxZ Z w xb mb gs M N sg f) (y : Int) (nb : Nat) (hy : f y = some (.slice (some ⟨nb, 0, none⟩) N N)) : nb < w.heap.size := by
  obtain ⟨row, nb', h1, h2, h3, h4, h5⟩ := h.ix.r.val y _ hy
  simp only [Go.Value.slice.injEq, Option.some.injEq, Go.Addr.mk.injEq, and_true] at h2
  rw [h2]
  exact (Array.getElem?_eq_some_iff.1 h4).1
theorem IxZ.step {Z Z' : Nat → Prop} {w w' : Go.World} {xb mb : Nat} {gs : List Sy} {M : FRows} {N : Nat} {sg : Go.Value} {f : Int → Option Go.Value} (h : IxZ Z w xb mb gs M N sg f) (hk : Keep (fun b => ¬ Z b) w w') (hz : ∀ b, Z' b → Z b ∨ w.heap.size ≤ b) : IxZ Z' w' xb mb gs M N sg f := by
  refine (h.keep hk).grow w.heap.size hk.size hz (Array.getElem?_eq_some_iff.1 h.ix.x).1 h.ix.m.lt ?_ h.rows_lt
  have h1 : Syms (fun b => b = mb ∨ Z b ∨ w.heap.size ≤ b) w sg gs := RepD.bar h.zg fun b hlt hb => by
    rcases hb with hb | hb | hb
    · exact .inl hb
    · exact .inr hb
    · omega
  exact RepD.frame (fun b hb hlt => hk.block b hlt fun hz => hb (.inr (.inl hz))) (fun _ _ h => h) _ _ h1
end Go.Proofs.Ythplndalbfcbbaa
set_option linter.unusedSimpArgs false
set_option linter.unusedVariables false
namespace Go.Proofs.Ythplndalbfcbbaa
open Go.RowKit Go.ChangeShapes Go.WideShapes Go.ChangeAt
structure Sp where
  what : Int
  id : Int
  c : List Lt
def Sp.d (s : Sp) : D := .agg [.lit (.int .i64 s.what), .lit (.int .i64 s.id), litsD s.c]
theorem repSp {A : Nat → Prop} {w : World} {x : Sp} {cs : List Value} : RepD A w x.d cs ↔ ∃ v, cs = [.int .i64 x.what, .int .i64 x.id, v] ∧ Lits A w v x.c := by
  simp only [Sp.d, RepD, RepL]
  constructor
  · rintro ⟨c1, c2, rfl, rfl, c3, c4, rfl, rfl, c5, c6, rfl, h, rfl⟩
    have h' := h
    simp only [litsD, RepD] at h'
    obtain ⟨a, n, c, rfl, -⟩ := h'
    exact ⟨_, rfl, h⟩
  · rintro ⟨v, rfl, h⟩
    exact ⟨[_], [_, _], rfl, rfl, [_], [_], rfl, rfl, [_], [], rfl, h, rfl⟩
def Steps (A : Nat → Prop) (w : World) (s : Value) (l : List Sp) : Prop := RepD A w (.row 3 (l.map Sp.d)) [s]
theorem Steps.shape {A : Nat → Prop} {w : World} {s : Value} {ls : List Sp} (h : Steps A w s ls) : ∃ a c, s = .slice a ls.length c ∧ ls.length ≤ c ∧ ls.length ≤ 9223372036854775807 := by
  simp only [Steps, RepD] at h
  obtain ⟨a, n, c, h1, h2, h3, h4, h5⟩ := h
  simp only [List.length_map] at h2
  subst h2
  simp only [List.cons.injEq, and_true] at h1
  exact ⟨a, c, h1, h3, h4⟩
theorem Steps.get {A : Nat → Prop} {w : World} {a : Option Addr} {n c : Nat} {ls : List Sp} (h : Steps A w (.slice a n c) ls) (i : Nat) (hi : i < ls.length) :
    ∃ b off a1 c1, a = some ⟨b, off, none⟩ ∧ b < w.heap.size ∧ w.cell? ⟨b, off + i * 3, none⟩ = some (.int .i64 ls[i].what) ∧ w.cell? ⟨b, off + i * 3 + 1, none⟩ = some (.int .i64 ls[i].id) ∧ w.cell? ⟨b, off + i * 3 + 2, none⟩ = some (.slice a1 ls[i].c.length c1) ∧ Lits A w (.slice a1 ls[i].c.length c1) ls[i].c := by
  simp only [Steps, RepD] at h
  obtain ⟨a, n, c, h1, h2, h3, h4, h5⟩ := h
  simp only [List.cons.injEq, and_true, Value.slice.injEq] at h1
  obtain ⟨rfl, rfl, rfl⟩ := h1
  simp only [List.length_map] at h2
  obtain ⟨b, off, ha, hs, hb, hr⟩ := h5 (by omega)
  obtain ⟨cs, e1, e2, e3⟩ := hr.at i (by simpa using hi)
  simp only [List.getElem_map] at e3
  obtain ⟨v, rfl, e4⟩ := repSp.1 e3
  obtain ⟨a1, c1, rfl, _⟩ := e4.shape
  exact ⟨b, off, a1, c1, ha, hs, e2 0 (by omega), e2 1 (by omega), e2 2 (by omega), e4⟩
section
variable {H : Type} {enc : TypeId × Value → H} {W : World} {sp : Nat → Bool} {held : Bool}
theorem cellsStep : Try.prog.cellsOf 73 = 3 := by kernel_rfl
theorem cellsLits : Try.prog.cellsOf 63 = 1 := by kernel_rfl
theorem readSp (fuel : Nat) (cs : List Value) (x : DataW H × List MemPlace) (h : DataW.trod enc Try.prog W 0 sp held fuel 73 cs = some x) : ∃ s : { s : Sp // -9223372036854775808 ≤ s.id ∧ s.id ≤ 9223372036854775807 }, RepD (fun _ => False) W s.1.d cs := by
  obtain ⟨xs, n, rfl, _, hl, hlen, hf⟩ := DataW.trod_struct Try.underlying73 h
  rw [cellsStep] at hl
  obtain ⟨c0, c1, c2, rfl⟩ := list3 hl
  have h0 := hf 0 _ rfl
  have h1 := hf 1 _ rfl
  have h2 := hf 2 _ rfl
  have e0 : xs[0]? = some (xs[0]'(by rw [hlen]; decide)) := List.getElem?_eq_getElem _
  have e1 : xs[1]? = some (xs[1]'(by rw [hlen]; decide)) := List.getElem?_eq_getElem _
  have e2 : xs[2]? = some (xs[2]'(by rw [hlen]; decide)) := List.getElem?_eq_getElem _
  rw [e0] at h0
  rw [e1] at h1
  rw [e2] at h2
  obtain ⟨v0, hv0, _⟩ := DataW.trod_int Try.underlying3 h0
  obtain ⟨v1, hv1, _, hw1⟩ := DataW.trod_int Try.underlying3 h1
  obtain ⟨us, hus⟩ := read_slice Try.underlying63 cellsLit (by omega) Lt.d h2 (fun m cs y _ hy => readLt m cs y hy)
  replace hv0 : [c0, c1, c2].take (Try.prog.cellsOf 3) = [.int .i64 v0] := hv0
  replace hv1 : [c1, c2].take (Try.prog.cellsOf 3) = [.int .i64 v1] := hv1
  replace hus : RepD (fun _ => False) W (.row 5 (us.map Lt.d)) ([c2].take (Try.prog.cellsOf 63)) := hus
  rw [cellsInt] at hv0 hv1
  rw [cellsLits] at hus
  simp at hv0 hv1 hus
  subst hv0 hv1
  exact ⟨⟨⟨v0, v1, us⟩, wf_range hw1⟩, repSp.2 ⟨c2, rfl, hus⟩⟩
theorem readSteps (fuel : Nat) (s : Value) (x : DataW H × List MemPlace) (h : DataW.trod enc Try.prog W 0 sp held fuel 71 [s] = some x) :
    ∃ ls : List Sp, (∀ b, b ∈ ls → -9223372036854775808 ≤ b.id ∧ b.id ≤ 9223372036854775807) ∧ Steps (fun _ => False) W s ls := by
  obtain ⟨us, hus⟩ := read_slice Try.underlying71 cellsStep (by omega) (fun b : { s : Sp // -9223372036854775808 ≤ s.id ∧ s.id ≤ 9223372036854775807 } => b.1.d) h (fun m cs y _ hy => readSp m cs y hy)
  refine ⟨us.map (·.1), fun b hb => ?_, ?_⟩
  · obtain ⟨u, _, rfl⟩ := List.mem_map.1 hb
    exact u.2
  · unfold Steps
    rw [List.map_map]
    exact hus
end
end Go.Proofs.Ythplndalbfcbbaa
set_option linter.unusedSimpArgs false
set_option linter.unusedVariables false
namespace Go.Proofs.Ythplndalbfcbbaa
open Go.RowKit
theorem few16_lts {gs : List Sy} {ls : List Lt} (h : few16B gs ls = true) : LtsOk ls := by
  simp only [few16B, Bool.and_eq_true] at h
  intro x hx
  have := (few10_sizes h.2).2 x hx
  omega
def DoesInv (w : World) (gs : List Sy) (s0 sgx : Value) (xb mb rb N : Nat) (wq : World) (j : Nat) : Prop :=
  ∃ ids cs vi vc f, IxZ (RZ rb vi vc) wq xb mb gs (Mof gs ids cs) N sgx f ∧ RIx wq rb mb gs ids cs s0 vi vc w.heap.size ∧ Below w.heap.size w wq ∧ Fine gs ids cs j
set_option maxHeartbeats 8000000 in
set_option maxRecDepth 100000 in
theorem fdoes_calls (gs : List Sy) (l : List Sp) (s0 s1 : Value) (w : World) (hid : ∀ b, b ∈ l → -9223372036854775808 ≤ b.id ∧ b.id ≤ 9223372036854775807) (hg : Syms (fun _ => False) w s0 gs) (hs : Steps (fun _ => False) w s1 l) :
    Calls Try.prog 18 #[s0, s1] w fun e w' => e = .returned (.bool true) ∧ Below w.heap.size w w' := by
  have HG := hide hg
  have HS := hide hs
  have HID := hide hid
  obtain ⟨a0, c0, rfl, -, -⟩ := hg.shape
  obtain ⟨a1, c1, rfl, -, -⟩ := hs.shape
  clear hg hs hid
  by_cases h20 : 20 < l.length
  · have hd : decide ((l.length : Int) > 20) = true := by simp; omega
    go_enter Try.func18, Try.ntmps18
    go_wp2
    go_ret
    exact ⟨rfl, Below.refl _ _⟩
  have hd20 : decide ((l.length : Int) > 20) = false := by simp; omega
  by_cases h40 : 40 < gs.length
  · have hd : decide ((gs.length : Int) > 40) = true := by simp; omega
    go_enter Try.func18, Try.ntmps18
    go_wp2
    go_ret
    exact ⟨rfl, Below.refl _ _⟩
  have hd40 : decide ((gs.length : Int) > 40) = false := by simp; omega
  go_enter Try.func18, Try.ntmps18
  go_wp2
  go_loopw [5] (fun i wr => ∃ j : Nat, j ≤ l.length ∧ i = .int .i64 j ∧ Hid (∀ m (hm : m < j) (h : m < l.length), few16B gs l[m].c = true) ∧ Hid (Below w.heap.size w wr)) (fun i _ => l.length - (intOf i).toNat)
  case atStart => exact ⟨0, by omega, rfl, hide (fun m hm => by omega), hide (Below.refl _ _)⟩
  case round =>
    obtain ⟨j, hj, rfl, hf, hB⟩ := hrel
    by_cases hlt : j < l.length
    · obtain ⟨b, off, al, cl, rfl, hbs, q0, q1, q2, hli⟩ := HS.out.get j hlt
      have Q2 := (hB.out.cell (p := ⟨b, off + j * 3 + 2, none⟩) hbs).trans q2
      have HFE := hide (few16_calls gs l[j].c _ _ _ _ wr (HG.out.below hB.out) (hli.below hB.out))
      clear q0 q1 q2 hli
      go_wp2_with fail
      refine HFE.out.mono ?_
      rintro e w2 ⟨rfl, b2⟩
      have HB2 := hide (more_below hB.out b2)
      have HFW := hide (show few16B gs l[j].c = few16B gs l[j].c from rfl)
      generalize hfw : few16B gs l[j].c = fw at HFW ⊢
      clear b2 HFE
      cases fw
      · go_wp2
        go_ret
        exact ⟨rfl, HB2.out⟩
      · have HF2 := hide (show ∀ m (hm : m < j + 1) (h : m < l.length), few16B gs l[m].c = true from fun m hm h => by
          by_cases hm2 : m < j
          · exact hf.out m hm2 h
          · obtain rfl : m = j := by omega
            exact hfw)
        clear hfw
        go_wp2
        go_roundw
        case rel => exact ⟨j + 1, by omega, by go_num, HF2, HB2⟩
        case measure => simp [intOf]; omega
    · obtain rfl : j = l.length := by omega
      have HFS := hide (show ∀ m (h : m < l.length), few16B gs l[m].c = true from fun m h => hf.out m h h)
      have HB := hide hB.out
      have HNE := hide (fnew_calls gs _ _ wr (HG.out.below hB.out))
      clear hf hB
      go_wp2_with fail
      refine HNE.out.mono ?_
      rintro e w2 ⟨b2, ⟨hw, rfl⟩ | ⟨hw, xb, mb, sgx, hxb, hmb, rfl, hix⟩⟩
      · have hw1 : weighC gs = 1 := (weighC_or gs).resolve_left hw
        have HB2 := hide (more_below HB.out b2)
        have hce : clauseC gs [] = 1 := by simp [clauseC, hw1]
        have HOF := hide (rof_calls gs [] _ (fun _ => False) _ (.slice none 0 0) w2 (fun x hx => by simp at hx) (HG.out.below HB2.out) (by simp only [Lits, RepD]; exact ⟨none, 0, 0, rfl, rfl, Nat.le_refl _, by omega, fun h => by omega⟩))
        rw [hce] at HOF
        rw [hw1]
        clear b2 hw HNE hw1 hce
        go_wp2_with fail
        refine HOF.out.mono ?_
        rintro e w3 ⟨v3, rfl, -, b3⟩
        have HB3 := hide (more_below HB2.out b3)
        clear b3 HOF HB2
        go_wp2_with fail
        refine (awake16_calls w3).mono ?_
        rintro e w4 ⟨rfl, b4⟩
        have HB4 := hide (more_below HB3.out b4)
        clear b4 HB3
        go_wp2
        go_ret
        exact ⟨rfl, HB4.out⟩
      · have HB2 := hide (more_below HB.out b2)
        have hwl := HB.out.size
        have hal : Below w2.heap.size w2 (w2.alloc (.cells #[.slice a0 gs.length c0, .slice none 0 0, .slice none 0 0] 80)) := (Below.refl _ _).alloc (Nat.le_refl _) _
        have kb := World.alloc_heap_new w2 (.cells #[.slice a0 gs.length c0, .slice none 0 0, .slice none 0 0] 80)
        have hxl := (Array.getElem?_eq_some_iff.1 hix.x).1
        have hml := hix.m.lt
        have hw2s := HB2.out.size
        have hinit : DoesInv w gs (.slice a0 gs.length c0) sgx xb mb w2.heap.size (2 + 2 * gs.length) (w2.alloc (.cells #[.slice a0 gs.length c0, .slice none 0 0, .slice none 0 0] 80)) 0 := by
          refine ⟨[], [], .slice none 0 0, .slice none 0 0, _, ⟨hix.below hal, ?_, ?_, ?_, fun y nb h => by cases h⟩, ⟨kb, ?_, World.ownsRow_nil _ _ _ _, OwnD.nil _ _ _ _ _, hw2s, by omega, ?_, ?_, ?_, ?_, by omega, ?_, rfl⟩, HB2.out.trans (hal.mono hw2s), ⟨.nil, by simp, rfl, fun c hc => by simp at hc⟩⟩
          · simp [RZ, Value.ownBlock]; omega
          · simp [RZ, Value.ownBlock]; omega
          · refine RepD.below (RepD.bar hix.g fun b hlt hb => ?_) hal
            rcases hb with hb | hb
            · exact hb
            · simp [RZ, Value.ownBlock] at hb; omega
          · exact RepD.below (RepD.below (RepD.bar HG.out (B := fun b => w.heap.size ≤ b) fun b hlt hb => by omega) HB2.out) hal
          all_goals simp [Value.ownBlock]
        have HINIT := hide hinit
        have HFR := hide (And.intro hxb hmb)
        clear hinit hal kb hix HNE b2 hw
        go_wp2
        go_loopw [11] (fun i wq => ∃ j : Nat, j ≤ l.length ∧ i = .int .i64 j ∧ Hid (DoesInv w gs (.slice a0 gs.length c0) sgx xb mb w2.heap.size (2 + 2 * gs.length) wq j)) (fun i _ => l.length - (intOf i).toNat)
        case atStart => exact ⟨0, by omega, rfl, HINIT⟩
        case round =>
          obtain ⟨j, hj, rfl, hinv⟩ := hrel
          by_cases hlt : j < l.length
          · obtain ⟨ids, cs, vi, vc, f, hz, hr, hb, hfn⟩ := hinv.out
            obtain ⟨b, off, al, cl, rfl, hbs, q0, q1, q2, hli⟩ := HS.out.get j hlt
            have Q0 := (hb.cell (p := ⟨b, off + j * 3, none⟩) hbs).trans q0
            have Q1 := (hb.cell (p := ⟨b, off + j * 3 + 1, none⟩) hbs).trans q1
            have Q2 := (hb.cell (p := ⟨b, off + j * 3 + 2, none⟩) hbs).trans q2
            have hidr := HID.out l[j] (List.getElem_mem hlt)
            have HFW := few16_lts (HFS.out j hlt)
            have hfl : l[j].c.length ≤ 40 := by
              have := HFS.out j hlt
              simp only [few16B, Bool.and_eq_true] at this
              exact (few10_sizes this.2).1
            have hlb : Lits (fun b => w.heap.size ≤ b) w (.slice al l[j].c.length cl) l[j].c := RepD.bar hli fun b hlt hb => by omega
            have hal : Below wr.heap.size wr (wr.alloc (.cells #[.int .i64 l[j].what, .int .i64 l[j].id, .slice al l[j].c.length cl] 73)) := (Below.refl _ _).alloc (Nat.le_refl _) _
            have kb := World.alloc_heap_new wr (.cells #[.int .i64 l[j].what, .int .i64 l[j].id, .slice al l[j].c.length cl] 73)
            have HZ := hide (hz.below hal)
            have HR := hide (hr.below hal)
            have HBB := hide (hb.trans (hal.mono hb.size))
            have HLI := hide (hlb.below (hb.trans (hal.mono hb.size)))
            have HFN := hide hfn
            have HBM := hide hmb
            have HKB := hide (show ∀ W : World, W.heap[wr.heap.size]? = some (.cells #[.int .i64 l[j].what, .int .i64 l[j].id, .slice al l[j].c.length cl] 73 (0, 0)) → W.cell? ⟨wr.heap.size, 1, none⟩ = some (.int .i64 l[j].id) ∧ W.cell? ⟨wr.heap.size, 2, none⟩ = some (.slice al l[j].c.length cl) from fun W h => by
              obtain ⟨-, -, z1, z2⟩ := box3 h
              exact ⟨z1, z2⟩)
            have HK0 := hide kb
            obtain ⟨-, z0, z1, z2⟩ := box3 kb
            have hsz := hb.size
            have hrbl := (hr.lt _ (.inl rfl)).2
            have hmbl := hz.ix.m.lt
            have hzl := hr.lt
            have HNR := hide (show ∀ b, (b = mb ∨ RZ w2.heap.size vi vc b) → b ≠ wr.heap.size from fun b hb => by
              rcases hb with rfl | hb
              · omega
              · have := (hzl b hb).2; omega)
            have hid20 : ids.length ≤ 100 := by have := hfn.le; omega
            have HMS := hide (wr.size_alloc (.cells #[.int .i64 l[j].what, .int .i64 l[j].id, .slice al l[j].c.length cl] 73))
            clear hz hr hb hfn q0 q1 q2 hli hlb hal kb hinv hzl
            generalize hsp : l[j] = sp at *
            obtain ⟨wh, idv, ls⟩ := sp
            simp only at *
            clear hsp
            generalize hW1 : wr.alloc (.cells #[.int .i64 wh, .int .i64 idv, .slice al ls.length cl] 73) = W1 at *
            have HW1 := hide hW1
            by_cases hw0 : wh = 0
            · subst hw0
              rw [← hW1] at z0 z1 z2
              clear hW1
              go_wp2
              rw [HW1.out]
              refine drawn_tree (fun W => W.cell? ⟨wr.heap.size, 1, none⟩ = some (.int .i64 idv) ∧ W.cell? ⟨wr.heap.size, 2, none⟩ = some (.slice al ls.length cl)) (.take 0 (.take 1 (.take 2 (.take 3 (.take 4 (.take 6 (.take 7 (.take 8 (.take 9 (.take 10 (.one 5 (.one 11 (.take 12 .done))))))))))))) (by kernel_rfl) (by kernel_rfl) (by kernel_rfl) (by kernel_rfl) (fun _ _ _ _ _ h => h) ?_ ?_
              · exact HKB.out _ HK0.out
              have g0 := (Below.refl W1.heap.size W1).drew
              have HZ0 := hide (HZ.out.below g0)
              have HR0 := hide (HR.out.below g0)
              have HL0 := hide (HLI.out.below g0)
              have HB0 := hide (HBB.out.trans (g0.mono HBB.out.size))
              have HK1 := hide ((g0.block _ (Array.getElem?_eq_some_iff.1 HK0.out).1).trans HK0.out)
              clear g0 z0 z1 z2 Q0 Q1 Q2 HZ HR HLI HBB HK0 HW1
              generalize W1.drew = W0 at *
              have hps := ixput_same (gs := gs) HFN.out.len idv ls
              have HP1 := hide hps.1
              have HP2 := hide hps.2
              clear hps
              iterate 10 (refine t_take (v := ?_) rfl (by rfl) ?_ ?_; rotate_left; (intro w hS; obtain ⟨hS1, hS2⟩ := hS; go_simp; try with_reducible rfl); simp only [Act.put, List.setIfInBounds_toArray, List.set_cons_zero, List.set_cons_succ])
              refine t_one rfl (by rfl) ?_
              intro K hK
              go_simp
              refine (xput_calls gs (Mof gs ids cs) (2 + 2 * gs.length) sgx f xb mb idv ls _ _ W0 hidr.1 hidr.2 HFW HZ0.out.ix HL0.out).mono ?_
              rintro e wa ⟨rfl, ka, f', hix, hrel⟩
              rw [HP1.out]
              rw [HP2.out] at hix
              have hlt0 := HR0.out.lt
              have HZA := hide (show IxZ (RZ w2.heap.size vi vc) wa xb mb gs (Mof gs (rputI gs ids idv ls) (rputL gs ids cs idv ls)) (2 + 2 * gs.length) sgx f' from ⟨hix, HZ0.out.zx, HZ0.out.zm, RepD.frame (fun b hb hlt => ka.block b hlt fun e => hb (.inl e)) (fun _ _ h => h) _ _ HZ0.out.zg, fun y nb hy => by
                rcases hrel y _ hy with h | ⟨nb', h1, h2⟩
                · exact HZ0.out.zr y nb h
                · simp only [Value.slice.injEq, Option.some.injEq, Addr.mk.injEq, and_true] at h2
                  intro hz
                  have := (hlt0 nb hz).2
                  omega⟩)
              have HRA := hide (HR0.out.keep ka)
              have HLA := hide (show Lits (fun b => w.heap.size ≤ b) wa (.slice al ls.length cl) ls from RepD.frame (fun b hb hlt => ka.block b hlt (by have := HR0.out.mb0; omega)) (fun _ _ h => h) _ _ HL0.out)
              have HBA := hide (HB0.out.trans (ka.below (fun b hb => by have := HR0.out.mb0; omega) HB0.out.size))
              have HKA := hide (ka.obj (fun e => HNR.out mb (.inl rfl) e.symm) HK1.out)
              have hmba : mb < wa.heap.size := HZA.out.ix.m.lt
              refine hK.out _ _ (HKB.out _ HKA.out) ?_
              clear hK K ka hix hrel hlt0 HP1 HP2 HZ0 HR0 HL0 HB0 HK1
              refine t_one rfl (by rfl) ?_
              intro K hK
              go_simp
              refine (rput_calls gs ids cs _ vi vc _ mb _ idv ls _ wa hid20 HFW hfl hmba HRA.out HLA.out).mono ?_
              rintro e wb ⟨rfl, vi', vc', hr', kb', gb'⟩
              have hlta := HRA.out.lt
              have HZB := hide (HZA.out.step kb' gb')
              have HRB := hide hr'
              have HBB := hide (HBA.out.trans (kb'.below (fun b hb h => by have := (hlta b h).1; omega) HBA.out.size))
              have HKB2 := hide (kb'.obj (fun e => HNR.out _ (.inr e) rfl) HKA.out)
              have HFN2 := hide (HFN.out.put idv ls HFW)
              refine hK.out _ _ (HKB.out _ HKB2.out) ?_
              clear hK K kb' gb' hr' hlta HZA HRA HLA HBA HKA HFN
              generalize rputC gs ids idv ls = pc at *
              have hne : (pc != pc) = false := by simp
              iterate 1 (refine t_take (v := ?_) rfl (by rfl) ?_ ?_; rotate_left; (intro w hS; obtain ⟨hS1, hS2⟩ := hS; go_simp; try with_reducible rfl); simp only [Act.put, List.setIfInBounds_toArray, List.set_cons_zero, List.set_cons_succ])
              refine t_done ?_
              go_wp2
              go_roundw
              case rel => exact ⟨j + 1, by omega, by go_num, hide ⟨_, _, vi', vc', f', HZB.out, HRB.out, HBB.out, HFN2.out⟩⟩
              case measure => simp [intOf]; omega
            by_cases hw1 : wh = 1
            · subst hw1
              rw [← hW1] at z0 z1 z2
              clear hW1
              have hne0 : ((1 : Int) == 0) = false := rfl
              go_wp2
              rw [HW1.out]
              refine drawn_tree (fun W => W.cell? ⟨wr.heap.size, 1, none⟩ = some (.int .i64 idv) ∧ W.cell? ⟨wr.heap.size, 2, none⟩ = some (.slice al ls.length cl)) (.take 0 (.take 1 (.take 2 (.take 4 (.take 5 (.take 6 (.one 3 (.one 7 (.take 8 .done))))))))) (by kernel_rfl) (by kernel_rfl) (by kernel_rfl) (by kernel_rfl) (fun _ _ _ _ _ h => h) ?_ ?_
              · exact HKB.out _ HK0.out
              have g0 := (Below.refl W1.heap.size W1).drew
              have HZ0 := hide (HZ.out.below g0)
              have HR0 := hide (HR.out.below g0)
              have HL0 := hide (HLI.out.below g0)
              have HB0 := hide (HBB.out.trans (g0.mono HBB.out.size))
              have HK1 := hide ((g0.block _ (Array.getElem?_eq_some_iff.1 HK0.out).1).trans HK0.out)
              clear g0 z0 z1 z2 Q0 Q1 Q2 HZ HR HLI HBB HK0 HW1
              generalize W1.drew = W0 at *
              have hps := ixdrop_same (gs := gs) HFN.out.len HFN.out.nd idv
              have HP1 := hide hps.1
              have HP2 := hide hps.2
              clear hps
              iterate 6 (refine t_take (v := ?_) rfl (by rfl) ?_ ?_; rotate_left; (intro w hS; obtain ⟨hS1, hS2⟩ := hS; go_simp; try with_reducible rfl); simp only [Act.put, List.setIfInBounds_toArray, List.set_cons_zero, List.set_cons_succ])
              refine t_one rfl (by rfl) ?_
              intro K hK
              go_simp
              refine (xdrop_calls gs (Mof gs ids cs) (2 + 2 * gs.length) sgx f xb mb idv W0 hidr.1 hidr.2 HZ0.out.ix).mono ?_
              rintro e wa ⟨rfl, ka, f', hix, hrel⟩
              rw [HP1.out]
              rw [HP2.out] at hix
              have hlt0 := HR0.out.lt
              have HZA := hide (show IxZ (RZ w2.heap.size vi vc) wa xb mb gs (Mof gs (rdropI ids idv) (rdropL ids cs idv)) (2 + 2 * gs.length) sgx f' from ⟨hix, HZ0.out.zx, HZ0.out.zm, RepD.frame (fun b hb hlt => ka.block b hlt fun e => hb (.inl e)) (fun _ _ h => h) _ _ HZ0.out.zg, fun y nb hy => HZ0.out.zr y nb (hrel y _ hy)⟩)
              have HRA := hide (HR0.out.keep ka)
              have HLA := hide (show Lits (fun b => w.heap.size ≤ b) wa (.slice al ls.length cl) ls from RepD.frame (fun b hb hlt => ka.block b hlt (by have := HR0.out.mb0; omega)) (fun _ _ h => h) _ _ HL0.out)
              have HBA := hide (HB0.out.trans (ka.below (fun b hb => by have := HR0.out.mb0; omega) HB0.out.size))
              have HKA := hide (ka.obj (fun e => HNR.out mb (.inl rfl) e.symm) HK1.out)
              have hmba : mb < wa.heap.size := HZA.out.ix.m.lt
              refine hK.out _ _ (HKB.out _ HKA.out) ?_
              clear hK K ka hix hrel hlt0 HP1 HP2 HZ0 HR0 HL0 HB0 HK1
              refine t_one rfl (by rfl) ?_
              intro K hK
              go_simp
              refine (rdrop_calls gs ids cs _ vi vc _ mb _ idv wa hid20 hmba HRA.out).mono ?_
              rintro e wb ⟨rfl, vi', vc', hr', kb', gb'⟩
              have hlta := HRA.out.lt
              have HZB := hide (HZA.out.step kb' gb')
              have HRB := hide hr'
              have HBB := hide (HBA.out.trans (kb'.below (fun b hb h => by have := (hlta b h).1; omega) HBA.out.size))
              have HKB2 := hide (kb'.obj (fun e => HNR.out _ (.inr e) rfl) HKA.out)
              have HFN2 := hide (HFN.out.drop idv)
              refine hK.out _ _ (HKB.out _ HKB2.out) ?_
              clear hK K kb' gb' hr' hlta HZA HRA HLA HBA HKA HFN
              generalize rdropC ids idv = pc at *
              have hne : (pc != pc) = false := by simp
              iterate 1 (refine t_take (v := ?_) rfl (by rfl) ?_ ?_; rotate_left; (intro w hS; obtain ⟨hS1, hS2⟩ := hS; go_simp; try with_reducible rfl); simp only [Act.put, List.setIfInBounds_toArray, List.set_cons_zero, List.set_cons_succ])
              refine t_done ?_
              go_wp2
              go_roundw
              case rel => exact ⟨j + 1, by omega, by go_num, hide ⟨_, _, vi', vc', f', HZB.out, HRB.out, HBB.out, HFN2.out⟩⟩
              case measure => simp [intOf]; omega
            by_cases hw2 : wh = 2
            · subst hw2
              have hne0 : ((2 : Int) == 0) = false := rfl
              have hne1 : ((2 : Int) == 1) = false := rfl
              have HZ0 := HZ
              rw [← hW1] at z0 z1 z2
              clear hW1
              have hM := Nat.le_trans (Mof_length gs ids cs) (show ids.length ≤ 1000 by omega)
              go_wp2_with fail
              rw [HW1.out]
              refine (xover_calls gs (Mof gs ids cs) (2 + 2 * gs.length) sgx f xb mb ls _ _ W1 hM HFW HZ.out.ix HLI.out).mono ?_
              rintro e wa ⟨bA, hfa⟩
              have HZA := hide (HZ.out.below bA)
              have HRA := hide (HR.out.below bA)
              have HLA := hide (HLI.out.below bA)
              have HBA := hide (more_below HBB.out bA)
              have HOA := hide (fun (base : Nat) (v : Value) (n : Nat) (xs : List Value) (h : wa.ownsRow base 3 1 v n xs) (W : World) (hW : Below wa.heap.size wa W) => ownsRow_keep h (Keep.of_below (S := fun _ => True) hW) fun _ _ => trivial)
              obtain ⟨z1, z2⟩ := HKB.out _ ((bA.block _ (Array.getElem?_eq_some_iff.1 HK0.out).1).trans HK0.out)
              clear bA HZ HR HLI HBB HW1 z0 HZ0
              rcases hfa with ⟨hc, rfl⟩ | ⟨hc, v, dn, bs, hbs, rfl, o1, d1, n1⟩
              · have HC := hide hc
                clear hc
                go_wp2_with fail
                refine (rover_calls gs ids cs _ vi vc _ mb _ ls _ _ wa hid20 HFW HFN.out.ok HRA.out HLA.out).mono ?_
                rintro e wb ⟨bB, ⟨hc', rfl⟩ | ⟨hc', -⟩⟩
                rotate_left
                · exact absurd hc' HC.out
                have HZB := hide (HZA.out.below bB)
                have HRB := hide (HRA.out.below bB)
                have HBB := hide (more_below HBA.out bB)
                clear bB hc' HZA HRA HLA HBA
                generalize clauseC gs ls = cc at *
                have hne : (cc != cc) = false := by simp
                go_wp2_with fail
                refine (rints_calls [] [] none none 0 0 wb ⟨by simp, fun i hi => by simp at hi⟩ ⟨by simp, fun i hi => by simp at hi⟩).mono ?_
                rintro e wd ⟨rfl, bD⟩
                have HZD := hide (HZB.out.below bD)
                have HRD := hide (HRB.out.below bD)
                have HBD := hide (more_below HBB.out bD)
                clear bD HZB HRB HBB
                have hdec : decide (([] : List Int) = []) = true := rfl
                rw [hdec]
                go_wp2
                go_roundw
                case rel => exact ⟨j + 1, by omega, by go_num, hide ⟨ids, cs, vi, vc, f, HZD.out, HRD.out, HBD.out, HFN.out.mono⟩⟩
                case measure => simp [intOf]; omega
              · have HC := hide hc
                rw [ixfind_same HFN.out.len HFN.out.nd true (feat gs ls) d1 n1] at o1
                have HO1 := hide o1
                clear hc o1 d1 n1 hbs
                go_wp2_with fail
                refine (rover_calls gs ids cs _ vi vc _ mb _ ls _ _ wa hid20 HFW HFN.out.ok HRA.out HLA.out).mono ?_
                rintro e wb ⟨bB, ⟨hc', rfl⟩ | ⟨hc', v2, bs2, hbs2, rfl, o2⟩⟩
                · exact absurd HC.out hc'
                have HO3 := hide (HOA.out _ _ _ _ HO1.out _ bB)
                have HZB := hide (HZA.out.below bB)
                have HRB := hide (HRA.out.below bB)
                have HBB := hide (more_below HBA.out bB)
                clear bB hc' HZA HRA HLA HBA HOA hbs2
                generalize sortR (rfindL true (feat gs ls) gs ids cs) = L at *
                have o3 := HO3.out
                obtain ⟨aa, ca, rfl, ia⟩ := ints_of_row o3
                obtain ⟨ab, cb, rfl, ib⟩ := ints_of_row o2
                have HIA := hide ia
                have HIB := hide ib
                clear ia ib o2 o3 HO1 HO3
                go_wp2_with fail
                refine (rints_calls L L aa ab ca cb wb HIA.out HIB.out).mono ?_
                rintro e wd ⟨rfl, bD⟩
                have HZD := hide (HZB.out.below bD)
                have HRD := hide (HRB.out.below bD)
                have HBD := hide (more_below HBB.out bD)
                clear bD HZB HRB HBB
                have hdec : decide (L = L) = true := by simp
                rw [hdec]
                go_wp2
                go_roundw
                case rel => exact ⟨j + 1, by omega, by go_num, hide ⟨ids, cs, vi, vc, f, HZD.out, HRD.out, HBD.out, HFN.out.mono⟩⟩
                case measure => simp [intOf]; omega
            · have hne0 : (wh == 0) = false := by simpa using hw0
              have hne1 : (wh == 1) = false := by simpa using hw1
              have hne2 : (wh == 2) = false := by simpa using hw2
              have HZ0 := HZ
              rw [← hW1] at z0 z1 z2
              clear hW1
              have hM := Nat.le_trans (Mof_length gs ids cs) (show ids.length ≤ 1000 by omega)
              go_wp2_with fail
              rw [HW1.out]
              refine (xbelow_calls gs (Mof gs ids cs) (2 + 2 * gs.length) sgx f xb mb ls _ _ W1 hM HFW HZ.out.ix HLI.out).mono ?_
              rintro e wa ⟨bA, hfa⟩
              have HZA := hide (HZ.out.below bA)
              have HRA := hide (HR.out.below bA)
              have HLA := hide (HLI.out.below bA)
              have HBA := hide (more_below HBB.out bA)
              have HOA := hide (fun (base : Nat) (v : Value) (n : Nat) (xs : List Value) (h : wa.ownsRow base 3 1 v n xs) (W : World) (hW : Below wa.heap.size wa W) => ownsRow_keep h (Keep.of_below (S := fun _ => True) hW) fun _ _ => trivial)
              obtain ⟨z1, z2⟩ := HKB.out _ ((bA.block _ (Array.getElem?_eq_some_iff.1 HK0.out).1).trans HK0.out)
              clear bA HZ HR HLI HBB HW1 z0 HZ0
              rcases hfa with ⟨hc, rfl⟩ | ⟨hc, v, dn, bs, hbs, rfl, o1, d1, n1⟩
              · have HC := hide hc
                clear hc
                go_wp2_with fail
                refine (rbelow_calls gs ids cs _ vi vc _ mb _ ls _ _ wa hid20 HFW HFN.out.ok HRA.out HLA.out).mono ?_
                rintro e wb ⟨bB, ⟨hc', rfl⟩ | ⟨hc', -⟩⟩
                rotate_left
                · exact absurd hc' HC.out
                have HZB := hide (HZA.out.below bB)
                have HRB := hide (HRA.out.below bB)
                have HBB := hide (more_below HBA.out bB)
                clear bB hc' HZA HRA HLA HBA
                generalize clauseC gs ls = cc at *
                have hne : (cc != cc) = false := by simp
                go_wp2_with fail
                refine (rints_calls [] [] none none 0 0 wb ⟨by simp, fun i hi => by simp at hi⟩ ⟨by simp, fun i hi => by simp at hi⟩).mono ?_
                rintro e wd ⟨rfl, bD⟩
                have HZD := hide (HZB.out.below bD)
                have HRD := hide (HRB.out.below bD)
                have HBD := hide (more_below HBB.out bD)
                clear bD HZB HRB HBB
                have hdec : decide (([] : List Int) = []) = true := rfl
                rw [hdec]
                go_wp2
                go_roundw
                case rel => exact ⟨j + 1, by omega, by go_num, hide ⟨ids, cs, vi, vc, f, HZD.out, HRD.out, HBD.out, HFN.out.mono⟩⟩
                case measure => simp [intOf]; omega
              · have HC := hide hc
                rw [ixfind_same HFN.out.len HFN.out.nd false (feat gs ls) d1 n1] at o1
                have HO1 := hide o1
                clear hc o1 d1 n1 hbs
                go_wp2_with fail
                refine (rbelow_calls gs ids cs _ vi vc _ mb _ ls _ _ wa hid20 HFW HFN.out.ok HRA.out HLA.out).mono ?_
                rintro e wb ⟨bB, ⟨hc', rfl⟩ | ⟨hc', v2, bs2, hbs2, rfl, o2⟩⟩
                · exact absurd HC.out hc'
                have HO3 := hide (HOA.out _ _ _ _ HO1.out _ bB)
                have HZB := hide (HZA.out.below bB)
                have HRB := hide (HRA.out.below bB)
                have HBB := hide (more_below HBA.out bB)
                clear bB hc' HZA HRA HLA HBA HOA hbs2
                generalize sortR (rfindL false (feat gs ls) gs ids cs) = L at *
                have o3 := HO3.out
                obtain ⟨aa, ca, rfl, ia⟩ := ints_of_row o3
                obtain ⟨ab, cb, rfl, ib⟩ := ints_of_row o2
                have HIA := hide ia
                have HIB := hide ib
                clear ia ib o2 o3 HO1 HO3
                go_wp2_with fail
                refine (rints_calls L L aa ab ca cb wb HIA.out HIB.out).mono ?_
                rintro e wd ⟨rfl, bD⟩
                have HZD := hide (HZB.out.below bD)
                have HRD := hide (HRB.out.below bD)
                have HBD := hide (more_below HBB.out bD)
                clear bD HZB HRB HBB
                have hdec : decide (L = L) = true := by simp
                rw [hdec]
                go_wp2
                go_roundw
                case rel => exact ⟨j + 1, by omega, by go_num, hide ⟨ids, cs, vi, vc, f, HZD.out, HRD.out, HBD.out, HFN.out.mono⟩⟩
                case measure => simp [intOf]; omega
          · obtain rfl : j = l.length := by omega
            obtain ⟨ids, cs, vi, vc, f, hz, hr, hb, hfn⟩ := hinv.out
            have HB := hide hb
            clear hinv hz hr hb hfn
            go_wp2_with fail
            refine (awake16_calls wr).mono ?_
            rintro e w9 ⟨rfl, b9⟩
            have HB9 := hide (more_below HB.out b9)
            clear b9
            go_wp2
            go_ret
            exact ⟨rfl, HB9.out⟩
end Go.Proofs.Ythplndalbfcbbaa
