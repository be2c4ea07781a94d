/- (*elenchusref17.Index).Drop, walked. -/
import Derived.Test.YtneecjikdghchaaDoorDrawX
import Derived.Test.YtneecjikdghchaaDoorRCopy
import Derived.Test.YtneecjikdghchaaDoorRef1c
set_option linter.unusedSimpArgs false
set_option linter.unusedVariables false
namespace Go.Proofs.YtneecjikdghchaaDoor
section
open Go.RowKit

/-- The blocks that the reference's index is written in. -/
def RZ7 (yb : Nat) (vl vi : Value) : Nat → Prop := fun b => b = yb ∨ vl.ownBlock = some b ∨ vi.ownBlock = some b
structure R17 (w : World) (A : Nat → Prop) (yb : Nat) (ids : List Int) (L : List Tm) (vl vi : Value) (base : Nat) : Prop where
  x : w.heap[yb]? = some (.cells #[vl, vi] 47 (0, 0))
  r : OwnD (fun b => A b ∨ b = yb ∨ vi.ownBlock = some b) w base 24 2 vl (L.map Tm.d)
  i : w.ownsRow base 3 1 vi ids.length (ids.map (Value.int .i64))
  yb0 : base ≤ yb
  ne1 : vl.ownBlock ≠ some yb
  ne2 : vi.ownBlock ≠ some yb
  ne3 : ∀ b, vi.ownBlock = some b → vl.ownBlock ≠ some b
  na : ∀ b, RZ7 yb vl vi b → ¬ A b
  la : ∀ b, A b → b < w.heap.size
section
variable {w w' : World} {A A' : Nat → Prop} {yb : Nat} {ids : List Int} {L : List Tm} {vl vi : Value} {base : Nat}
theorem R17.lt (h : R17 w A yb ids L vl vi base) : ∀ b, RZ7 yb vl vi b → base ≤ b ∧ b < w.heap.size := by
  rintro b (rfl | hb | hb)
  · exact ⟨h.yb0, (Array.getElem?_eq_some_iff.1 h.x).1⟩
  · exact h.r.lt b hb
  · exact h.i.lt b hb
theorem R17.shift (h : R17 w A yb ids L vl vi base) (hk : Keep (fun b => ¬ A b) w w') (hA : ∀ b, A' b → (A b ∨ w.heap.size ≤ b) ∧ b < w'.heap.size) : R17 w' A' yb ids L vl vi base :=
  { h with
    x := hk.obj (h.na yb (.inl rfl)) h.x
    i := ownsRow_keep h.i hk fun b hb => h.na b (.inr (.inr hb))
    r := h.r.step hk (fun b _ hb hz => hb (.inl hz)) (fun b hb => h.na b (.inr (.inl hb))) fun b hlt hb => by
      rcases hb with hb | hb
      · rcases (hA b hb).1 with h9 | h9
        · exact .inl h9
        · omega
      · exact .inr hb
    na := fun b hb hz => by
      rcases (hA b hz).1 with h9 | h9
      · exact h.na b hb h9
      · have := (h.lt b hb).2; omega
    la := fun b hb => (hA b hb).2 }
theorem R17.below (h : R17 w A yb ids L vl vi base) (hB : Below w.heap.size w w') : R17 w' A yb ids L vl vi base :=
  h.shift (Keep.of_below hB) fun b hb => ⟨.inl hb, Nat.lt_of_lt_of_le (h.la b hb) hB.size⟩
/-- Term i as it lies in memory. -/
theorem R17.row (h : R17 w A yb ids L vl vi base) : ∃ a c, vl = .slice a L.length c ∧ ∀ i (hi : i < L.length), ∃ b s, a = some ⟨b, 0, none⟩ ∧ w.cell? ⟨b, i * 2, none⟩ = some (.int .i64 (L[i]).h) ∧ w.cell? ⟨b, i * 2 + 1, none⟩ = some s ∧ Terms (fun b => A b ∨ RZ7 yb vl vi b) w s (L[i]).args := by
  obtain ⟨a, c, hv⟩ := h.r.shape
  rw [List.length_map] at hv
  refine ⟨a, c, hv, fun i hi => ?_⟩
  obtain ⟨css, h1, h2, h3⟩ := h.r
  rcases h1.2 with ⟨h0, h0'⟩ | ⟨g, cap, cur, q1, hg, hh, hn, hm, hs, ht⟩
  · rw [List.length_map] at h0'; omega
  · rw [q1] at hv
    simp only [Value.slice.injEq] at hv
    have hR : RepR (fun b => (A b ∨ b = yb ∨ vi.ownBlock = some b) ∨ vl.ownBlock = some b) w g 2 0 (L.map Tm.d) := RepR.of css (L.map Tm.d) 0 h2 (fun j hj => by
      have := h1.cells (g := g) (by rw [q1]; rfl) j (css.flatten[j]) (by simp)
      rw [add_plain] at this
      rw [Nat.zero_add, this]; simp) h3
    obtain ⟨cs, e1, e2, e3⟩ := hR.at i (by simpa using hi)
    simp only [List.getElem_map] at e3
    obtain ⟨s, rfl, e4⟩ := repTm.1 e3
    refine ⟨g, s, hv.1.symm, by simpa using e2 0 (by omega), by simpa using e2 1 (by omega), e4.bar fun b _ hb => ?_⟩
    rcases hb with hb | hb | hb | hb
    · exact .inl (.inl hb)
    · exact .inl (.inr (.inl hb))
    · exact .inr hb
    · exact .inl (.inr (.inr hb))
theorem R17.pushI (h : R17 w A yb ids L vl vi base) {id : Int} {vi' : Value} (r1 : w'.ownsRow base 3 1 vi' (ids.length + 1) (ids.map (Value.int .i64) ++ [.int .i64 id])) (r2 : Keep (fun b => vi.ownBlock ≠ some b) w w') (r3 : ∀ b, vi'.ownBlock = some b → vi.ownBlock = some b ∨ w.heap.size < b) :
    R17 (w'.setCell ⟨yb, 1, none⟩ vi') A yb (ids ++ [id]) L vl vi' base ∧ Moved (RZ7 yb vl vi) (RZ7 yb vl vi') w (w'.setCell ⟨yb, 1, none⟩ vi') := by
  have K1 : Keep (fun b => b ≠ yb) w' (w'.setCell ⟨yb, 1, none⟩ vi') := (Keep.refl _ _).setCell (p := ⟨yb, 1, none⟩) (by simp) vi'
  have K2 : Keep (fun b => vi.ownBlock ≠ some b ∧ b ≠ yb) w (w'.setCell ⟨yb, 1, none⟩ vi') := (r2.mono fun b _ h => h.1).trans (K1.mono fun b _ h => h.2)
  have lyb := (h.lt yb (.inl rfl)).2
  have n2 : vi'.ownBlock ≠ some yb := fun e => by
    rcases r3 _ e with h9 | h9
    · exact h.ne2 h9
    · omega
  have n3 : ∀ b, vi'.ownBlock = some b → vl.ownBlock ≠ some b := fun b hb hv => by
    rcases r3 _ hb with h9 | h9
    · exact h.ne3 b h9 hv
    · have := (h.r.lt b hv).2; omega
  refine ⟨{ h with
    x := box2_set1 (r2.obj h.ne2 h.x) vi'
    r := h.r.step K2 (fun b _ hb => ⟨fun e => hb (.inr (.inr e)), fun e => hb (.inr (.inl e))⟩) (fun b hb => ⟨fun e => h.ne3 b e hb, fun e => h.ne1 (e ▸ hb)⟩) fun b hlt hb => by
      rcases hb with hb | hb | hb
      · exact .inl hb
      · exact .inr (.inl hb)
      · rcases r3 _ hb with h9 | h9
        · exact .inr (.inr h9)
        · omega
    i := by
      have := ownsRow_keep r1 K1 fun b hb e => n2 (e ▸ hb)
      simpa using this
    ne2 := n2
    ne3 := n3
    na := fun b hb hz => by
      rcases hb with hb | hb | hb
      · exact h.na b (.inl hb) hz
      · exact h.na b (.inr (.inl hb)) hz
      · rcases r3 _ hb with h9 | h9
        · exact h.na b (.inr (.inr h9)) hz
        · have := h.la b hz; omega
    la := fun b hb => Nat.lt_of_lt_of_le (h.la b hb) K2.size }, K2.mono fun b _ hb => ⟨fun e => hb (.inr (.inr e)), fun e => hb (.inl e)⟩, fun b hb => ?_⟩
  rcases hb with hb | hb | hb
  · exact .inl (.inl hb)
  · exact .inl (.inr (.inl hb))
  · rcases r3 _ hb with h9 | h9
    · exact .inl (.inr (.inr h9))
    · exact .inr (by omega)
theorem R17.pushL (h : R17 w A yb ids L vl vi base) {g cap : Nat} {t : Tm} (hg : vl.ownBlock = some g ∨ w.heap.size ≤ g) (hgl : g < w'.heap.size) (hbase : base ≤ w.heap.size) (k : Keep (fun b => vl.ownBlock ≠ some b ∧ b ≠ g ∧ b ≠ yb) w w')
    (o : OwnD (fun b => A b ∨ b = yb ∨ vi.ownBlock = some b) w' base 24 2 (.slice (some ⟨g, 0, none⟩) (L.length + 1) cap) (L.map Tm.d ++ [t.d])) (x : w'.heap[yb]? = some (.cells #[.slice (some ⟨g, 0, none⟩) (L.length + 1) cap, vi] 47 (0, 0))) :
    R17 w' A yb ids (L ++ [t]) (.slice (some ⟨g, 0, none⟩) (L.length + 1) cap) vi base ∧ Moved (RZ7 yb vl vi) (RZ7 yb (.slice (some ⟨g, 0, none⟩) (L.length + 1) cap) vi) w w' := by
  have lyb := (h.lt yb (.inl rfl)).2
  have hgy : g ≠ yb := by
    rintro rfl
    rcases hg with h9 | h9
    · exact h.ne1 h9
    · omega
  have hgv : vi.ownBlock ≠ some g := fun e => by
    rcases hg with h9 | h9
    · exact h.ne3 g e h9
    · have := (h.i.lt g e).2; omega
  have hmap : L.map Tm.d ++ [t.d] = (L ++ [t]).map Tm.d := by rw [List.map_append]; rfl
  refine ⟨{ h with
    x := x
    r := by rw [← hmap]; exact o
    i := ownsRow_keep h.i k fun b hb => ⟨fun e => h.ne3 b hb e, fun e => hgv (e ▸ hb), fun e => h.ne2 (e ▸ hb)⟩
    ne1 := fun e => hgy (by simpa [Value.ownBlock] using e)
    ne3 := fun b hb e => hgv (by simp only [Value.ownBlock, Option.some.injEq] at e; rw [e]; exact hb)
    na := fun b hb hz => by
      rcases hb with hb | hb | hb
      · exact h.na b (.inl hb) hz
      · simp only [Value.ownBlock, Option.some.injEq] at hb
        subst hb
        rcases hg with h9 | h9
        · exact h.na _ (.inr (.inl h9)) hz
        · have := h.la _ hz; omega
      · exact h.na b (.inr (.inr hb)) hz
    la := fun b hb => Nat.lt_of_lt_of_le (h.la b hb) k.size }, ⟨k.os, k.tape, k.output, k.size, fun b hb hn => k.block b hb ⟨fun e => hn (.inr (.inl e)), fun e => ?_, fun e => hn (.inl e)⟩⟩, fun b hb => ?_⟩
  · subst e
    rcases hg with h9 | h9
    · exact hn (.inr (.inl h9))
    · omega
  · rcases hb with hb | hb | hb
    · exact .inl (.inl hb)
    · simp only [Value.ownBlock, Option.some.injEq] at hb
      subst hb
      rcases hg with h9 | h9
      · exact .inl (.inr (.inl h9))
      · exact .inr h9
    · exact .inl (.inr (.inr hb))
end
theorem box2_set0 {w : World} {b : Nat} {x y v : Value} {t : TypeId} (h : w.heap[b]? = some (.cells #[x, y] t (0, 0))) : (w.setCell ⟨b, 0, none⟩ v).heap[b]? = some (.cells #[v, y] t (0, 0)) := by
  simp [World.setCell, Array.getElem?_modify, h]
set_option maxHeartbeats 4000000 in
set_option maxRecDepth 100000 in
theorem r17at_calls (ids : List Int) (yb : Nat) (base : Nat) (vl vi : Value) (id : Int) (w : World) (hl : ids.length ≤ 1000000) (hx : w.heap[yb]? = some (.cells #[vl, vi] 47 (0, 0))) (hi : w.ownsRow base 3 1 vi ids.length (ids.map (Value.int .i64))) :
    Calls Tryd.prog 41 #[.pointer (some ⟨yb, 0, none⟩), .int .i64 id] w fun e w' => e = .returned (.int .i64 (atI ids id)) ∧ w' = w := by
  obtain ⟨a, c, rfl, -, hin⟩ := ints_of_row hi
  obtain ⟨-, q0, q1, -, -⟩ := box2 hx
  have HI := hide hin
  clear hi hin hx
  go_enter Tryd.func41, Tryd.ntmps41
  go_wp2
  go_loopw [5] (fun i wr => ∃ j : Nat, j ≤ ids.length ∧ i = .int .i64 j ∧ Hid (atG id (ids.drop j) j = atI ids id) ∧ Hid (wr = w)) (fun i _ => ids.length - (intOf i).toNat)
  case atStart => exact ⟨0, by omega, rfl, hide rfl, hide rfl⟩
  case round =>
    obtain ⟨j, hj, rfl, hn, hw⟩ := hrel
    obtain rfl := hw.out
    by_cases hlt : j < ids.length
    · obtain ⟨b, off, rfl, y0⟩ := HI.out j hlt
      have hd := hn.out
      rw [atG_drop ids id j hlt] at hd
      by_cases he : ids[j] = id
      · rw [if_pos he] at hd
        have HR := hide hd
        clear hd
        have HE := hide he
        generalize ids[j] = y at *
        subst he
        go_wp2
        go_ret
        exact ⟨ret_int HR.out, rfl⟩
      · rw [if_neg he] at hd
        have HN := hide hd
        clear hd
        have hne : (ids[j] == id) = false := by simpa using he
        generalize ids[j] = y at *
        clear he
        go_wp2
        go_roundw
        case rel => exact ⟨j + 1, by omega, by go_num, HN, by first | exact hide rfl | exact hide trivial⟩
        case measure => simp [intOf]; omega
    · obtain rfl : j = ids.length := by omega
      have hd := hn.out
      rw [List.drop_eq_nil_of_le (Nat.le_refl _), atG] at hd
      have HR := hide hd
      clear hd
      go_wp2
      go_ret
      exact ⟨ret_int HR.out, rfl⟩
end
section
open Go.RowKit

def rp17 (ids : List Int) (L : List Tm) (id : Int) (t : Tm) : List Int × List Tm × Int := if rightB t = false ∨ 0 ≤ atI ids id then (ids, L, 1) else if 4096 ≤ ids.length then (ids, L, 9) else (ids ++ [id], L ++ [t], 0)
def R17Post (w w' : World) (A : Nat → Prop) (yb : Nat) (ids : List Int) (L : List Tm) (vl vi : Value) (base : Nat) : Prop := ∃ vl' vi', R17 w' A yb ids L vl' vi' base ∧ Moved (RZ7 yb vl vi) (RZ7 yb vl' vi') w w'
set_option maxHeartbeats 8000000 in
set_option maxRecDepth 100000 in
theorem r17put_calls {A : Nat → Prop} {yb : Nat} {ids : List Int} {L : List Tm} {vl vi : Value} {base : Nat} (id : Int) (t : Tm) (B : Nat → Prop) (h : Int) (s : Value) (w : World) (hz : t.size ≤ 1000000) (hbs : base ≤ w.heap.size) (hl : ids.length ≤ 4096) (hlen : L.length = ids.length)
    (hx : R17 w A yb ids L vl vi base) (hs : IsTm B w h s t) :
    Calls Tryd.prog 22 #[.pointer (some ⟨yb, 0, none⟩), .int .i64 id, .agg #[.int .i64 h, s]] w fun e w' => e = .returned (.int .i64 (rp17 ids L id t).2.2) ∧ R17Post w w' A yb (rp17 ids L id t).1 (rp17 ids L id t).2.1 vl vi base := by
  have hLl : L.length ≤ 4096 := by omega
  clear hlen
  obtain ⟨rfl, a, c, rfl, hlc, hc⟩ := hs.shape
  have hb0 : Below w.heap.size w (w.alloc (.cells #[.int .i64 t.h, .slice a t.args.length c] 24)) := (Below.refl _ _).alloc (Nat.le_refl _) _
  have HX := hide (hx.below hb0)
  have HS := hide (hs.below hb0)
  have HB := hide hb0
  have HBX := hide (World.alloc_heap_new w (.cells #[.int .i64 t.h, .slice a t.args.length c] 24))
  clear hx hs hb0
  go_enter Tryd.func22, Tryd.ntmps22
  go_wp2_with fail
  generalize w.alloc (.cells #[.int .i64 t.h, .slice a t.args.length c] 24) = w0 at *
  refine (right_calls t _ _ _ w0 (by omega) HS.out).mono ?_
  rintro e w1 ⟨rfl, b1⟩
  have HX1 := hide (HX.out.below b1)
  have HS1 := hide (HS.out.below b1)
  have HB1 := hide (more_below HB.out b1)
  have HBX1 := hide ((b1.block _ (Array.getElem?_eq_some_iff.1 HBX.out).1).trans HBX.out)
  clear b1 HX HS HB HBX
  have HM1 := hide (Moved.of_below (Z := RZ7 yb vl vi) HB1.out)
  have HPD := hide (show rp17 ids L id t = if rightB t = false ∨ 0 ≤ atI ids id then (ids, L, 1) else if 4096 ≤ ids.length then (ids, L, 9) else (ids ++ [id], L ++ [t], 0) from rfl)
  cases hr : rightB t with
  | false =>
    have HP := hide (show rp17 ids L id t = (ids, L, 1) by rw [HPD.out, if_pos (.inl hr)])
    clear hr
    go_wp2
    go_ret
    rw [HP.out]
    exact ⟨rfl, _, _, HX1.out, HM1.out⟩
  | true =>
    go_wp2_with fail
    refine (r17at_calls ids yb base vl vi id w1 (by omega) HX1.out.x HX1.out.i).mono ?_
    rintro e w1' ⟨rfl, rfl⟩
    by_cases hge : 0 ≤ atI ids id
    · have hd : decide (atI ids id ≥ 0) = true := by simpa using hge
      have HP := hide (show rp17 ids L id t = (ids, L, 1) by rw [HPD.out, if_pos (.inr hge)])
      clear hge hr
      go_wp2
      go_ret
      rw [HP.out]
      exact ⟨rfl, _, _, HX1.out, HM1.out⟩
    have hd : decide (atI ids id ≥ 0) = false := by simpa using hge
    have HNN := hide (show ¬ (rightB t = false ∨ 0 ≤ atI ids id) by rw [hr]; simp; omega)
    clear hge hr
    obtain ⟨-, q0, q1, -, -⟩ := box2 HX1.out.x
    obtain ⟨-, z0, z1, -, -⟩ := box2 HBX1.out
    obtain ⟨ia, ic, hvi, -⟩ := ints_of_row HX1.out.i
    subst hvi
    by_cases hfl : 4096 ≤ ids.length
    · have hd9 : decide ((ids.length : Int) ≥ 4096) = true := by simp; omega
      have HP := hide (show rp17 ids L id t = (ids, L, 9) by rw [HPD.out, if_neg HNN.out, if_pos hfl])
      go_wp2
      go_ret
      rw [HP.out]
      exact ⟨rfl, _, _, HX1.out, HM1.out⟩
    have hd9 : decide ((ids.length : Int) ≥ 4096) = false := by simp; omega
    have HP := hide (show rp17 ids L id t = (ids ++ [id], L ++ [t], 0) by rw [HPD.out, if_neg HNN.out, if_neg hfl])
    clear HPD HNN
    go_wp2_with fail
    refine (rcopy_calls _ t _ (fun b => A b ∨ RZ7 yb vl (.slice ia ids.length ic) b) _ _ w1' (Nat.le_refl _) hz (fun b hb => ?_) HS1.out).mono ?_
    · rcases hb with hb | hb
      · exact HX1.out.la b hb
      · exact (HX1.out.lt b hb).2
    rintro e w2 ⟨s2, rfl, hT2, b2⟩
    obtain ⟨ta, tc, rfl, -, -⟩ := hT2.shape
    have hb3 : Below w2.heap.size w2 (w2.alloc (.cells #[.int .i64 t.h, .slice ta t.args.length tc] 24)) := (Below.refl _ _).alloc (Nat.le_refl _) _
    have HK3 := hide (World.alloc_heap_new w2 (.cells #[.int .i64 t.h, .slice ta t.args.length tc] 24))
    have HT3 := hide (hT2.below hb3)
    have HX3 := hide ((HX1.out.below b2).below hb3)
    have HM3 := hide ((HM1.out.trans (Moved.of_below (Z := RZ7 yb vl (.slice ia ids.length ic)) b2)).trans (Moved.of_below (Z := RZ7 yb vl (.slice ia ids.length ic)) hb3))
    have HB3 := hide (more_below (more_below HB1.out b2) hb3)
    have HLT := hide (show ∀ b, (A b ∨ RZ7 yb vl (.slice ia ids.length ic) b) → b < w2.heap.size from fun b hb => by
      have := b2.size
      rcases hb with hb | hb
      · have := HX1.out.la b hb; omega
      · have := (HX1.out.lt b hb).2; omega)
    clear hb3 b2 hT2 HX1 HM1 z0 z1 q0 q1 HB1 HS1 HBX1
    obtain ⟨hyl, q0, q1, -, -⟩ := box2 HX3.out.x
    have hk9 : (ids.length + 1) * 8 ≤ 140737488355328 := by omega
    have hbw : base ≤ (w2.alloc (.cells #[.int .i64 t.h, .slice ta t.args.length tc] 24)).heap.size := by have := (HX3.out.lt yb (.inl rfl)); omega
    generalize hw3 : w2.alloc (.cells #[.int .i64 t.h, .slice ta t.args.length tc] 24) = w3 at *
    go_wp2_with (at_builtin; refine app_pl rfl _ _ 34 rfl base 3 (.int .i64 0) 1 8 Tryd.underlying34 (by kernel_rfl) rfl (by decide) (by decide) (.slice ia ids.length ic) ids.length _ rfl HX3.out.i 1 1 _ rfl (by simp [Value.oneCell']) rfl hk9 hbw ?_; intro vi' w4 r1 r2 r3 r4; obtain ⟨ia', ic', rfl⟩ := r4; obtain ⟨-, s0, s1, s2', s3'⟩ := box2 (r2.obj HX3.out.ne2 HX3.out.x))
    obtain ⟨X5, M5⟩ := HX3.out.pushI (id := id) (by simpa using r1) r2 r3
    have hcb3 : w2.heap.size < w3.heap.size := (Array.getElem?_eq_some_iff.1 HK3.out).1
    have hcz : ¬ RZ7 yb vl (.slice ia ids.length ic) w2.heap.size := fun h => by have := HLT.out _ (.inr h); omega
    have HK5 := hide (M5.1.obj hcz HK3.out)
    have HT5 := hide (show Terms (fun b => A b ∨ RZ7 yb vl (.slice ia' (ids.length + 1) ic') b) _ _ _ from RepD.frame (A := fun b => A b ∨ RZ7 yb vl (.slice ia ids.length ic) b) (fun b hb hlt => M5.1.block b hlt fun h => hb (.inr h)) (fun b hlt hb => by
      rcases hb with hb | hb
      · exact .inl hb
      · rcases M5.2 b hb with h9 | h9
        · exact .inr h9
        · omega) _ _ HT3.out)
    have HX5 := hide X5
    have HM5 := hide (HM3.out.trans M5)
    have hcz5 : ¬ RZ7 yb vl (.slice ia' (ids.length + 1) ic') w2.heap.size := fun h => by
      rcases M5.2 _ h with h9 | h9
      · exact hcz h9
      · omega
    have hbw5 : base ≤ (w4.setCell ⟨yb, 1, none⟩ (.slice ia' (ids.length + 1) ic')).heap.size := Nat.le_trans hbw M5.1.size
    clear X5 M5 r1 r2 r3 HX3 HK3 HT3 HM3 hw3 HLT hcz q0 q1 hyl hcb3 s0 s1 s2' s3'
    generalize w4.setCell ⟨yb, 1, none⟩ (.slice ia' (ids.length + 1) ic') = w5 at *
    generalize hviE : Value.slice ia' (ids.length + 1) ic' = vi5 at *
    generalize w2.heap.size = cb at *
    obtain ⟨la, lc, hlv⟩ := HX5.out.r.shape
    rw [List.length_map] at hlv
    subst hlv
    have g3 := (Below.refl w5.heap.size w5).drew
    have HX6 := hide (HX5.out.below g3)
    have HK6 := hide ((g3.block _ (Array.getElem?_eq_some_iff.1 HK5.out).1).trans HK5.out)
    have HT6 := hide (HT5.out.below g3)
    have HM6 := hide (HM5.out.trans (Moved.of_below (Z := RZ7 yb (.slice la L.length lc) vi5) g3))
    have hbw6 : base ≤ w5.drew.heap.size := Nat.le_trans hbw5 g3.size
    obtain ⟨-, y0, -, -, -⟩ := box2 HX6.out.x
    obtain ⟨hcb, z0, z1, -, -⟩ := box2 HK6.out
    refine drawn_pair (fun W' => W'.cell? ⟨cb, 0, none⟩ = some (.int .i64 t.h) ∧ W'.cell? ⟨cb, 1, none⟩ = some (.slice ta t.args.length tc)) (fun W' => W'.cell? ⟨yb, 0, none⟩ = some (.slice la L.length lc)) 7 (.take 0 (.take 1 (.take 2 (.takeD 3 (.take 4 (.take 5 (.one 6 (.last 7 (.take 8 (.take 10 (.take 11 (.pair 9 (.last 12 .done) 12 (.last 9 .done))))))))))))) (by kernel_rfl) (by kernel_rfl) (by kernel_rfl) (by kernel_rfl) (fun _ _ _ _ _ h => h) ⟨z0, z1⟩ y0 ?_
    clear HX5 HK5 HT5 HM5 g3 y0 z0 z1 hbw5
    generalize w5.drew = w6 at *
    iterate 3 (refine x_take (v := ?_) rfl (by rfl) ?_ ?_; rotate_left; (intro w hS; obtain ⟨hS1, hS2⟩ := hS; go_simp; try with_reducible rfl); simp only [Act.put, List.setIfInBounds_toArray, List.set_cons_zero, List.set_cons_succ])
    iterate 1 (refine x_takeD (v := ?_) rfl (by rfl) ?_ ?_; rotate_left; (intro w hS; obtain ⟨-, hS1⟩ := hS; go_simp; try with_reducible rfl); simp only [Act.put, List.setIfInBounds_toArray, List.set_cons_zero, List.set_cons_succ])
    iterate 2 (refine x_take (v := ?_) rfl (by rfl) ?_ ?_; rotate_left; (intro w hS; obtain ⟨hS1, hS2⟩ := hS; go_simp; try with_reducible rfl); simp only [Act.put, List.setIfInBounds_toArray, List.set_cons_zero, List.set_cons_succ])
    obtain ⟨hyl, y0, -, -, -⟩ := box2 HX6.out.x
    obtain ⟨-, z0, z1, -, -⟩ := box2 HK6.out
    refine x_one rfl (by rfl) ?_
    intro K hK
    go_simp
    refine hK.out _ _ ⟨(World.cell?_alloc_lt _ _ _ hcb).trans z0, (World.cell?_alloc_lt _ _ _ hcb).trans z1⟩ ((World.cell?_alloc_lt _ _ _ hyl).trans y0) ?_
    clear hK K
    refine x_last rfl (by rfl) ?_
    intro K hK
    have HLK := hide (show (L.map Tm.d).length = L.length by simp)
    refine app_op2 (.tmp 38) (.tmp 41) 22 rfl base 24 (.agg #[.int .i64 0, .slice none 0 0]) 32 Tryd.underlying22 (by kernel_rfl) rfl (v := .slice la L.length lc) (d := (Tm.node 0 []).d) rfl rfl HX6.out.r (repTm.2 ⟨_, rfl, Terms.nil _ _⟩) rfl rfl (by rw [HLK.out]; unfold maxLen; omega) (by rw [HLK.out]; omega) hbw6 ?_
    intro g cap w7 o1 k1 hg hcells
    rw [HLK.out] at o1 hcells ⊢
    obtain ⟨c0, c1, c2, c3⟩ := hcells
    have hgl : g < w7.heap.size := World.block_lt_of_cell? _ _ c0
    have hgcb : cb ≠ g := by
      rintro rfl
      rcases hg with hg | hg
      · exact hcz5 (.inr (.inl hg))
      · omega
    have hgy : yb ≠ g := by
      rintro rfl
      rcases hg with hg | hg
      · exact HX6.out.ne1 hg
      · omega
    have hycb : cb ≠ yb := by rintro rfl; exact hcz5 (.inl rfl)
    have HK7 := hide (k1.obj (fun e => hcz5 (.inr (.inl e))) HK6.out)
    have HY7 := hide (k1.obj HX6.out.ne1 HX6.out.x)
    obtain ⟨-, z0, z1, -, -⟩ := box2 HK7.out
    refine hK.out _ _ ⟨z0, z1⟩ ?_
    clear hK K
    have HD7 := hide (show RepD (fun b => (A b ∨ b = yb ∨ vi5.ownBlock = some b) ∨ b = g) w7 t.d [.int .i64 t.h, .slice ta t.args.length tc] from
      (show RepD (fun b => A b ∨ RZ7 yb (.slice la L.length lc) vi5 b) w6 t.d [.int .i64 t.h, .slice ta t.args.length tc] from repTm.2 ⟨_, rfl, HT6.out⟩).frame (fun b hb hlt => k1.block b hlt fun h => hb (.inr (.inr (.inl h)))) fun b hlt hb => by
        rcases hb with (hb | hb | hb) | hb
        · exact .inl hb
        · exact .inr (.inl hb)
        · exact .inr (.inr (.inr hb))
        · rcases hg with hg | hg
          · exact .inr (.inr (.inl (hb ▸ hg)))
          · omega)
    have HEND := hide (show ∀ w8, OwnD (fun b => A b ∨ b = yb ∨ vi5.ownBlock = some b) w8 base 24 2 (.slice (some ⟨g, 0, none⟩) (L.length + 1) cap) (L.map Tm.d ++ [t.d]) → w8.heap[yb]? = some (.cells #[(.slice (some ⟨g, 0, none⟩) (L.length + 1) cap), vi5] 47 (0, 0)) → Keep (fun b => b ≠ g ∧ b ≠ yb) w7 w8 → R17Post w w8 A yb (ids ++ [id]) (L ++ [t]) (.slice la L.length lc) (.slice ia ids.length ic) base from fun w8 h1 h2 h3 => by
      obtain ⟨f1, f2⟩ := HX6.out.pushL (t := t) hg (Nat.lt_of_lt_of_le hgl h3.size) hbw6 ((k1.mono fun b _ h => h.1).trans (h3.mono fun b _ h => h.2)) h1 h2
      exact ⟨_, _, f1, HM6.out.trans f2⟩)
    have HO1 := hide o1
    clear o1 k1 hg HX6 HT6 HM6 HK6
    iterate 1 (refine x_take (v := ?_) rfl (by rfl) ?_ ?_; rotate_left; (intro w hS; obtain ⟨hS1, hS2⟩ := hS; go_simp; rw [if_pos (by omega)]); simp only [Act.put, List.setIfInBounds_toArray, List.set_cons_zero, List.set_cons_succ])
    iterate 2 (refine x_take (v := ?_) rfl (by rfl) ?_ ?_; rotate_left; (intro w hS; obtain ⟨hS1, hS2⟩ := hS; go_simp; try with_reducible rfl); simp only [Act.put, List.setIfInBounds_toArray, List.set_cons_zero, List.set_cons_succ])
    refine x_pair rfl rfl (by rfl) (by rfl) ?_ ?_
    · intro K hK
      go_simp
      have HK8 := hide (show ((w7.setCell ⟨g, L.length * 2, none⟩ (.int .i64 t.h)).setCell ⟨g, L.length * 2 + 1, none⟩ (.slice ta t.args.length tc)).heap[cb]? = _ from (Below.heap_setCell _ _ _ _ (by show cb ≠ g; exact hgcb)).trans ((Below.heap_setCell _ _ _ _ (by show cb ≠ g; exact hgcb)).trans HK7.out))
      have HY8 := hide (show ((w7.setCell ⟨g, L.length * 2, none⟩ (.int .i64 t.h)).setCell ⟨g, L.length * 2 + 1, none⟩ (.slice ta t.args.length tc)).heap[yb]? = _ from (Below.heap_setCell _ _ _ _ (by show yb ≠ g; exact hgy)).trans ((Below.heap_setCell _ _ _ _ (by show yb ≠ g; exact hgy)).trans HY7.out))
      have HO8 := hide (OwnD.put2 HO1.out HLK.out HD7.out)
      have HK78 := hide (show Keep (fun b => b ≠ g ∧ b ≠ yb) w7 ((w7.setCell ⟨g, L.length * 2, none⟩ (.int .i64 t.h)).setCell ⟨g, L.length * 2 + 1, none⟩ (.slice ta t.args.length tc)) from ((Keep.refl _ _).setCell (p := ⟨g, L.length * 2, none⟩) (by simp) (.int .i64 t.h)).setCell (p := ⟨g, L.length * 2 + 1, none⟩) (by simp) (.slice ta t.args.length tc))
      obtain ⟨-, z0, z1, -, -⟩ := box2 HK8.out
      refine hK.out _ _ ⟨z0, z1⟩ ?_
      clear hK K c0 c1 c2 c3
      generalize (w7.setCell ⟨g, L.length * 2, none⟩ (.int .i64 t.h)).setCell ⟨g, L.length * 2 + 1, none⟩ (.slice ta t.args.length tc) = w8 at *
      obtain ⟨y9, y0, y1, y2, y3⟩ := box2 HY8.out
      refine x_last rfl (by rfl) ?_
      intro K hK
      go_simp
      have HK89 := hide (show Keep (fun b => b ≠ yb) w8 (w8.setCell ⟨yb, 0, none⟩ (.slice (some ⟨g, 0, none⟩) (L.length + 1) cap)) from (Keep.refl _ _).setCell (p := ⟨yb, 0, none⟩) (by simp) (.slice (some ⟨g, 0, none⟩) (L.length + 1) cap))
      have HK9 := hide (HK89.out.obj hycb HK8.out)
      have HY9 := hide (box2_set0 (v := (.slice (some ⟨g, 0, none⟩) (L.length + 1) cap)) HY8.out)
      have HF := hide (HEND.out _ (HO8.out.keep HK89.out (fun b _ hb e => hb (.inr (.inl e))) fun b hb e => hgy (by simp only [Value.ownBlock, Option.some.injEq] at hb; rw [hb, e])) HY9.out (HK78.out.trans (HK89.out.mono fun b _ h => h.2)))
      obtain ⟨-, z0, z1, -, -⟩ := box2 HK9.out
      refine hK.out _ _ ⟨z0, z1⟩ ?_
      clear hK K
      refine x_done ?_
      obtain ⟨x9, x0, -, -, -⟩ := box2 HY9.out
      clear HY8 HK8 HK9 HY7 HK7 HO8 HD7 HK78 HK89 z0 z1 y0 y1 y2 y3 hgy hgcb hgl HEND HO1 y9 hycb
      generalize w8.setCell ⟨yb, 0, none⟩ (.slice (some ⟨g, 0, none⟩) (L.length + 1) cap) = w9 at *
      go_wp2
      go_ret
      rw [HP.out]
      exact ⟨rfl, HF.out⟩
    · intro K hK
      obtain ⟨y9, y0, y1, y2, y3⟩ := box2 HY7.out
      go_simp
      have HK78 := hide (show Keep (fun b => b ≠ yb) w7 (w7.setCell ⟨yb, 0, none⟩ (.slice (some ⟨g, 0, none⟩) (L.length + 1) cap)) from (Keep.refl _ _).setCell (p := ⟨yb, 0, none⟩) (by simp) (.slice (some ⟨g, 0, none⟩) (L.length + 1) cap))
      have HK8 := hide (HK78.out.obj hycb HK7.out)
      have HY8 := hide (box2_set0 (v := (.slice (some ⟨g, 0, none⟩) (L.length + 1) cap)) HY7.out)
      have HO8 := hide (HO1.out.keep HK78.out (fun b _ hb e => hb (.inr (.inl e))) fun b hb e => hgy (by simp only [Value.ownBlock, Option.some.injEq] at hb; rw [hb, e]))
      have HD8 := hide (HD7.out.keep HK78.out fun b _ hb e => hb (.inl (.inr (.inl e))))
      have d0 : (w7.setCell ⟨yb, 0, none⟩ (.slice (some ⟨g, 0, none⟩) (L.length + 1) cap)).cell? ⟨g, L.length * 2, none⟩ = _ := HK78.out.cell (p := ⟨g, L.length * 2, none⟩) (fun e => hgy e.symm) c0
      have d1 : (w7.setCell ⟨yb, 0, none⟩ (.slice (some ⟨g, 0, none⟩) (L.length + 1) cap)).cell? ⟨g, L.length * 2 + 1, none⟩ = _ := HK78.out.cell (p := ⟨g, L.length * 2 + 1, none⟩) (fun e => hgy e.symm) c1
      have d2 : (w7.setCell ⟨yb, 0, none⟩ (.slice (some ⟨g, 0, none⟩) (L.length + 1) cap)).frozen? ⟨g, L.length * 2, none⟩ = false := by
        obtain ⟨css, q, -⟩ := HO8.out; rw [show (L.map Tm.d ++ [(Tm.node 0 []).d]).length = L.length + 1 by simp] at q; have q2 := q.frozenAt (L.length * 2); simpa using q2
      have d3 : (w7.setCell ⟨yb, 0, none⟩ (.slice (some ⟨g, 0, none⟩) (L.length + 1) cap)).frozen? ⟨g, L.length * 2 + 1, none⟩ = false := by
        obtain ⟨css, q, -⟩ := HO8.out; rw [show (L.map Tm.d ++ [(Tm.node 0 []).d]).length = L.length + 1 by simp] at q; have q2 := q.frozenAt (L.length * 2 + 1); simpa using q2
      obtain ⟨-, z0, z1, -, -⟩ := box2 HK8.out
      refine hK.out _ _ ⟨z0, z1⟩ ?_
      clear hK K c0 c1 c2 c3 y0 y1 y9 y2 y3
      generalize w7.setCell ⟨yb, 0, none⟩ (.slice (some ⟨g, 0, none⟩) (L.length + 1) cap) = w8 at *
      refine x_last rfl (by rfl) ?_
      intro K hK
      go_simp
      have HK89 := hide (show Keep (fun b => b ≠ g) w8 ((w8.setCell ⟨g, L.length * 2, none⟩ (.int .i64 t.h)).setCell ⟨g, L.length * 2 + 1, none⟩ (.slice ta t.args.length tc)) from ((Keep.refl _ _).setCell (p := ⟨g, L.length * 2, none⟩) (by simp) (.int .i64 t.h)).setCell (p := ⟨g, L.length * 2 + 1, none⟩) (by simp) (.slice ta t.args.length tc))
      have HK9 := hide (HK89.out.obj hgcb HK8.out)
      have HY9 := hide (HK89.out.obj hgy HY8.out)
      have HF := hide (HEND.out _ (OwnD.put2 HO8.out HLK.out HD8.out) HY9.out ((HK78.out.mono fun b _ h => h.2).trans (HK89.out.mono fun b _ h => h.1)))
      obtain ⟨-, z0, z1, -, -⟩ := box2 HK9.out
      refine hK.out _ _ ⟨z0, z1⟩ ?_
      clear hK K d0 d1 d2 d3
      refine x_done ?_
      obtain ⟨x9, x0, -, -, -⟩ := box2 HY9.out
      clear HY8 HK8 HK9 HY7 HK7 HO8 HD7 HD8 HK78 HK89 z0 z1 hgy hgcb hgl HEND HO1 hycb
      generalize (w8.setCell ⟨g, L.length * 2, none⟩ (.int .i64 t.h)).setCell ⟨g, L.length * 2 + 1, none⟩ (.slice ta t.args.length tc) = w9 at *
      go_wp2
      go_ret
      rw [HP.out]
      exact ⟨rfl, HF.out⟩
end
open Go.RowKit

theorem OwnD.bar {A B : Nat → Prop} {w : World} {base e k : Nat} {v : Value} {ds : List D} (h : OwnD A w base e k v ds) (hB : ∀ b, b < w.heap.size → B b → A b) : OwnD B w base e k v ds := by
  obtain ⟨css, h1, h2, h3⟩ := h
  exact ⟨css, h1, h2, h3.imp fun cs d hd => RepD.bar hd fun b hlt hb => by
    rcases hb with hb | hb
    · exact .inl (hB b hlt hb)
    · exact .inr hb⟩
theorem OwnD.snoc1 {A : Nat → Prop} {W w' : World} {base e k : Nat} {v v' : Value} {ds : List D} {d : D} {cs : List Value} {css : List (List Value)} (h1 : W.ownsRow base e k v ds.length css.flatten) (h2 : ∀ cs, cs ∈ css → cs.length = k) (h3 : All2 (fun cs d => RepD (fun b => A b ∨ v.ownBlock = some b) W d cs) css ds) (hcs : cs.length = k) (hd : RepD (fun b => A b ∨ v.ownBlock = some b) W d cs)
    (r1 : w'.ownsRow base e k v' (ds.length + 1) (css.flatten ++ cs)) (r2 : Keep (fun b => v.ownBlock ≠ some b) W w') (r3 : ∀ b, v'.ownBlock = some b → v.ownBlock = some b ∨ W.heap.size < b) : OwnD A w' base e k v' (ds ++ [d]) := by
  have hf : ∀ c d, RepD (fun b => A b ∨ v.ownBlock = some b) W d c → RepD (fun b => A b ∨ v'.ownBlock = some b) w' d c := fun c d h => h.frame (fun b hb hlt => r2.block b hlt (fun h => hb (.inr h))) (fun b hb h => by
    rcases h with h | h
    · exact .inl h
    · rcases r3 b h with h | h
      · exact .inr h
      · omega)
  refine ⟨css ++ [cs], by simpa using r1, fun c hc => ?_, (h3.imp hf).append (.cons (hf _ _ hd) .nil)⟩
  rcases List.mem_append.1 hc with h | h
  · exact h2 c h
  · simp at h; rw [h]; exact hcs
def rd17 (ids : List Int) (L : List Tm) (id : Int) : List Int × List Tm × Int := if 0 ≤ atI ids id then (ids.eraseIdx (atI ids id).toNat, L.eraseIdx (atI ids id).toNat, 0) else (ids, L, 6)
set_option maxHeartbeats 8000000 in
set_option maxRecDepth 100000 in
theorem r17drop_calls {A : Nat → Prop} {yb : Nat} {ids : List Int} {L : List Tm} {vl vi : Value} {base : Nat} (id : Int) (w : World) (hbs : base ≤ w.heap.size) (hl : ids.length ≤ 4096) (hlen : L.length = ids.length)
    (hx : R17 w A yb ids L vl vi base) :
    Calls Tryd.prog 24 #[.pointer (some ⟨yb, 0, none⟩), .int .i64 id] w fun e w' => e = .returned (.int .i64 (rd17 ids L id).2.2) ∧ R17Post w w' A yb (rd17 ids L id).1 (rd17 ids L id).2.1 vl vi base := by
  have HLN := hide hlen
  clear hlen
  have HX := hide hx
  have HPD := hide (show rd17 ids L id = if 0 ≤ atI ids id then (ids.eraseIdx (atI ids id).toNat, L.eraseIdx (atI ids id).toNat, 0) else (ids, L, 6) from rfl)
  have HAR := hide (atI_range ids id)
  clear hx
  go_enter Tryd.func24, Tryd.ntmps24
  go_wp2_with fail
  refine (r17at_calls ids yb base vl vi id w (by omega) HX.out.x HX.out.i).mono ?_
  rintro e w1 ⟨rfl, rfl⟩
  generalize hat : atI ids id = at_ at HAR HPD ⊢
  by_cases hge : at_ < 0
  · have hd : decide (at_ < 0) = true := by simpa using hge
    have HP := hide (show rd17 ids L id = (ids, L, 6) by rw [HPD.out, if_neg (by omega)])
    clear hge
    go_wp2
    go_ret
    rw [HP.out]
    exact ⟨rfl, vl, vi, HX.out, Moved.refl _ _⟩
  have hd : decide (at_ < 0) = false := by simpa using hge
  obtain ⟨k, rfl⟩ : ∃ k : Nat, at_ = k := ⟨at_.toNat, by omega⟩
  have hkl : k < ids.length := by have := HAR.out; omega
  have HP := hide (show rd17 ids L id = (ids.eraseIdx k, L.eraseIdx k, 0) by rw [HPD.out, if_pos (by omega), Int.toNat_natCast])
  clear hge HAR hat hd HPD
  obtain ⟨hyb, q0, q1, -, -⟩ := box2 HX.out.x
  obtain ⟨ai, ci, hvi, hin⟩ := ints_of_row HX.out.i
  obtain ⟨ac, cc, hvl, hrow⟩ := HX.out.row
  have HIN := hide hin
  have HLI := hide hrow
  subst hvi hvl
  clear hin hrow
  have hd : decide ((k : Int) < 0) = false := by simp
  have HLE := hide (show ∀ j, ((ids.take j).eraseIdx k).length ≤ 4096 ∧ ((L.take j).eraseIdx k).length ≤ 4096 from fun j => by
    have e1 := List.length_eraseIdx_le (ids.take j) k
    have e2 := List.length_eraseIdx_le (L.take j) k
    have := HLN.out
    rw [List.length_take] at e1 e2
    omega)
  go_wp2
  go_loopw [6, 7, 8] (fun v6 v7 i wr => ∃ j : Nat, j ≤ ids.length ∧ i = .int .i64 j ∧ Hid (wr.ownsRow w1.heap.size 3 1 v6 ((ids.take j).eraseIdx k).length (((ids.take j).eraseIdx k).map (Value.int .i64))) ∧ Hid (OwnD (fun b => A b ∨ b = yb ∨ w1.heap.size ≤ b) wr w1.heap.size 24 2 v7 (((L.take j).eraseIdx k).map Tm.d)) ∧ Hid (Below w1.heap.size w1 wr) ∧ Hid (∀ b, v6.ownBlock = some b → v7.ownBlock ≠ some b)) (fun _ _ i _ => ids.length - (intOf i).toNat)
  case atStart => exact ⟨0, by omega, rfl, hide (World.ownsRow_nil _ _ _ _), hide (OwnD.nil _ _ _ _ _), hide (Below.refl _ _), hide (fun b h => by simp [Value.ownBlock] at h)⟩
  case round =>
    obtain ⟨j, hj, rfl, h6, h7, hB, hne⟩ := hrel
    have XW := hide ((hB.out.block yb hyb).trans HX.out.x)
    obtain ⟨-, p0, p1, -, -⟩ := box2 XW.out
    have HSW := hide hB.out.size
    by_cases hlt : j < ids.length
    · by_cases hjk : j = k
      · subst hjk
        have hb1 : ((j : Int) != (j : Int)) = false := by simp
        have E1 := hide (erase_same ids j hlt)
        have E2 := hide (erase_same L j (by have := HLN.out; omega))
        go_wp2
        go_roundw
        case rel => exact ⟨j + 1, by omega, by go_num, hide (by rw [E1.out]; exact h6.out), hide (by rw [E2.out]; exact h7.out), hB, hne⟩
        case measure => simp [intOf]; omega
      · have hb1 : ((j : Int) != (k : Int)) = true := by simp; omega
        have hl7 : j < L.length := by have := HLN.out; omega
        have E1 := hide (erase_step ids j k hlt hjk)
        have E2 := hide (erase_step L j k hl7 hjk)
        obtain ⟨bi, oi, hai, y0⟩ := HIN.out.2 j hlt
        obtain ⟨bc, sc, hac, y1, y2, y3⟩ := HLI.out j hl7
        subst hai hac
        have hbi := World.block_lt_of_cell? w1 ⟨bi, oi + j, none⟩ y0
        have hbc := World.block_lt_of_cell? w1 ⟨bc, j * 2, none⟩ y1
        have Y0 := (hB.out.cell (p := ⟨bi, oi + j, none⟩) hbi).trans y0
        have Y1 := (hB.out.cell (p := ⟨bc, j * 2, none⟩) hbc).trans y1
        have Y2 := (hB.out.cell (p := ⟨bc, j * 2 + 1, none⟩) hbc).trans y2
        obtain ⟨al, cl, rfl, -, -⟩ := y3.shape
        have Y3 := hide (show RepD (fun b => A b ∨ b = yb ∨ w1.heap.size ≤ b) w1 (L[j]).d [.int .i64 (L[j]).h, .slice al (L[j]).args.length cl] from repTm.2 ⟨_, rfl, RepD.bar y3 fun b hlt hb => by
          rcases hb with hb | hb | hb
          · exact .inl hb
          · exact .inr (.inl hb)
          · omega⟩)
        clear y0 y1 y2 y3
        have hle := HLE.out j
        have hk9 : (((ids.take j).eraseIdx k).length + 1) * 8 ≤ 140737488355328 := by omega
        have hk8 : ((((L.take j).eraseIdx k).map Tm.d).length + 1) * 32 ≤ 140737488355328 := by rw [List.length_map]; omega
        obtain ⟨css, g1, g2, g3⟩ := h7.out
        have G1 := hide g1
        have G2 := hide g2
        have G3 := hide g3
        clear g1 g2 g3 h7 hle
        generalize hidj : ids[j] = yi at *
        go_wp2_with (at_builtin; first
          | (refine app_pl rfl _ _ 34 rfl w1.heap.size 3 (.int .i64 0) 1 8 Tryd.underlying34 (by kernel_rfl) rfl (by decide) (by decide) u6 ((ids.take j).eraseIdx k).length _ rfl h6.out 1 1 _ rfl (by simp [Value.oneCell']) rfl hk9 HSW.out ?_; intro v6' w3 r1 r2 r3 r4; obtain ⟨ia, ic, rfl⟩ := r4; have X3 := hide (r2.obj (fun h => by have := (h6.out.lt yb h).1; omega) XW.out); obtain ⟨-, s0, s1, -, -⟩ := box2 X3.out; have Z1 := r2.cell (p := ⟨bc, j * 2, none⟩) (fun h => by have := (h6.out.lt bc h).1; simp only at hbc; omega) Y1; have Z2 := r2.cell (p := ⟨bc, j * 2 + 1, none⟩) (fun h => by have := (h6.out.lt bc h).1; simp only at hbc; omega) Y2)
          | (refine app_pl rfl _ _ 22 rfl w1.heap.size 24 (.agg #[.int .i64 0, .slice none 0 0]) 2 32 Tryd.underlying22 (by kernel_rfl) rfl (by decide) (by decide) u7 (((L.take j).eraseIdx k).map Tm.d).length _ rfl (ownsRow_keep G1.out r2 fun b hb h => hne.out b h hb) 1 1 _ rfl (by simp [Value.oneCell']) rfl hk8 (Nat.le_trans HSW.out r2.size) ?_; intro v7' w5 t1 t2 t3 t4; obtain ⟨ca, cc2, rfl⟩ := t4))
        generalize hv6 : Value.slice ia (((ids.take j).eraseIdx k).length + 1) ic = v6' at *
        rw [show ((L.take j).eraseIdx k).length + 1 = (((L.take j).eraseIdx k).map Tm.d).length + 1 from by rw [List.length_map]]
        generalize hv7 : Value.slice ca ((((L.take j).eraseIdx k).map Tm.d).length + 1) cc2 = v7' at *
        have l6 := h6.out.lt
        have l6' := r1.lt
        have l7 := G1.out.lt
        have S2 := r2.size
        have B3 : Below w1.heap.size w1 w3 := hB.out.trans (r2.below (fun b hb h => by have := (l6 b h).1; omega) HSW.out)
        have B5 : Below w1.heap.size w1 w5 := B3.trans (t2.below (fun b hb h => by have := (l7 b h).1; omega) B3.size)
        have H6 := hide (ownsRow_keep r1 t2 fun b hb h => by
          rcases r3 b hb with h1 | h1
          · exact hne.out b h1 h
          · have := (l7 b h).2; omega)
        have H7 : OwnD (fun b => A b ∨ b = yb ∨ w1.heap.size ≤ b) w5 w1.heap.size 24 2 v7' (((L.take j).eraseIdx k).map Tm.d ++ [(L[j]).d]) :=
          OwnD.snoc1 (ownsRow_keep G1.out r2 fun b hb h => hne.out b h hb) G2.out (G3.out.imp fun c d hd => hd.frame (fun b hb hlt => r2.block b hlt fun h => hb (.inl (.inr (.inr (l6 b h).1)))) (fun _ _ h => h)) rfl
            ((RepD.bar (B := fun b => (A b ∨ b = yb ∨ w1.heap.size ≤ b) ∨ u7.ownBlock = some b) Y3.out fun b hlt hb => by
              rcases hb with hb | hb
              · exact hb
              · have := (l7 b hb).1; omega).frame (fun b hb hlt => B3.block b (by
                rcases Nat.lt_or_ge b w1.heap.size with h | h
                · exact h
                · exact absurd (.inl (.inr (.inr h))) hb)) (fun _ _ h => h)) t1 t2 t3
        have HNE := hide (show ∀ b, v6'.ownBlock = some b → v7'.ownBlock ≠ some b from fun b h h' => by
          rcases t3 b h' with h1 | h1
          · rcases r3 b h with h2 | h2
            · exact hne.out b h2 h1
            · have := (l7 b h1).2; omega
          · have := (l6' b h).2; omega)
        go_roundw
        case rel => exact ⟨j + 1, by omega, by go_num, hide (by rw [E1.out, List.length_append, List.map_append]; exact H6.out), hide (by rw [E2.out, List.map_append]; exact H7), hide B5, HNE⟩
        case measure => simp [intOf]; omega
    · obtain rfl : j = ids.length := by omega
      have h6' := h6.out
      have h7' := h7.out
      rw [List.take_length] at h6'
      rw [← HLN.out, List.take_length] at h7'
      obtain ⟨a6, c6, rfl, -⟩ := ints_of_row h6'
      obtain ⟨a7, c7, rfl⟩ := h7'.shape
      have H6 := hide h6'
      have H7 := hide h7'
      have X4 := hide (box2_set1 XW.out (.slice a6 (ids.eraseIdx k).length c6))
      have X5 := hide (box2_set0 (v := .slice a7 ((L.eraseIdx k).map Tm.d).length c7) X4.out)
      obtain ⟨-, -, -, -, z1⟩ := box2 XW.out
      obtain ⟨-, s0, s1, z2, -⟩ := box2 X4.out
      clear h6' h7' h6 h7
      have e7 : (List.map Tm.d (L.eraseIdx k)).length = (L.eraseIdx k).length := by simp
      go_wp2
      go_ret
      rw [HP.out]
      refine ⟨rfl, ?_⟩
      generalize hv6 : Value.slice a6 (ids.eraseIdx k).length c6 = v6 at *
      rw [← e7]
      generalize hv7 : Value.slice a7 ((L.eraseIdx k).map Tm.d).length c7 = v7 at *
      have hx := HX.out
      have h6 := H6.out
      have h7 := H7.out
      have l6 := h6.lt
      have l7 := h7.lt
      have L1 := hx.lt
      have lrb := L1 yb (.inl rfl)
      have K1 : Keep (fun b => b ≠ yb) wr (wr.setCell ⟨yb, 1, none⟩ v6) := (Keep.refl _ _).setCell (p := ⟨yb, 1, none⟩) (by simp) v6
      have K2 : Keep (fun b => b ≠ yb) (wr.setCell ⟨yb, 1, none⟩ v6) ((wr.setCell ⟨yb, 1, none⟩ v6).setCell ⟨yb, 0, none⟩ v7) := (Keep.refl _ _).setCell (p := ⟨yb, 0, none⟩) (by simp) v7
      have K3 := K1.trans K2
      have n1 : v6.ownBlock ≠ some yb := fun h => by have := (l6 _ h).1; omega
      have n2 : v7.ownBlock ≠ some yb := fun h => by have := (l7 _ h).1; omega
      have KT : Keep (fun b => b ≠ yb) w1 _ := (Keep.of_below hB.out).trans K3
      have hbase : base ≤ w1.heap.size := by omega
      refine ⟨v7, v6, { x := X5.out, r := ?_, i := ?_, yb0 := hx.yb0, ne1 := n2, ne2 := n1, ne3 := fun b hb => hne.out b hb, na := ?_, la := fun b hb => Nat.lt_of_lt_of_le (hx.la b hb) KT.size }, KT.mono fun b _ h e => h (.inl e), ?_⟩
      · have h := (h7.keep K3 (fun b _ hb e => hb (.inr (.inl e))) (fun b hb e => n2 (e ▸ hb))).bar (B := fun b => A b ∨ b = yb ∨ v6.ownBlock = some b) fun b _ hb => by
          rcases hb with hb | hb | hb
          · exact .inl hb
          · exact .inr (.inl hb)
          · exact .inr (.inr (l6 b hb).1)
        exact h.base hbase
      · have h := ownsRow_keep h6 K3 (fun b hb e => n1 (e ▸ hb))
        exact ownsRow_base h hbase
      · rintro b (hb | hb | hb) hz
        · exact hx.na b (.inl hb) hz
        · have := (l7 b hb).1; have := hx.la b hz; omega
        · have := (l6 b hb).1; have := hx.la b hz; omega
      · rintro b (hb | hb | hb)
        · exact .inl (.inl hb)
        · exact .inr (l7 b hb).1
        · exact .inr (l6 b hb).1
end Go.Proofs.YtneecjikdghchaaDoor
