/- path.mark, walked. -/
import Derived.Shelf.SlMaps.Clone
import Derived.Test.YtneecjikdghchaaDoorPx2
set_option linter.unusedSimpArgs false
set_option linter.unusedVariables false
namespace Go.Proofs.YtneecjikdghchaaDoor
open Go.RowKit

theorem zeroSet (W : World) : (zeroValue 78).run Tryd.prog W = .ok (.map none) W := by kernel_rfl
open Classical in
noncomputable def pputF (f : Value → Option Value) (k v : Value) : Value → Option Value := fun y => if y = k then some v else f y
theorem setF_single (id : Int) : (fun y => if y = id then some (Value.bool true) else none) = setF (fun x => x = id) := by
  funext y
  simp [setF]
theorem pbox3 {w : World} {b : Nat} {x y z : Value} {t : TypeId} (h : w.heap[b]? = some (.cells #[x, y, z] t (0, 0))) : w.cell? ⟨b, 0, none⟩ = some x ∧ w.cell? ⟨b, 1, none⟩ = some y ∧ w.cell? ⟨b, 2, none⟩ = some z :=
  ⟨by simp [World.cell?, h], by simp [World.cell?, h], by simp [World.cell?, h]⟩
theorem pputF_same (f : Value → Option Value) (k v : Value) : pputF f k v k = some v := by simp [pputF]
theorem pputF_other (f : Value → Option Value) {k y : Value} (h : y ≠ k) (v : Value) : pputF f k v y = f y := by simp [pputF, h]

set_option maxHeartbeats 4000000 in
set_option maxRecDepth 100000 in
theorem markH_calls {A : Nat → Prop} {xb rb hb ab : Nat} {fr : Int → Option Value} {fh fa : Value → Option Value} {role : Nat → Option PRole} {X : List (Int × Tm)} {Hs : Spt → Int → Prop} {As : List Nat → Int → Prop} {base : Nat} (s : Spt) (id : Int) (w : World) (hs : SptOk s) (h0 : -9223372036854775808 ≤ id) (h1 : id ≤ 9223372036854775807) (hbs : base ≤ w.heap.size)
    (hx : PxAt w A xb rb hb ab fr fh fa role X Hs As base) :
    Calls Tryd.prog 30 #[.map (some hb), .agg #[.string (plB s.p), .int .i64 s.h, .int .i64 s.n], .int .i64 id] w fun e w' => e = .returned (.tuple #[]) ∧
      ∃ fh' role', PxAt w' A xb rb hb ab fr fh' fa role' X (fun s' x => Hs s' x ∨ (s' = s ∧ x = id)) As base ∧ PMoved role role' w w' := by
  obtain ⟨kl, hkey⟩ := spot_key hs
  have hb0 : Below w.heap.size w (w.alloc (.cells #[.string (plB s.p), .int .i64 s.h, .int .i64 s.n] 68)) := (Below.refl _ _).alloc (Nat.le_refl _) _
  have HX := hide (hx.below hb0)
  have HB := hide hb0
  have hlook := HX.out.h.look spotKeyed Tryd.underlying60 (zeroSet _) hkey false
  simp only [Bool.false_eq_true, if_false, Spt.key, placeS] at hlook
  clear hb0
  go_enter Tryd.func30, Tryd.ntmps30
  cases hf : fh s.key with
  | some v =>
    obtain ⟨s', ib, e1, rfl, e3, e4⟩ := HX.out.h1 _ _ hf
    obtain rfl := key_inj e1
    have heq := run_eql_map_nil_sl (P := Tryd.prog) (w.alloc (.cells #[.string (plB s.p), .int .i64 s.h, .int .i64 s.n] 68)) 78 _ _ (some ib) Tryd.underlying78
    obtain ⟨W', hup, hm, hk⟩ := e4.store (P := Tryd.prog) (k := 3) (t := 78) (e := 4) Tryd.underlying3 Tryd.underlying78 h0 h1 (.bool true)
    have HP := hide (HX.out.had (s := s) hf hk hm)
    simp only [Spt.key, placeS] at hf
    rw [hf] at hlook
    simp only [Option.getD_some] at hlook
    clear e4 hm hk HX hf e1 hx
    go_wp2
    go_end0
    exact ⟨rfl, _, _, HP.out.1, ⟨(Keep.of_below HB.out).trans HP.out.2.1, fun b hb => by
      rcases HP.out.2.2 b hb with h | h
      · exact .inl h
      · have := HB.out.size; exact .inr (by omega)⟩⟩
  | none =>
    have hmm := @run_makeMap Tryd.prog
    have heq := run_eql_map_nil_sl (P := Tryd.prog) (w.alloc (.cells #[.string (plB s.p), .int .i64 s.h, .int .i64 s.n] 68)) 78 _ _ none Tryd.underlying78
    have hb1 : Below (w.alloc (.cells #[.string (plB s.p), .int .i64 s.h, .int .i64 s.n] 68)).heap.size (w.alloc (.cells #[.string (plB s.p), .int .i64 s.h, .int .i64 s.n] 68)) ((w.alloc (.cells #[.string (plB s.p), .int .i64 s.h, .int .i64 s.n] 68)).alloc (.map #[] 0)) := (Below.refl _ _).alloc (Nat.le_refl _) _
    obtain ⟨W2, hup2, hv2, hk2⟩ := (HX.out.h.below hb1).store spotKeyed Tryd.underlying60 hkey (.map (some (w.alloc (.cells #[.string (plB s.p), .int .i64 s.h, .int .i64 s.n] 68)).heap.size)) (pputF fh s.key (.map (some (w.alloc (.cells #[.string (plB s.p), .int .i64 s.h, .int .i64 s.n] 68)).heap.size))) (pputF_same _ _ _) (fun y hy => pputF_other _ hy _)
    have hne : hb ≠ (w.alloc (.cells #[.string (plB s.p), .int .i64 s.h, .int .i64 s.n] 68)).heap.size := fun e => by have := HX.out.h.lt; omega
    obtain ⟨c0, c1, c2⟩ := pbox3 (hk2.obj (show w.heap.size ≠ hb from fun e => by have := hx.h.lt; omega) (hb1.block _ (by simp) |>.trans (World.alloc_heap_new w (.cells #[.string (plB s.p), .int .i64 s.h, .int .i64 s.n] 68))))
    have hm2 := (MapAt.made (w.alloc (.cells #[.string (plB s.p), .int .i64 s.h, .int .i64 s.n] 68))).keep hk2 (fun e => hne e.symm)
    have hlook2 := hv2.look spotKeyed Tryd.underlying60 (zeroSet _) hkey false
    rw [pputF_same] at hlook2
    simp only [Bool.false_eq_true, if_false, Spt.key, placeS, Option.getD_some] at hlook2
    obtain ⟨W3, hup3, hm3, hk3⟩ := hm2.store (P := Tryd.prog) (k := 3) (t := 78) (e := 4) Tryd.underlying3 Tryd.underlying78 h0 h1 (.bool true)
    have hk13 : Keep (fun b => b ≠ (w.alloc (.cells #[.string (plB s.p), .int .i64 s.h, .int .i64 s.n] 68)).heap.size ∧ b ≠ hb) (w.alloc (.cells #[.string (plB s.p), .int .i64 s.h, .int .i64 s.n] 68)) W3 := ((Keep.of_below (S := fun b => b ≠ (w.alloc (.cells #[.string (plB s.p), .int .i64 s.h, .int .i64 s.n] 68)).heap.size ∧ b ≠ hb) hb1).trans (hk2.mono fun b _ h => h.2)).trans (hk3.mono fun b _ h => h.1)
    have hs13 : (w.alloc (.cells #[.string (plB s.p), .int .i64 s.h, .int .i64 s.n] 68)).heap.size < W3.heap.size := by have := hb1.size; have := hk2.size; have := hk3.size; have := hm3.lt; omega
    have HP := hide (HX.out.news (s := s) (ib := (w.alloc (.cells #[.string (plB s.p), .int .i64 s.h, .int .i64 s.n] 68)).heap.size) (id := id) hf (pputF_same _ _ _) (fun y hy => pputF_other _ hy _) (Nat.le_refl _) hs13 (Nat.le_trans hbs HB.out.size) hk13 (hv2.keep hk3 hne) (by rw [← setF_single]; exact hm3))
    simp only [Spt.key, placeS] at hf hup2
    rw [hf] at hlook
    simp only [Option.getD_none] at hlook
    rw [World.size_alloc] at hup2 hlook2 hup3
    clear hx hm3 hk3 HX hf hk13 hm2 hv2 hk2 hb1 hs13 hne hbs
    go_wp2
    go_end0
    exact ⟨rfl, _, _, HP.out.1, ⟨(Keep.of_below HB.out).trans HP.out.2.1, fun b hb => by
      rcases HP.out.2.2 b hb with h | h
      · exact .inl h
      · have := HB.out.size; exact .inr (by omega)⟩⟩

set_option maxHeartbeats 4000000 in
set_option maxRecDepth 100000 in
theorem markA_calls {A : Nat → Prop} {xb rb hb ab : Nat} {fr : Int → Option Value} {fh fa : Value → Option Value} {role : Nat → Option PRole} {X : List (Int × Tm)} {Hs : Spt → Int → Prop} {As : List Nat → Int → Prop} {base : Nat} (s : List Nat) (id : Int) (w : World) (hs : (dotB s).length ≤ 1000000) (h0 : -9223372036854775808 ≤ id) (h1 : id ≤ 9223372036854775807) (hbs : base ≤ w.heap.size)
    (hx : PxAt w A xb rb hb ab fr fh fa role X Hs As base) :
    Calls Tryd.prog 31 #[.map (some ab), .string (plB s), .int .i64 id] w fun e w' => e = .returned (.tuple #[]) ∧
      ∃ fa' role', PxAt w' A xb rb hb ab fr fh fa' role' X Hs (fun s' x => As s' x ∨ (s' = s ∧ x = id)) base ∧ PMoved role role' w w' := by
  have hkey := place_key hs
  have hb0 : Below w.heap.size w (w) := Below.refl _ _
  have HX := hide (hx.below hb0)
  have HB := hide hb0
  have hlook := HX.out.a.look (Maps.string_keyed Tryd.underlying9) Tryd.underlying61 (zeroSet _) hkey false
  simp only [Bool.false_eq_true, if_false, placeS] at hlook
  clear hb0
  go_enter Tryd.func31, Tryd.ntmps31
  cases hf : fa (placeS s) with
  | some v =>
    obtain ⟨s', ib, e1, rfl, e3, e4⟩ := HX.out.a1 _ _ hf
    obtain rfl := placeS_inj e1
    have heq := run_eql_map_nil_sl (P := Tryd.prog) (w) 78 _ _ (some ib) Tryd.underlying78
    obtain ⟨W', hup, hm, hk⟩ := e4.store (P := Tryd.prog) (k := 3) (t := 78) (e := 4) Tryd.underlying3 Tryd.underlying78 h0 h1 (.bool true)
    have HP := hide (HX.out.hadA (s := s) hf hk hm)
    simp only [placeS] at hf
    rw [hf] at hlook
    simp only [Option.getD_some] at hlook
    clear e4 hm hk HX hf e1 hx
    go_wp2
    go_end0
    exact ⟨rfl, _, _, HP.out.1, ⟨(Keep.of_below HB.out).trans HP.out.2.1, fun b hb => by
      rcases HP.out.2.2 b hb with h | h
      · exact .inl h
      · have := HB.out.size; exact .inr (by omega)⟩⟩
  | none =>
    have hmm := @run_makeMap Tryd.prog
    have heq := run_eql_map_nil_sl (P := Tryd.prog) (w) 78 _ _ none Tryd.underlying78
    have hb1 : Below (w).heap.size (w) ((w).alloc (.map #[] 0)) := (Below.refl _ _).alloc (Nat.le_refl _) _
    obtain ⟨W2, hup2, hv2, hk2⟩ := (HX.out.a.below hb1).store (Maps.string_keyed Tryd.underlying9) Tryd.underlying61 hkey (.map (some (w).heap.size)) (pputF fa (placeS s) (.map (some (w).heap.size))) (pputF_same _ _ _) (fun y hy => pputF_other _ hy _)
    have hne : ab ≠ (w).heap.size := fun e => by have := HX.out.a.lt; omega
    have hm2 := (MapAt.made (w)).keep hk2 (fun e => hne e.symm)
    have hlook2 := hv2.look (Maps.string_keyed Tryd.underlying9) Tryd.underlying61 (zeroSet _) hkey false
    rw [pputF_same] at hlook2
    simp only [Bool.false_eq_true, if_false, placeS, Option.getD_some] at hlook2
    obtain ⟨W3, hup3, hm3, hk3⟩ := hm2.store (P := Tryd.prog) (k := 3) (t := 78) (e := 4) Tryd.underlying3 Tryd.underlying78 h0 h1 (.bool true)
    have hk13 : Keep (fun b => b ≠ (w).heap.size ∧ b ≠ ab) (w) W3 := ((Keep.of_below (S := fun b => b ≠ (w).heap.size ∧ b ≠ ab) hb1).trans (hk2.mono fun b _ h => h.2)).trans (hk3.mono fun b _ h => h.1)
    have hs13 : (w).heap.size < W3.heap.size := by have := hb1.size; have := hk2.size; have := hk3.size; have := hm3.lt; omega
    have HP := hide (HX.out.newsA (s := s) (ib := (w).heap.size) (id := id) hf (pputF_same _ _ _) (fun y hy => pputF_other _ hy _) (Nat.le_refl _) hs13 (Nat.le_trans hbs HB.out.size) hk13 (hv2.keep hk3 hne) (by rw [← setF_single]; exact hm3))
    simp only [placeS] at hf hup2
    rw [hf] at hlook
    simp only [Option.getD_none] at hlook
    clear hx hm3 hk3 HX hf hk13 hm2 hv2 hk2 hb1 hs13 hne hbs
    go_wp2
    go_end0
    exact ⟨rfl, _, _, HP.out.1, ⟨(Keep.of_below HB.out).trans HP.out.2.1, fun b hb => by
      rcases HP.out.2.2 b hb with h | h
      · exact .inl h
      · have := HB.out.size; exact .inr (by omega)⟩⟩
end Go.Proofs.YtneecjikdghchaaDoor
