/- What the proof of the law rests on: contracts of the functions, plain laws, and words. -/
import Derived.Deep.LoopGhost
import Derived.Test.YthplndalbfcbbaaKMatchUnifiesXPairs
import Derived.Test.YthplndalbfcbbaaKMatchUnifiesXSolveLaw
import Derived.Test.YthplndalbfcbbaaKMatchUnifiesXDraw5
set_option linter.unusedSimpArgs false
set_option linter.unusedVariables false
namespace Go.Proofs.Ythplndalbfcbbaa
open Go.RowKit
def SolvePost (A : Nat → Prop) (sb ss : Nat) (D : List Tm) (L0 : Pairs) (w : World) (e : Ending) (w' : World) : Prop :=
  ∃ r : Bool, e = .returned (.bool r) ∧ Keep (fun b => b ≠ sb) w w' ∧ (r = true → ∃ f S, SolAt A w' sb ss f ∧ Solved f S ∧ UState L0 f [] ∧ FromD D f) ∧ (r = false → ∀ τ, ¬ Sol τ L0)
structure AtR (A : Nat → Prop) (sb : Nat) (f : Env) (t : Tm) (w : World) (r : Tm) (s : Value) : Prop where
  tm : IsTm (OldA sb A) w r.h s r
  leads : Leads f t r
  good : r.good = true
  free : r.h < 0 → f (-1 - r.h) = none
theorem AtR.below {A : Nat → Prop} {sb : Nat} {f : Env} {t r : Tm} {w w' : World} {s : Value} (h : AtR A sb f t w r s) (hB : Below w.heap.size w w') : AtR A sb f t w' r s := ⟨h.tm.below hB, h.leads, h.good, h.free⟩
theorem AtR.old {A S : Nat → Prop} {sb : Nat} {f : Env} {t r : Tm} {w w' : World} {s : Value} (h : AtR A sb f t w r s) (hk : Keep S w w') (hS : ∀ b, b < sb → S b) : AtR A sb f t w' r s := ⟨h.tm.keep9 hk fun b _ hb => hS b (by simp only [OldA, not_or] at hb; omega), h.leads, h.good, h.free⟩
structure SLoop (A : Nat → Prop) (sb ss stb : Nat) (D : List Tm) (L0 : Pairs) (w : World) (n : Nat) (wr : World) (f : Env) (S : Sub) (v : Value) (ps : Pairs) : Prop where
  st : SState D L0 f S ps.reverse
  me : meas D f S ps.reverse ≤ n
  sol : SolAt A wr sb ss f
  stk : StackAt A sb stb wr v ps
  kp : Keep (fun b => b ≠ sb) w wr
  lt : stb < wr.heap.size
theorem bind_at (A : Nat → Prop) (sb ss : Nat) (f : Env) (S : Sub) (hS : Solved f S) (x y : Nat) (v : Int) (h0 : 0 ≤ v) (h1 : v ≤ 255) (hfv : f v = none) (t t0 : Tm) (s : Value) (W5 Wx : World) (hk : Keep (fun b => b ≠ x ∧ b ≠ y) W5 Wx) (hx : ss < x) (hy : ss < y) (hsol : SolAt A W5 sb ss f) (ht : AtR A sb f t0 W5 t s) :
    Calls Try.prog 154 #[.pointer (some ⟨ss, 0, none⟩), .int .i64 v, .agg #[.int .i64 t.h, s]] Wx fun e w' => e = .returned (.bool (!occB v (app S t))) ∧ Keep (fun b => b ≠ sb ∧ b ≠ x ∧ b ≠ y) W5 w' ∧ SolAt A w' sb ss (boundF (occB v (app S t)) f v t) := by
  have hlt := hsol.lt
  refine (bind_calls A sb ss f S hS v h0 h1 hfv t ht.good t.h s Wx (hsol.keep hk (fun b hb => by omega)) (ht.tm.keep9 hk fun b _ hb => by simp only [OldA, not_or] at hb; omega)).mono ?_
  rintro e w' ⟨he, hk2, hs2⟩
  exact ⟨he, Keep.trans (hk.mono fun b _ hb => hb.2) (hk2.mono fun b _ hb => hb.1), hs2⟩
theorem SLoop.mk2 {A : Nat → Prop} {sb ss stb : Nat} {D : List Tm} {L0 : Pairs} {w W5 wr : World} {f' : Env} {S' : Sub} {g n0 cap x y : Nat} {qs : Pairs} (hst : SState D L0 f' S' qs.reverse) (hsol : SolAt A wr sb ss f') (hsk : StackAt A sb stb W5 (.slice (some ⟨g, 0, none⟩) n0 cap) qs) (hkp : Keep (fun b => b ≠ sb) w W5)
    (hk : Keep (fun b => b ≠ sb ∧ b ≠ x ∧ b ≠ y) W5 wr) (hw : w.heap.size = stb) (hl5 : stb < W5.heap.size) (hss : sb < stb) (hx : stb < x) (hy : stb < y) (hgs : sb < g) (hgx : g < x) (hgy : g < y) : SLoop A sb ss stb D L0 w (meas D f' S' qs.reverse) wr f' S' (.slice (some ⟨g, 0, none⟩) n0 cap) qs where
  st := hst
  me := Nat.le_refl _
  sol := hsol
  stk := hsk.keep hk ⟨by omega, by omega, by omega⟩ (fun b hb => ⟨by omega, by omega, by omega⟩) (fun b hb => by
    have : b = g := by simpa [Value.ownBlock] using hb.symm
    subst this; exact ⟨by omega, by omega, by omega⟩)
  kp := ⟨hk.os.trans hkp.os, hk.tape.trans hkp.tape, hk.output.trans hkp.output, Nat.le_trans hkp.size hk.size, fun b hb hs => (hk.block b (by have := hkp.size; omega) ⟨hs, by omega, by omega⟩).trans (hkp.block b hb hs)⟩
  lt := Nat.lt_of_lt_of_le hl5 hk.size
theorem keep_out {sb stb x y : Nat} {w W5 wr : World} (hkp : Keep (fun b => b ≠ sb) w W5) (hk : Keep (fun b => b ≠ sb ∧ b ≠ x ∧ b ≠ y) W5 wr) (hw : w.heap.size = stb) (hx : stb < x) (hy : stb < y) : Keep (fun b => b ≠ sb) w wr :=
  ⟨hk.os.trans hkp.os, hk.tape.trans hkp.tape, hk.output.trans hkp.output, Nat.le_trans hkp.size hk.size, fun b hb hs => (hk.block b (by have := hkp.size; omega) ⟨hs, by omega, by omega⟩).trans (hkp.block b hb hs)⟩
set_option maxHeartbeats 8000000 in
set_option maxRecDepth 100000 in
theorem solve_calls (A : Nat → Prop) (sb ss : Nat) (D : List Tm) (hD : Closed D) (hDl : D.length ≤ 10000) (xs ys : List Tm) (hl : xs.length = ys.length) (h10 : xs.length ≤ 10) (hx : ∀ t, t ∈ xs → InD D t) (hy : ∀ t, t ∈ ys → InD D t) (s1 s2 : Value) (w : World)
    (hsol : SolAt A w sb ss noE) (ha : Terms (OldA sb A) w s1 xs) (hb : Terms (OldA sb A) w s2 ys) :
    Calls Try.prog 115 #[.pointer (some ⟨ss, 0, none⟩), s1, s2] w fun e w' => SolvePost A sb ss D (xs.zip ys) w e w' := by
  obtain ⟨a1, c1, rfl, hc1, hc1'⟩ := ha.shape
  obtain ⟨a2, c2, rfl, hc2, hc2'⟩ := hb.shape
  have hssl := hsol.lt_size
  have hsbl := hsol.lt
  have HST := hide (sstate_start hD hl h10 hx hy)
  have HSO := hide hsol
  have HL := hide hl
  have HDC := hide hD
  have hal : Below w.heap.size w (w.alloc (.cells #[.slice none 0 0] 183)) := (Below.refl _ _).alloc (Nat.le_refl _) _
  have hput := putp_calls A sb w.heap.size (.slice none 0 0) [] xs ys _ _ (w.alloc (.cells #[.slice none 0 0] 183)) (by omega) hl (by simp; omega) ⟨World.alloc_heap_new _ _, OwnD.nil _ _ _ _ _⟩ (ha.below hal) (hb.below hal)
  clear hx hy hl hsol hD ha hb
  go_enter Try.func115, Try.ntmps115
  go_wp2_with fail
  refine hput.mono ?_
  rintro e w1 ⟨rfl, v1, hst1, hk1⟩
  have HK1 := hide (show Keep (fun b => b ≠ sb) w w1 from ⟨hk1.os.trans hal.os, hk1.tape.trans hal.tape, hk1.output.trans hal.output, Nat.le_trans hal.size hk1.size, fun b hb hs => (hk1.block b (by rw [World.size_alloc]; omega) ⟨by omega, by simp [Value.ownBlock]⟩).trans (hal.block b hb)⟩)
  have HS1 := hide (show SolAt A w1 sb ss noE from (HSO.out.below hal).keep hk1 (fun b hb => ⟨by omega, by simp [Value.ownBlock]⟩))
  have HLOOP := hide (show SLoop A sb ss w.heap.size D (xs.zip ys) w (meas D noE varT (xs.zip ys)) w1 noE varT v1 (xs.zip ys).reverse from
    ⟨by rw [List.reverse_reverse]; exact HST.out, by rw [List.reverse_reverse]; exact Nat.le_refl _, HS1.out, by simpa using hst1, HK1.out, by have := hk1.size; rw [World.size_alloc] at this; omega⟩)
  clear hput hst1 hk1 hal HK1 HS1 HST
  generalize hstb : w.heap.size = stb at *
  have HSTB := hide hstb
  clear hstb
  go_wp2
  go_loopg [] (meas D noE varT (xs.zip ys)) (fun n wr => ∃ f S v ps, SLoop A sb ss stb D (xs.zip ys) w n wr f S v ps)
  case atStart => exact ⟨_, _, _, _, HLOOP.out⟩
  case round =>
    obtain ⟨f, S, v, ps, hlp⟩ := hrel
    have HLP := hide hlp
    obtain ⟨av, cv, hv⟩ := hlp.stk.own.shape
    obtain ⟨-, y0, y1⟩ := box1 hlp.stk.cell
    clear hlp
    rcases List.eq_nil_or_concat ps with rfl | ⟨qs, p, hps⟩
    · simp only [List.map_nil, List.length_nil] at hv
      subst hv
      have HE := hide (show SolvePost A sb ss D (xs.zip ys) w (.returned (.bool true)) wr from ⟨true, rfl, HLP.out.kp, fun _ => ⟨f, S, HLP.out.sol, HLP.out.st.sv, HLP.out.st.us, HLP.out.st.fd⟩, fun h => by cases h⟩)
      clear HLOOP HLP
      go_wp2
      go_ret
      exact HE.out
    · rw [List.concat_eq_append] at hps
      subst hps
      have hO := HLP.out.stk.own
      rw [List.map_append, List.map_cons, List.map_nil] at hO
      obtain ⟨g, cap, cs, rfl, hg, hg1, hc, hc', hcs, e0, rp, hO2⟩ := hO.last (by omega)
      obtain ⟨t1, t2, rfl, q1, q2⟩ := repPd.1 rp
      obtain ⟨b1, d1, rfl, -, -⟩ := q1.shape
      obtain ⟨b2, d2, rfl, -, -⟩ := q2.shape
      rw [List.length_map] at *
      have l0 : wr.cell? ⟨g, qs.length * 4, none⟩ = some (.int .i64 p.1.h) := by simp
      have l1 : wr.cell? ⟨g, qs.length * 4 + 1, none⟩ = some (.slice b1 p.1.args.length d1) := by simp
      have l2 : wr.cell? ⟨g, qs.length * 4 + 2, none⟩ = some (.int .i64 p.2.h) := by simp
      have l3 : wr.cell? ⟨g, qs.length * 4 + 3, none⟩ = some (.slice b2 p.2.args.length d2) := by simp
      have HO2 := hide hO2
      have HQ1 := hide q1
      have HQ2 := hide q2
      have hqn : qs.length ≤ 100000 := by
        have := HLP.out.st.length HDC.out
        simp only [List.reverse_append, List.reverse_cons, List.reverse_nil, List.nil_append, List.length_append, List.length_cons, List.length_nil, List.length_reverse] at this
        omega
      clear e0 rp q1 q2 hO hO2 hv
      have hsl9 : stb < wr.heap.size := HLP.out.lt
      go_wp2
      have hkk : Keep (fun b => b ≠ stb) wr ((wr.setCell ⟨stb, 0, none⟩ (.slice (some ⟨g, 0, none⟩) qs.length cap)).alloc (.cells #[.int .i64 p.1.h, .slice b1 p.1.args.length d1, .int .i64 p.2.h, .slice b2 p.2.args.length d2] 185)) := ((Keep.refl _ wr).setCell (p := ⟨stb, 0, none⟩) (by simp) _).alloc _
      have hb9 : ((wr.setCell ⟨stb, 0, none⟩ (.slice (some ⟨g, 0, none⟩) qs.length cap)).alloc (.cells #[.int .i64 p.1.h, .slice b1 p.1.args.length d1, .int .i64 p.2.h, .slice b2 p.2.args.length d2] 185)).heap[wr.heap.size]? = some (.cells #[.int .i64 p.1.h, .slice b1 p.1.args.length d1, .int .i64 p.2.h, .slice b2 p.2.args.length d2] 185 (0, 0)) := by
        have := World.alloc_heap_new (wr.setCell ⟨stb, 0, none⟩ (.slice (some ⟨g, 0, none⟩) qs.length cap)) (.cells #[.int .i64 p.1.h, .slice b1 p.1.args.length d1, .int .i64 p.2.h, .slice b2 p.2.args.length d2] 185)
        simpa [World.setCell] using this
      have hcs : ((wr.setCell ⟨stb, 0, none⟩ (.slice (some ⟨g, 0, none⟩) qs.length cap)).alloc (.cells #[.int .i64 p.1.h, .slice b1 p.1.args.length d1, .int .i64 p.2.h, .slice b2 p.2.args.length d2] 185)).heap[stb]? = some (.cells #[.slice (some ⟨g, 0, none⟩) qs.length cap] 183 (0, 0)) := by
        refine (Below.heap_alloc _ _ _ (by simpa [World.setCell] using hsl9)).trans ?_
        simp [World.setCell, Array.getElem?_modify, HLP.out.stk.cell]
      have hz2 : wr.heap.size < ((wr.setCell ⟨stb, 0, none⟩ (.slice (some ⟨g, 0, none⟩) qs.length cap)).alloc (.cells #[.int .i64 p.1.h, .slice b1 p.1.args.length d1, .int .i64 p.2.h, .slice b2 p.2.args.length d2] 185)).heap.size := (Array.getElem?_eq_some_iff.1 hb9).1
      clear l0 l1 l2 l3 y0 y1
      generalize ((wr.setCell ⟨stb, 0, none⟩ (.slice (some ⟨g, 0, none⟩) qs.length cap)).alloc (.cells #[.int .i64 p.1.h, .slice b1 p.1.args.length d1, .int .i64 p.2.h, .slice b2 p.2.args.length d2] 185)) = W2 at *
      generalize wr.heap.size = pbx at *
      have hsbs := HLP.out.sol.lt
      have HSO2 := hide (HLP.out.sol.keep hkk (fun b hb => by omega))
      have HSK2 := hide (show StackAt A sb stb W2 (.slice (some ⟨g, 0, none⟩) qs.length cap) qs from ⟨hcs, HO2.out.keep hkk (fun b _ hb => by simp only [OldA, not_or] at hb; omega) (fun b hb => by have := (HO2.out.lt b hb).1; omega)⟩)
      have HKP2 := hide (show Keep (fun b => b ≠ sb) w W2 from ⟨hkk.os.trans HLP.out.kp.os, hkk.tape.trans HLP.out.kp.tape, hkk.output.trans HLP.out.kp.output, Nat.le_trans HLP.out.kp.size hkk.size, fun b hb hs => (hkk.block b (by have := HLP.out.kp.size; omega) (by have := HSTB.out; omega)).trans (HLP.out.kp.block b hb hs)⟩)
      have HT1 := hide (show IsTm (OldA sb A) W2 p.1.h (.slice b1 p.1.args.length d1) p.1 from ⟨rfl, (HQ1.out.bar fun b _ h => .inl h).keep hkk (fun b _ hb => by simp only [OldA, not_or] at hb; omega)⟩)
      have HT2 := hide (show IsTm (OldA sb A) W2 p.2.h (.slice b2 p.2.args.length d2) p.2 from ⟨rfl, (HQ2.out.bar fun b _ h => .inl h).keep hkk (fun b _ hb => by simp only [OldA, not_or] at hb; omega)⟩)
      have HIN := hide (HLP.out.st.ind p (by simp))
      have HPS := hide (show SState D (xs.zip ys) f S (p :: qs.reverse) by have := HLP.out.st; simpa using this)
      have HSV := hide HLP.out.st.sv
      have hlt2 : stb < W2.heap.size := (Array.getElem?_eq_some_iff.1 hcs).1
      have HME := hide (show meas D f S (p :: qs.reverse) ≤ gk by have := HLP.out.me; simpa using this)
      clear HLOOP HLP HO2 HQ1 HQ2 hkk hcs
      have hS : ∀ W', Below W2.heap.size W2 W' → W'.cell? ⟨pbx, 0, none⟩ = some (.int .i64 p.1.h) ∧ W'.cell? ⟨pbx, 1, none⟩ = some (.slice b1 p.1.args.length d1) ∧ W'.cell? ⟨pbx, 2, none⟩ = some (.int .i64 p.2.h) ∧ W'.cell? ⟨pbx, 3, none⟩ = some (.slice b2 p.2.args.length d2) := fun W' hW => by
        have := (hW.block pbx hz2).trans hb9
        exact ⟨by simp [World.cell?, this], by simp [World.cell?, this], by simp [World.cell?, this], by simp [World.cell?, this]⟩
      refine drawn_four (fun W' => W'.cell? ⟨pbx, 0, none⟩ = some (.int .i64 p.1.h) ∧ W'.cell? ⟨pbx, 1, none⟩ = some (.slice b1 p.1.args.length d1) ∧ W'.cell? ⟨pbx, 2, none⟩ = some (.int .i64 p.2.h) ∧ W'.cell? ⟨pbx, 3, none⟩ = some (.slice b2 p.2.args.length d2)) [0, 1, 2, 4, 5, 6] 3 7 8 9 [.one 10, .one 11]
        (fun b c d e a' w' => ∃ (t10 t11 t34 t38 : Value) (x y : Nat), a' = { tmps := #[.pointer (some ⟨ss, 0, none⟩), .slice a1 xs.length c1, .slice a2 ys.length c2, undef, undef, undef, u6, .pointer (some ⟨stb, 0, none⟩), .func (.func 152) #[] #[.pointer (some ⟨stb, 0, none⟩)], .pointer (some ⟨pbx, 0, none⟩), t10, t11, .func (.func 152) #[] #[.pointer (some ⟨stb, 0, none⟩)], .func (.func 152) #[] #[.pointer (some ⟨stb, 0, none⟩)], .slice a1 xs.length c1, .slice a2 ys.length c2, .tuple #[], .slice (some ⟨g, 0, none⟩) (qs.length + 1) cap, .int .i64 ((qs.length : Int) + 1), .bool true, .slice (some ⟨g, 0, none⟩) (qs.length + 1) cap, .slice (some ⟨g, 0, none⟩) (qs.length + 1) cap, .int .i64 ((qs.length : Int) + 1), .int .i64 qs.length, .pointer (some ⟨g, qs.length * 4, none⟩), .agg #[.int .i64 p.1.h, .slice b1 p.1.args.length d1, .int .i64 p.2.h, .slice b2 p.2.args.length d2], .slice (some ⟨g, 0, none⟩) (qs.length + 1) cap, .slice (some ⟨g, 0, none⟩) (qs.length + 1) cap, .int .i64 ((qs.length : Int) + 1), .int .i64 qs.length, .slice (some ⟨g, 0, none⟩) qs.length cap, .pointer (some ⟨ss, 0, none⟩), .pointer (some ⟨pbx, 0, none⟩), .agg #[.int .i64 p.1.h, .slice b1 p.1.args.length d1], t34, .pointer (some ⟨ss, 0, none⟩), .pointer (some ⟨pbx, 2, none⟩), .agg #[.int .i64 p.2.h, .slice b2 p.2.args.length d2], t38, u39, u40, u41, u42, u43, u44, u45, u46, u47, u48, u49, u50, u51, u52, u53, u54, u55, u56, u57, u58, u59, u60, u61, u62, u63, u64, u65, u66, u67, u68, u69, u70, u71, u72, u73, u74, u75, u76, u77, u78, u79, u80, u81, u82, u83, u84, u85, u86, u87, u88, u89, u90, u91, u92, u93, u94, u95, u96, u97, u98], defers := [] } ∧ Below W2.heap.size W2 w' ∧ (b = true → ∃ r s', t34 = .agg #[.int .i64 r.h, s'] ∧ AtR A sb f p.1 w' r s') ∧ (c = true → ∃ r s', t38 = .agg #[.int .i64 r.h, s'] ∧ AtR A sb f p.2 w' r s') ∧
          (d = true → t10 = .pointer (some ⟨x, 0, none⟩) ∧ W2.heap.size ≤ x ∧ w'.heap[x]? = some (.cells #[.int .i64 0, .slice none 0 0] 25 (0, 0))) ∧ (e = true → t11 = .pointer (some ⟨y, 0, none⟩) ∧ W2.heap.size ≤ y ∧ w'.heap[y]? = some (.cells #[.int .i64 0, .slice none 0 0] 25 (0, 0))) ∧ (d = true → e = true → x ≠ y))
        (by kernel_rfl) (by kernel_rfl) (by kernel_rfl) (by kernel_rfl) (by kernel_rfl) (fun _ _ _ _ _ h => h) (hS _ (Below.refl _ _).drew) ?_ (fun b c d e a' w' h => by obtain ⟨_, _, _, _, _, _, _, h, -⟩ := h; exact hS _ h) ?_ ?_ ?_ ?_ ?_
      · iterate 6 (refine t_take (v := ?_) rfl (by rfl) ?_ ?_; rotate_left; (intro w hS; obtain ⟨hS0, hS1, hS2, hS3⟩ := hS; go_simp; try with_reducible rfl); simp only [Act.put, List.setIfInBounds_toArray, List.set_cons_zero, List.set_cons_succ])
        exact ⟨u10, u11, u34, u38, 0, 0, rfl, (Below.refl _ _).drew, fun h => by simp at h, fun h => by simp at h, fun h => by simp at h, fun h => by simp at h, fun h => by simp at h⟩
      · rintro d e _ w' ⟨t10, t11, t34, t38, x, y, rfl, hB, -, -, hd, he, hxy⟩
        refine wpOp_of rfl (by rfl) ?_
        intro K hK
        go_simp
        refine (at_calls A sb ss f S HSV.out p.1 _ _ w' HIN.out.1.1 (HSO2.out.below hB) (HT1.out.below hB)).mono ?_
        rintro e9 w9 ⟨r, s', rfl, hT, hle, hgd, hfn, hB9⟩
        exact hK.out _ _ ⟨t10, t11, _, t38, x, y, rfl, more_below hB hB9, fun _ => ⟨r, s', rfl, hT, hle, hgd, hfn⟩, fun h => by simp at h, fun h => ⟨(hd h).1, (hd h).2.1, (hB9.block _ (Array.getElem?_eq_some_iff.1 (hd h).2.2).1).trans (hd h).2.2⟩, fun h => ⟨(he h).1, (he h).2.1, (hB9.block _ (Array.getElem?_eq_some_iff.1 (he h).2.2).1).trans (he h).2.2⟩, hxy⟩
      · rintro d e _ w' ⟨t10, t11, t34, t38, x, y, rfl, hB, h3, -, hd, he, hxy⟩
        refine wpOp_of rfl (by rfl) ?_
        intro K hK
        go_simp
        refine (at_calls A sb ss f S HSV.out p.2 _ _ w' HIN.out.2.1 (HSO2.out.below hB) (HT2.out.below hB)).mono ?_
        rintro e9 w9 ⟨r, s', rfl, hT, hle, hgd, hfn, hB9⟩
        exact hK.out _ _ ⟨t10, t11, _, _, x, y, rfl, more_below hB hB9, fun h => (h3 h).elim fun r0 h0 => h0.elim fun s0 h1 => ⟨r0, s0, h1.1, h1.2.below hB9⟩, fun _ => ⟨r, s', rfl, hT, hle, hgd, hfn⟩, fun h => ⟨(hd h).1, (hd h).2.1, (hB9.block _ (Array.getElem?_eq_some_iff.1 (hd h).2.2).1).trans (hd h).2.2⟩, fun h => ⟨(he h).1, (he h).2.1, (hB9.block _ (Array.getElem?_eq_some_iff.1 (he h).2.2).1).trans (he h).2.2⟩, hxy⟩
      · rintro b c e _ w' ⟨t10, t11, t34, t38, x, y, rfl, hB, h3, h7, -, he, -⟩
        refine wpOp_of rfl (by rfl) ?_
        intro K hK
        go_simp
        have hB9 := (Below.refl w'.heap.size w').alloc (Nat.le_refl _) (.cells #[.int .i64 0, .slice none 0 0] 25)
        exact hK.out _ _ ⟨_, t11, t34, t38, w'.heap.size, y, rfl, more_below hB hB9, fun h => (h3 h).elim fun r0 h0 => h0.elim fun s0 h1 => ⟨r0, s0, h1.1, h1.2.below hB9⟩, fun h => (h7 h).elim fun r0 h0 => h0.elim fun s0 h1 => ⟨r0, s0, h1.1, h1.2.below hB9⟩, fun _ => ⟨rfl, hB.size, World.alloc_heap_new _ _⟩, fun h => ⟨(he h).1, (he h).2.1, (hB9.block _ (Array.getElem?_eq_some_iff.1 (he h).2.2).1).trans (he h).2.2⟩, fun _ h => by have := (Array.getElem?_eq_some_iff.1 (he h).2.2).1; omega⟩
      · rintro b c d _ w' ⟨t10, t11, t34, t38, x, y, rfl, hB, h3, h7, hd, -, -⟩
        refine wpOp_of rfl (by rfl) ?_
        intro K hK
        go_simp
        have hB9 := (Below.refl w'.heap.size w').alloc (Nat.le_refl _) (.cells #[.int .i64 0, .slice none 0 0] 25)
        exact hK.out _ _ ⟨t10, _, t34, t38, x, w'.heap.size, rfl, more_below hB hB9, fun h => (h3 h).elim fun r0 h0 => h0.elim fun s0 h1 => ⟨r0, s0, h1.1, h1.2.below hB9⟩, fun h => (h7 h).elim fun r0 h0 => h0.elim fun s0 h1 => ⟨r0, s0, h1.1, h1.2.below hB9⟩, fun h => ⟨(hd h).1, (hd h).2.1, (hB9.block _ (Array.getElem?_eq_some_iff.1 (hd h).2.2).1).trans (hd h).2.2⟩, fun _ => ⟨rfl, hB.size, World.alloc_heap_new _ _⟩, fun h _ => by have := (Array.getElem?_eq_some_iff.1 (hd h).2.2).1; omega⟩
      rintro _ w' ⟨t10, t11, t34, t38, x, y, rfl, hB, h3, h7, h8, h9, hxy⟩
      obtain ⟨z1, s1, rfl, r1⟩ := h3 rfl
      obtain ⟨z2, s2, rfl, r2⟩ := h7 rfl
      obtain ⟨rfl, hx1, hx2⟩ := h8 rfl
      obtain ⟨rfl, hy1, hy2⟩ := h9 rfl
      replace hxy := hxy rfl rfl
      obtain ⟨-, e1, f1, rfl, -, -⟩ := r1.tm.shape
      obtain ⟨-, e2, f2, rfl, -, -⟩ := r2.tm.shape
      obtain ⟨-, g0, g1, g2, g3⟩ := box2 hx2
      have hB4 : Below W2.heap.size W2 ((w'.setCell ⟨x, 0, none⟩ (.int .i64 z1.h)).setCell ⟨x, 1, none⟩ (.slice e1 z1.args.length f1)) := set2_below hB hx1 _ _
      refine p_one rfl (by rfl) ?_
      intro K hK
      go_simp
      refine hK.out _ _ (hS _ hB4) ?_
      clear hK K
      have hkx : Keep (fun b => b ≠ x) w' ((w'.setCell ⟨x, 0, none⟩ (.int .i64 z1.h)).setCell ⟨x, 1, none⟩ (.slice e1 z1.args.length f1)) := ((Keep.refl _ _).setCell (p := ⟨x, 0, none⟩) (by simp) _).setCell (p := ⟨x, 1, none⟩) (by simp) _
      have hx3 := box2_set hx2 (.int .i64 z1.h) (.slice e1 z1.args.length f1)
      have hy3 := hkx.obj (fun e => hxy e.symm) hy2
      have R1 := hide (r1.old hkx (fun b hb => by omega))
      have R2 := hide (r2.old hkx (fun b hb => by omega))
      clear g0 g1 g2 g3 hx2 hy2 hkx hB r1 r2 h3 h7 h8 h9
      generalize ((w'.setCell ⟨x, 0, none⟩ (.int .i64 z1.h)).setCell ⟨x, 1, none⟩ (.slice e1 z1.args.length f1)) = W4 at *
      obtain ⟨-, g0, g1, g2, g3⟩ := box2 hy3
      have hB5 : Below W2.heap.size W2 ((W4.setCell ⟨y, 0, none⟩ (.int .i64 z2.h)).setCell ⟨y, 1, none⟩ (.slice e2 z2.args.length f2)) := set2_below hB4 hy1 _ _
      refine p_one rfl (by rfl) ?_
      intro K hK
      go_simp
      refine hK.out _ _ (hS _ hB5) ?_
      clear hK K
      have hkx : Keep (fun b => b ≠ y) W4 ((W4.setCell ⟨y, 0, none⟩ (.int .i64 z2.h)).setCell ⟨y, 1, none⟩ (.slice e2 z2.args.length f2)) := ((Keep.refl _ _).setCell (p := ⟨y, 0, none⟩) (by simp) _).setCell (p := ⟨y, 1, none⟩) (by simp) _
      have hy4 := box2_set hy3 (.int .i64 z2.h) (.slice e2 z2.args.length f2)
      have hx4 := hkx.obj hxy hx3
      have R1' := hide (R1.out.old hkx (fun b hb => by omega))
      have R2' := hide (R2.out.old hkx (fun b hb => by omega))
      clear g0 g1 g2 g3 hx3 hy3 hkx hB4 R1 R2 hS hb9
      generalize ((W4.setCell ⟨y, 0, none⟩ (.int .i64 z2.h)).setCell ⟨y, 1, none⟩ (.slice e2 z2.args.length f2)) = W5 at *
      have R1 := R1'
      have R2 := R2'
      clear R1' R2'
      have HU := hide (ustate_leads HPS.out.us R1.out.leads R2.out.leads)
      have HSO5 := hide (HSO2.out.below hB5)
      have HSK5 := hide (HSK2.out.below hB5)
      have HKP5 := hide (Keep.trans HKP2.out (.of_below hB5))
      have hl5 : stb < W5.heap.size := by have := hB5.size; omega
      have hxs : stb < x := by omega
      have hys : stb < y := by omega
      have hga := good_args R1.out.good
      have hgb := good_args R2.out.good
      obtain ⟨-, x0, x1, x2, x3⟩ := box2 hx4
      obtain ⟨-, v0, v1, v2, v3⟩ := box2 hy4
      clear HSO2 HSK2 HKP2 HT1 HT2 hB5
      show Exit.then _ _ .normal _ _
      by_cases hn2 : z2.h < 0
      · by_cases hn1 : z1.h < 0
        · by_cases hlt : z2.h < z1.h
          · have HFR := hide (R2.out.free hn2)
            have HLOW := hide (show z1.h < 0 → -1 - z1.h < -1 - z2.h from fun _ => by omega)
            have HNX := hide hn2
            have HNE := hide (show z2.h ≠ z1.h from by omega)
            have HYD := hide (leads_inD HPS.out.fd HIN.out.1 R1.out.leads)
            go_wp2_with fail
            refine (bind_at A sb ss f S HSV.out x y (-1 - z2.h) (by omega) (by omega) HFR.out z1 _ _ W5 _ ((((((Keep.refl _ W5).setCell (p := ⟨x, 0, none⟩) (by simp) _).setCell (p := ⟨x, 1, none⟩) (by simp) _).setCell (p := ⟨y, 0, none⟩) (by simp) _).setCell (p := ⟨y, 1, none⟩) (by simp) _)) (by omega) (by omega) HSO5.out R1.out).mono ?_
            rintro e9 w9 ⟨rfl, hk9, hso9⟩
            have HK9 := hide hk9
            have HSO9 := hide hso9
            clear hk9 hso9 x0 x1 x2 x3 v0 v1 v2 v3 hx4 hy4
            cases hoc : occB (-1 - z2.h) (app S z1)
            · have HNO := hide (show ¬ occ (-1 - z2.h) (app S z1) from fun h => by rw [← occB_iff] at h; rw [h] at hoc; cases hoc)
              have HSX := hide (show SolAt A w9 sb ss (upd f (-1 - z2.h) z1) by have := HSO9.out; rw [hoc] at this; exact this)
              clear hoc
              obtain ⟨n1, n2⟩ := s_bind HDC.out HPS.out (ustate_swap HU.out) R2.out.good HYD.out HNX.out HFR.out HLOW.out HNO.out
              have HN1 := hide (SLoop.mk2 n1 HSX.out HSK5.out HKP5.out HK9.out HSTB.out hl5 (by omega) hxs hys (by omega) (by omega) (by omega))
              have HN2 := hide (Nat.lt_of_lt_of_le n2 HME.out)
              clear n1 n2
              go_wp2
              go_roundg (meas D (upd f (-1 - z2.h) z1) (fun w => app (oneS (-1 - z2.h) (app S z1)) (S w)) qs.reverse)
              case measure => exact HN2.out
              case rel => exact ⟨_, _, _, _, HN1.out⟩
            · have HO := hide (occB_iff.1 hoc)
              have HE := hide (show SolvePost A sb ss D (xs.zip ys) w (.returned (.bool false)) w9 from ⟨false, rfl, keep_out HKP5.out HK9.out HSTB.out hxs hys, (fun h => by cases h), fun _ => ustate_occ HSV.out (ustate_swap HU.out) HNX.out HYD.out.1 (fun h => R1.out.free h) HNE.out HO.out⟩)
              clear hoc
              go_wp2
              go_ret
              exact HE.out
          · by_cases heq : z1.h = z2.h
            · have hd : (z1.h == z2.h) = true := by simpa using heq
              have HN0 := hide (HPS.out.tail (ustate_skip HSV.out HU.out (show app S z1 = app S z2 by rw [app_neg hn1, app_neg hn2, heq])))
              have HN1 := hide (SLoop.mk2 HN0.out HSO5.out HSK5.out HKP5.out (Keep.refl (fun b => b ≠ sb ∧ b ≠ x ∧ b ≠ y) W5) HSTB.out hl5 (by omega) hxs hys (by omega) (by omega) (by omega))
              have HN2 := hide (Nat.lt_of_lt_of_le (meas_pop (D := D) f S qs.reverse p) HME.out)
              have hle : ¬ z2.h < z1.h := hlt
              clear heq
              go_wp2
              go_roundg (meas D f S qs.reverse)
              case measure => exact HN2.out
              case rel => exact ⟨_, _, _, _, HN1.out⟩
            · have hd : (z1.h == z2.h) = false := by simpa using heq
              have HFR := hide (R1.out.free hn1)
              have HLOW := hide (show z2.h < 0 → -1 - z2.h < -1 - z1.h from fun _ => by omega)
              have HNX := hide hn1
              have HNE := hide (show z1.h ≠ z2.h from heq)
              have HYD := hide (leads_inD HPS.out.fd HIN.out.2 R2.out.leads)
              go_wp2_with fail
              refine (bind_at A sb ss f S HSV.out x y (-1 - z1.h) (by omega) (by omega) HFR.out z2 _ _ W5 _ (Keep.refl _ _) (by omega) (by omega) HSO5.out R2.out).mono ?_
              rintro e9 w9 ⟨rfl, hk9, hso9⟩
              have HK9 := hide hk9
              have HSO9 := hide hso9
              clear hk9 hso9 x0 x1 x2 x3 v0 v1 v2 v3 hx4 hy4
              cases hoc : occB (-1 - z1.h) (app S z2)
              · have HNO := hide (show ¬ occ (-1 - z1.h) (app S z2) from fun h => by rw [← occB_iff] at h; rw [h] at hoc; cases hoc)
                have HSX := hide (show SolAt A w9 sb ss (upd f (-1 - z1.h) z2) by have := HSO9.out; rw [hoc] at this; exact this)
                clear hoc
                obtain ⟨n1, n2⟩ := s_bind HDC.out HPS.out HU.out R1.out.good HYD.out HNX.out HFR.out HLOW.out HNO.out
                have HN1 := hide (SLoop.mk2 n1 HSX.out HSK5.out HKP5.out HK9.out HSTB.out hl5 (by omega) hxs hys (by omega) (by omega) (by omega))
                have HN2 := hide (Nat.lt_of_lt_of_le n2 HME.out)
                clear n1 n2
                go_wp2
                go_roundg (meas D (upd f (-1 - z1.h) z2) (fun w => app (oneS (-1 - z1.h) (app S z2)) (S w)) qs.reverse)
                case measure => exact HN2.out
                case rel => exact ⟨_, _, _, _, HN1.out⟩
              · have HO := hide (occB_iff.1 hoc)
                have HE := hide (show SolvePost A sb ss D (xs.zip ys) w (.returned (.bool false)) w9 from ⟨false, rfl, keep_out HKP5.out HK9.out HSTB.out hxs hys, (fun h => by cases h), fun _ => ustate_occ HSV.out HU.out HNX.out HYD.out.1 (fun h => R2.out.free h) HNE.out HO.out⟩)
                clear hoc
                go_wp2
                go_ret
                exact HE.out
        · have hge : 0 ≤ z1.h := by omega
          have HFR := hide (R2.out.free hn2)
          have HLOW := hide (show z1.h < 0 → -1 - z1.h < -1 - z2.h from fun h => absurd h hn1)
          have HNX := hide hn2
          have HNE := hide (show z2.h ≠ z1.h from by omega)
          have HYD := hide (leads_inD HPS.out.fd HIN.out.1 R1.out.leads)
          go_wp2_with fail
          refine (bind_at A sb ss f S HSV.out x y (-1 - z2.h) (by omega) (by omega) HFR.out z1 _ _ W5 _ ((((((Keep.refl _ W5).setCell (p := ⟨x, 0, none⟩) (by simp) _).setCell (p := ⟨x, 1, none⟩) (by simp) _).setCell (p := ⟨y, 0, none⟩) (by simp) _).setCell (p := ⟨y, 1, none⟩) (by simp) _)) (by omega) (by omega) HSO5.out R1.out).mono ?_
          rintro e9 w9 ⟨rfl, hk9, hso9⟩
          have HK9 := hide hk9
          have HSO9 := hide hso9
          clear hk9 hso9 x0 x1 x2 x3 v0 v1 v2 v3 hx4 hy4
          cases hoc : occB (-1 - z2.h) (app S z1)
          · have HNO := hide (show ¬ occ (-1 - z2.h) (app S z1) from fun h => by rw [← occB_iff] at h; rw [h] at hoc; cases hoc)
            have HSX := hide (show SolAt A w9 sb ss (upd f (-1 - z2.h) z1) by have := HSO9.out; rw [hoc] at this; exact this)
            clear hoc
            obtain ⟨n1, n2⟩ := s_bind HDC.out HPS.out (ustate_swap HU.out) R2.out.good HYD.out HNX.out HFR.out HLOW.out HNO.out
            have HN1 := hide (SLoop.mk2 n1 HSX.out HSK5.out HKP5.out HK9.out HSTB.out hl5 (by omega) hxs hys (by omega) (by omega) (by omega))
            have HN2 := hide (Nat.lt_of_lt_of_le n2 HME.out)
            clear n1 n2
            go_wp2
            go_roundg (meas D (upd f (-1 - z2.h) z1) (fun w => app (oneS (-1 - z2.h) (app S z1)) (S w)) qs.reverse)
            case measure => exact HN2.out
            case rel => exact ⟨_, _, _, _, HN1.out⟩
          · have HO := hide (occB_iff.1 hoc)
            have HE := hide (show SolvePost A sb ss D (xs.zip ys) w (.returned (.bool false)) w9 from ⟨false, rfl, keep_out HKP5.out HK9.out HSTB.out hxs hys, (fun h => by cases h), fun _ => ustate_occ HSV.out (ustate_swap HU.out) HNX.out HYD.out.1 (fun h => R1.out.free h) HNE.out HO.out⟩)
            clear hoc
            go_wp2
            go_ret
            exact HE.out
      · by_cases hn1 : z1.h < 0
        · have hd : (z1.h == z2.h) = false := by simp; omega
          have HFR := hide (R1.out.free hn1)
          have HLOW := hide (show z2.h < 0 → -1 - z2.h < -1 - z1.h from fun h => absurd h hn2)
          have HNX := hide hn1
          have HNE := hide (show z1.h ≠ z2.h from by omega)
          have HYD := hide (leads_inD HPS.out.fd HIN.out.2 R2.out.leads)
          go_wp2_with fail
          refine (bind_at A sb ss f S HSV.out x y (-1 - z1.h) (by omega) (by omega) HFR.out z2 _ _ W5 _ (Keep.refl _ _) (by omega) (by omega) HSO5.out R2.out).mono ?_
          rintro e9 w9 ⟨rfl, hk9, hso9⟩
          have HK9 := hide hk9
          have HSO9 := hide hso9
          clear hk9 hso9 x0 x1 x2 x3 v0 v1 v2 v3 hx4 hy4
          cases hoc : occB (-1 - z1.h) (app S z2)
          · have HNO := hide (show ¬ occ (-1 - z1.h) (app S z2) from fun h => by rw [← occB_iff] at h; rw [h] at hoc; cases hoc)
            have HSX := hide (show SolAt A w9 sb ss (upd f (-1 - z1.h) z2) by have := HSO9.out; rw [hoc] at this; exact this)
            clear hoc
            obtain ⟨n1, n2⟩ := s_bind HDC.out HPS.out HU.out R1.out.good HYD.out HNX.out HFR.out HLOW.out HNO.out
            have HN1 := hide (SLoop.mk2 n1 HSX.out HSK5.out HKP5.out HK9.out HSTB.out hl5 (by omega) hxs hys (by omega) (by omega) (by omega))
            have HN2 := hide (Nat.lt_of_lt_of_le n2 HME.out)
            clear n1 n2
            go_wp2
            go_roundg (meas D (upd f (-1 - z1.h) z2) (fun w => app (oneS (-1 - z1.h) (app S z2)) (S w)) qs.reverse)
            case measure => exact HN2.out
            case rel => exact ⟨_, _, _, _, HN1.out⟩
          · have HO := hide (occB_iff.1 hoc)
            have HE := hide (show SolvePost A sb ss D (xs.zip ys) w (.returned (.bool false)) w9 from ⟨false, rfl, keep_out HKP5.out HK9.out HSTB.out hxs hys, (fun h => by cases h), fun _ => ustate_occ HSV.out HU.out HNX.out HYD.out.1 (fun h => R2.out.free h) HNE.out HO.out⟩)
            clear hoc
            go_wp2
            go_ret
            exact HE.out
        · by_cases heq : z1.h = z2.h
          · by_cases hla : z1.args.length = z2.args.length
            · have hd : (z1.h != z2.h) = false := by simpa using heq
              have hd2 : ((z1.args.length : Int) != (z2.args.length : Int)) = false := by simp; omega
              have HLA := hide hla
              obtain ⟨n1, n2⟩ := s_args HDC.out HPS.out R1.out.leads R2.out.leads hn1 hn2 heq hla
              have hqz : qs.length + z1.args.length ≤ 1000000000 := by omega
              have hput := putp_calls A sb stb (.slice (some ⟨g, 0, none⟩) qs.length cap) qs z1.args z2.args _ _ W5 (by omega) hla hqz HSK5.out R1.out.tm.2 R2.out.tm.2
              have HN1 := hide n1
              have HN2 := hide (Nat.lt_of_lt_of_le n2 HME.out)
              clear n1 n2 heq hla
              go_wp2_with fail
              refine hput.mono ?_
              rintro e9 w9 ⟨rfl, v9, hst9, hk9⟩
              have HN3 := hide (show SLoop A sb ss stb D (xs.zip ys) w (meas D f S (z1.args.zip z2.args ++ qs.reverse)) w9 f S v9 (qs ++ (z1.args.zip z2.args).reverse) from
                { st := by rw [List.reverse_append, List.reverse_reverse]; exact HN1.out
                  me := by rw [List.reverse_append, List.reverse_reverse]; exact Nat.le_refl _
                  sol := HSO5.out.keep hk9 (fun b hb => ⟨by omega, by simp [Value.ownBlock]; omega⟩)
                  stk := hst9
                  kp := ⟨hk9.os.trans HKP5.out.os, hk9.tape.trans HKP5.out.tape, hk9.output.trans HKP5.out.output, Nat.le_trans HKP5.out.size hk9.size, fun b hb hs => (hk9.block b (by have := HKP5.out.size; omega) ⟨by have := HSTB.out; omega, by have := HSTB.out; simp [Value.ownBlock]; omega⟩).trans (HKP5.out.block b hb hs)⟩
                  lt := Nat.lt_of_lt_of_le hl5 hk9.size })
              clear hput hst9 hk9 x0 x1 x2 x3 v0 v1 v2 v3 hx4 hy4
              go_wp2
              go_roundg (meas D f S (z1.args.zip z2.args ++ qs.reverse))
              case measure => exact HN2.out
              case rel => exact ⟨_, _, _, _, HN3.out⟩
            · have hd : (z1.h != z2.h) = false := by simpa using heq
              have hd2 : ((z1.args.length : Int) != (z2.args.length : Int)) = true := by simp; omega
              have HCL := hide (show ¬ (z1.h = z2.h ∧ z1.args.length = z2.args.length) from fun h => hla h.2)
              clear heq hla
              have HE := hide (show SolvePost A sb ss D (xs.zip ys) w (.returned (.bool false)) W5 from ⟨false, rfl, HKP5.out, (fun h => by cases h), fun _ => ustate_clash HU.out hn1 hn2 HCL.out⟩)
              go_wp2
              go_ret
              exact HE.out
          · have hd : (z1.h != z2.h) = true := by simpa using heq
            have HCL := hide (show ¬ (z1.h = z2.h ∧ z1.args.length = z2.args.length) from fun h => heq h.1)
            clear heq
            have HE := hide (show SolvePost A sb ss D (xs.zip ys) w (.returned (.bool false)) W5 from ⟨false, rfl, HKP5.out, (fun h => by cases h), fun _ => ustate_clash HU.out hn1 hn2 HCL.out⟩)
            go_wp2
            go_ret
            exact HE.out
end Go.Proofs.Ythplndalbfcbbaa
