/- The document's example of layer 3. -/
import Derived.Test.YthplndalbfcbbaaSub4
set_option linter.unusedSimpArgs false
set_option linter.unusedVariables false
namespace Go.Proofs.Ythplndalbfcbbaa
open Go.RowKit

theorem terms_block {A : Nat → Prop} {W : World} {b : Nat} {T : TypeId} {cs : List (List Value)} {ts : List Tm} (hb : W.heap[b]? = some (.cells cs.flatten.toArray T (0, 0))) (hA : ¬ A b) (hl : cs.length = ts.length) (hm : ts.length ≤ 1000000)
    (h : All2 (fun c t => ∃ s, c = [Value.int .i64 t.h, s] ∧ Terms A W s t.args) cs ts) : Terms A W (.slice (some ⟨b, 0, none⟩) ts.length ts.length) ts := by
  rw [Terms, Tm.ds_eq]
  simp only [RepD]
  refine ⟨_, _, _, rfl, by simp, Nat.le_refl _, by omega, fun h0 => ⟨b, 0, rfl, (Array.getElem?_eq_some_iff.1 hb).1, hA, ?_⟩⟩
  refine RepR.of cs _ 0 (fun c hc => ?_) (fun j hj => ?_) ?_
  · obtain ⟨t, _, s, rfl, _⟩ := h.mem c hc; rfl
  · rw [Nat.zero_add]; simp only [World.cell?, hb]; simp
  · clear hb hl hm h0
    induction h with
    | nil => exact .nil
    | cons h _ ih =>
      obtain ⟨s, rfl, hs⟩ := h
      exact .cons (repTm.2 ⟨s, rfl, hs⟩) ih
theorem terms1 {A : Nat → Prop} {W : World} {b : Nat} {T : TypeId} {s : Value} {t : Tm} (hb : W.heap[b]? = some (.cells #[.int .i64 t.h, s] T (0, 0))) (hA : ¬ A b) (h : Terms A W s t.args) : Terms A W (.slice (some ⟨b, 0, none⟩) 1 1) [t] :=
  terms_block (cs := [[.int .i64 t.h, s]]) (ts := [t]) hb hA rfl (by simp) (.cons ⟨s, rfl, h⟩ .nil)
theorem terms2 {A : Nat → Prop} {W : World} {b : Nat} {T : TypeId} {s1 s2 : Value} {t1 t2 : Tm} (hb : W.heap[b]? = some (.cells #[.int .i64 t1.h, s1, .int .i64 t2.h, s2] T (0, 0))) (hA : ¬ A b) (h1 : Terms A W s1 t1.args) (h2 : Terms A W s2 t2.args) : Terms A W (.slice (some ⟨b, 0, none⟩) 2 2) [t1, t2] :=
  terms_block (cs := [[.int .i64 t1.h, s1], [.int .i64 t2.h, s2]]) (ts := [t1, t2]) hb hA rfl (by simp) (.cons ⟨s1, rfl, h1⟩ (.cons ⟨s2, rfl, h2⟩ .nil))
theorem binds2 {A : Nat → Prop} {W : World} {b : Nat} {T : TypeId} {s1 s2 : Value} {b1 b2 : Bd} (hb : W.heap[b]? = some (.cells #[.int .i64 b1.v, .int .i64 b1.t.h, s1, .int .i64 b2.v, .int .i64 b2.t.h, s2] T (0, 0))) (hA : ¬ A b) (h1 : Terms A W s1 b1.t.args) (h2 : Terms A W s2 b2.t.args) : Binds A W (.slice (some ⟨b, 0, none⟩) 2 2) [b1, b2] := by
  simp only [Binds, RepD]
  refine ⟨_, _, _, rfl, by simp, Nat.le_refl _, by omega, fun _ => ⟨b, 0, rfl, (Array.getElem?_eq_some_iff.1 hb).1, hA, ?_⟩⟩
  refine RepR.of [[.int .i64 b1.v, .int .i64 b1.t.h, s1], [.int .i64 b2.v, .int .i64 b2.t.h, s2]] _ 0 (by simp) (fun j hj => ?_) (.cons (repBd.2 ⟨s1, rfl, h1⟩) (.cons (repBd.2 ⟨s2, rfl, h2⟩) .nil))
  rw [Nat.zero_add]; simp only [World.cell?, hb]; simp

def exB : List Bd := [⟨0, .node 3 [.node (-2) []]⟩, ⟨1, .node 1 []⟩]
def exT : Tm := .node 4 [.node (-1) [], .node (-2) []]
def exR : Tm := .node 4 [.node 3 [.node (-2) []], .node 1 []]
theorem ex_apply : applyT exB exT = (exR, 0) := by kernel_rfl
theorem ex_check : check3 exB = 0 := by kernel_rfl
theorem ex_shift : shiftE 3 (.node (-3) []) = (.node (-6) [], 0) := by kernel_rfl

set_option maxHeartbeats 4000000 in
set_option maxRecDepth 100000 in
theorem awake_calls (w : World) : Calls Try.prog 31 #[] w fun e w' => e = .returned (.bool true) ∧ Below w.heap.size w w' := by
  go_enter Try.func31, Try.ntmps31
  go_wp2_with fail
  refine (var_calls 1 (by omega) (by omega) _).mono ?_
  rintro e w1 ⟨rfl, h1⟩
  go_wp2_with fail
  have k1 : (w1.alloc (.cells #[.int .i64 (-2), .slice none 0 0] 25)).heap[w1.heap.size]? = some (.cells #[.int .i64 (-2), .slice none 0 0] 25 (0, 0)) := World.alloc_heap_new _ _
  have b1 : Below w.heap.size w (w1.alloc (.cells #[.int .i64 (-2), .slice none 0 0] 25)) := h1.alloc h1.size _
  have t1 : Terms (fun _ => False) _ (.slice (some ⟨w1.heap.size, 0, none⟩) 1 1) [.node (-2) []] := terms1 (t := .node (-2) []) k1 id (Terms.nil _ _)
  generalize (w1.alloc (.cells #[.int .i64 (-2), .slice none 0 0] 25)) = V1 at *
  refine (fun_calls 3 _ _ _ _).mono ?_
  rintro e w2 ⟨rfl, h2⟩
  have b2 := more_below b1 h2
  have t2 := t1.below h2
  clear h1 h2 k1 b1 t1
  go_wp2_with fail
  refine (fun_calls 1 none 0 0 _).mono ?_
  rintro e w3 ⟨rfl, h3⟩
  have b3 := more_below b2 h3
  have t3 := t2.below h3
  clear h3 b2 t2
  go_wp2_with fail
  have k4 : (w3.alloc (.cells #[.int .i64 0, .int .i64 3, .slice (some ⟨w1.heap.size, 0, none⟩) 1 1, .int .i64 1, .int .i64 1, .slice none 0 0] 60)).heap[w3.heap.size]? = some (.cells #[.int .i64 0, .int .i64 3, .slice (some ⟨w1.heap.size, 0, none⟩) 1 1, .int .i64 1, .int .i64 1, .slice none 0 0] 60 (0, 0)) := World.alloc_heap_new _ _
  have b4 : Below w.heap.size w (w3.alloc (.cells #[.int .i64 0, .int .i64 3, .slice (some ⟨w1.heap.size, 0, none⟩) 1 1, .int .i64 1, .int .i64 1, .slice none 0 0] 60)) := b3.alloc b3.size _
  have s4 : Binds (fun _ => False) _ (.slice (some ⟨w3.heap.size, 0, none⟩) 2 2) exB := binds2 (b1 := ⟨0, .node 3 [.node (-2) []]⟩) (b2 := ⟨1, .node 1 []⟩) k4 id (t3.below ((Below.refl _ _).alloc (Nat.le_refl _) _)) (Terms.nil _ _)
  generalize (w3.alloc (.cells #[.int .i64 0, .int .i64 3, .slice (some ⟨w1.heap.size, 0, none⟩) 1 1, .int .i64 1, .int .i64 1, .slice none 0 0] 60)) = V4 at *
  refine (var_calls 0 (by omega) (by omega) _).mono ?_
  rintro e w5 ⟨rfl, h5⟩
  have b5 := more_below b4 h5
  have s5 := s4.below h5
  clear h5 b4 s4 b3 t3 k4
  go_wp2_with fail
  refine (var_calls 1 (by omega) (by omega) _).mono ?_
  rintro e w6 ⟨rfl, h6⟩
  have b6 := more_below b5 h6
  have s6 := s5.below h6
  clear h6 b5 s5
  go_wp2_with fail
  have k7 : (w6.alloc (.cells #[.int .i64 (-1), .slice none 0 0, .int .i64 (-2), .slice none 0 0] 25)).heap[w6.heap.size]? = some (.cells #[.int .i64 (-1), .slice none 0 0, .int .i64 (-2), .slice none 0 0] 25 (0, 0)) := World.alloc_heap_new _ _
  have h7 : Below w6.heap.size w6 (w6.alloc (.cells #[.int .i64 (-1), .slice none 0 0, .int .i64 (-2), .slice none 0 0] 25)) := (Below.refl _ _).alloc (Nat.le_refl _) _
  have b7 := more_below b6 h7
  have s7 := s6.below h7
  have t7 : Terms (fun _ => False) _ (.slice (some ⟨w6.heap.size, 0, none⟩) 2 2) exT.args := terms2 (t1 := .node (-1) []) (t2 := .node (-2) []) k7 id (Terms.nil _ _) (Terms.nil _ _)
  generalize (w6.alloc (.cells #[.int .i64 (-1), .slice none 0 0, .int .i64 (-2), .slice none 0 0] 25)) = V7 at *
  refine (fun_calls 4 _ _ _ _).mono ?_
  rintro e w8 ⟨rfl, h8⟩
  have b8 := more_below b7 h8
  have s8 := s7.below h8
  have t8 := t7.below h8
  clear h7 h8 b6 s6 b7 s7 t7 k7
  go_wp2_with fail
  have hap := subapply_calls exB exT 10 (fun _ => False) 4 (.slice (some ⟨w6.heap.size, 0, none⟩) 2 2) (.slice (some ⟨w3.heap.size, 0, none⟩) 2 2) w8 (fun _ h => h.elim) (by decide) (by decide) (by decide) (by decide) (by decide) s8 ⟨rfl, t8⟩
  rw [ex_apply] at hap
  refine hap.mono ?_
  rintro e w9 ⟨s9', he9, t9, h9⟩
  subst he9
  obtain ⟨a9, c9, rfl, -, -⟩ := t9.shape
  have b9 := more_below b8 h9
  have s9 := s8.below h9
  clear hap h9 b8 s8 t8
  go_wp2_with fail
  have k10 : (w9.alloc (.cells #[.int .i64 exR.h, .slice a9 exR.args.length c9] 25)).heap[w9.heap.size]? = some (.cells #[.int .i64 exR.h, .slice a9 exR.args.length c9] 25 (0, 0)) := World.alloc_heap_new _ _
  have h10 : Below w9.heap.size w9 (w9.alloc (.cells #[.int .i64 exR.h, .slice a9 exR.args.length c9] 25)) := (Below.refl _ _).alloc (Nat.le_refl _) _
  have b10 := more_below b9 h10
  have s10 := s9.below h10
  have t10 := t9.below h10
  generalize (w9.alloc (.cells #[.int .i64 exR.h, .slice a9 exR.args.length c9] 25)) = V10 at *
  refine (var_calls 2 (by omega) (by omega) _).mono ?_
  rintro e w11 ⟨rfl, h11⟩
  have b11 := more_below b10 h11
  have s11 := s10.below h11
  have t11 := t10.below h11
  have k11 := (h11.block _ (Array.getElem?_eq_some_iff.1 k10).1).trans k10
  clear h11 h10 k10 b10 s10 t10 b9 s9 t9
  go_wp2_with fail
  have hsh := subshift_calls 3 (.node (-3) []) (fun _ => False) (-3) (.slice none 0 0) w11 (fun _ h => h.elim) (by decide) ⟨rfl, Terms.nil _ _⟩
  rw [ex_shift] at hsh
  refine hsh.mono ?_
  rintro e w12 ⟨s12', he12, t12, h12⟩
  subst he12
  obtain ⟨a12, c12, rfl, -, -⟩ := t12.shape
  have b12 := more_below b11 h12
  have s12 := s11.below h12
  have t12' := t11.below h12
  have k12 := (h12.block _ (Array.getElem?_eq_some_iff.1 k11).1).trans k11
  clear hsh h12 b11 s11 t11 k11
  go_wp2_with fail
  have h13 : Below w12.heap.size w12 (w12.alloc (.cells #[.int .i64 (Tm.node (-6) []).h, .slice a12 (Tm.node (-6) []).args.length c12] 25)) := (Below.refl _ _).alloc (Nat.le_refl _) _
  have m13 : (w12.alloc (.cells #[.int .i64 (Tm.node (-6) []).h, .slice a12 (Tm.node (-6) []).args.length c12] 25)).heap[w12.heap.size]? = some (.cells #[.int .i64 (-6), .slice a12 (Tm.node (-6) []).args.length c12] 25 (0, 0)) := World.alloc_heap_new _ _
  have b13 := more_below b12 h13
  have s13 := s12.below h13
  have t13 := t12'.below h13
  have k13 := (h13.block _ (Array.getElem?_eq_some_iff.1 k12).1).trans k12
  generalize (w12.alloc (.cells #[.int .i64 (Tm.node (-6) []).h, .slice a12 (Tm.node (-6) []).args.length c12] 25)) = V at *
  clear h13 b12 s12 t12 t12' k12
  have hl1 := (Array.getElem?_eq_some_iff.1 k13).1
  have hl2 := (Array.getElem?_eq_some_iff.1 m13).1
  have hS : ∀ W', Below V.heap.size V W' → Below w.heap.size w W' ∧ W'.cell? ⟨w9.heap.size, 0, none⟩ = some (.int .i64 exR.h) ∧ W'.cell? ⟨w9.heap.size, 1, none⟩ = some (.slice a9 exR.args.length c9) ∧ W'.cell? ⟨w12.heap.size, 0, none⟩ = some (.int .i64 (-6)) := fun W' hW => by
    obtain ⟨-, z0, z1, -, -⟩ := box2 ((hW.block _ hl1).trans k13)
    obtain ⟨-, z2, -, -, -⟩ := box2 ((hW.block _ hl2).trans m13)
    exact ⟨more_below b13 hW, z0, z1, z2⟩
  refine drawn_text (fun W' => Below w.heap.size w W' ∧ W'.cell? ⟨w9.heap.size, 0, none⟩ = some (.int .i64 exR.h) ∧ W'.cell? ⟨w9.heap.size, 1, none⟩ = some (.slice a9 exR.args.length c9) ∧ W'.cell? ⟨w12.heap.size, 0, none⟩ = some (.int .i64 (-6))) [false, false, false, false, true, true, true, true, true, true, true, false, false, false, true, false, false, false, false, false, false, false, false, false, false, false, false] [some 27, some 28, some 29, some 30, some 31, some 32, some 33, some 34, some 35, some 36, some 37, some 38, some 39, some 40, some 41, some 42, some 43, some 44, some 45, some 46, some 47, some 48, some 49, some 50, some 51, some 52, some 0] (by kernel_rfl) rfl (by kernel_rfl) (by kernel_rfl) (by kernel_rfl) (fun _ _ _ _ _ h => h) (hS _ (Below.refl _ _).drew) ?_
  iterate 4 (refine txt_take (v := ?_) rfl ?_ ?_; rotate_left; (intro w hS; obtain ⟨-, hS1, hS2, hS3⟩ := hS; go_simp; try with_reducible rfl); simp only [Act.put, List.setIfInBounds_toArray, List.set_cons_zero, List.set_cons_succ])
  refine txt_do rfl ?_
  intro K hK
  go_simp
  refine (var_calls 1 (by omega) (by omega) _).mono ?_
  rintro e x1 ⟨rfl, h1⟩
  have h1' := more_below (Below.refl V.heap.size V).drew h1
  clear h1
  refine hK.out _ _ (hS _ h1') ?_
  clear hK K
  refine txt_do rfl ?_
  intro K hK
  go_simp
  have p1 : (x1.alloc (.cells #[.int .i64 (-2), .slice none 0 0] 25)).heap[x1.heap.size]? = some (.cells #[.int .i64 (-2), .slice none 0 0] 25 (0, 0)) := World.alloc_heap_new _ _
  have h2' := h1'.alloc h1'.size (.cells #[.int .i64 (-2), .slice none 0 0] 25)
  have u2 : Terms (fun _ => False) _ (.slice (some ⟨x1.heap.size, 0, none⟩) 1 1) [.node (-2) []] := terms1 (t := .node (-2) []) p1 id (Terms.nil _ _)
  refine hK.out _ _ (hS _ h2') ?_
  clear hK K p1
  generalize (x1.alloc (.cells #[.int .i64 (-2), .slice none 0 0] 25)) = X2 at *
  refine txt_do rfl ?_
  intro K hK
  go_simp
  refine (fun_calls 3 _ _ _ _).mono ?_
  rintro e x3 ⟨rfl, h3⟩
  have h3' := more_below h2' h3
  have u3 := u2.below h3
  refine hK.out _ _ (hS _ h3') ?_
  clear hK K h3 h2' u2
  refine txt_do rfl ?_
  intro K hK
  go_simp
  refine (fun_calls 1 none 0 0 _).mono ?_
  rintro e x4 ⟨rfl, h4⟩
  have h4' := more_below h3' h4
  have u4 := u3.below h4
  refine hK.out _ _ (hS _ h4') ?_
  clear hK K h4 h3' u3
  refine txt_do rfl ?_
  intro K hK
  go_simp
  have p5 : (x4.alloc (.cells #[.int .i64 3, .slice (some ⟨x1.heap.size, 0, none⟩) 1 1, .int .i64 1, .slice none 0 0] 25)).heap[x4.heap.size]? = some (.cells #[.int .i64 3, .slice (some ⟨x1.heap.size, 0, none⟩) 1 1, .int .i64 1, .slice none 0 0] 25 (0, 0)) := World.alloc_heap_new _ _
  have h5' := h4'.alloc h4'.size (.cells #[.int .i64 3, .slice (some ⟨x1.heap.size, 0, none⟩) 1 1, .int .i64 1, .slice none 0 0] 25)
  have u5 : Terms (fun _ => False) _ (.slice (some ⟨x4.heap.size, 0, none⟩) 2 2) exR.args := terms2 (t1 := .node 3 [.node (-2) []]) (t2 := .node 1 []) p5 id (u4.below ((Below.refl _ _).alloc (Nat.le_refl _) _)) (Terms.nil _ _)
  refine hK.out _ _ (hS _ h5') ?_
  clear hK K p5 h4' u4
  generalize (x4.alloc (.cells #[.int .i64 3, .slice (some ⟨x1.heap.size, 0, none⟩) 1 1, .int .i64 1, .slice none 0 0] 25)) = X5 at *
  refine txt_do rfl ?_
  intro K hK
  go_simp
  refine (fun_calls 4 _ _ _ _).mono ?_
  rintro e x6 ⟨rfl, h6⟩
  have h6' := more_below h5' h6
  have u6 := u5.below h6
  refine hK.out _ _ (hS _ h6') ?_
  clear hK K h6 h5' u5
  refine txt_do rfl ?_
  intro K hK
  go_simp
  refine (same_calls exR exR (fun _ => False) (fun _ => False) _ 4 _ _ _ (by decide) (by decide) ⟨rfl, t13.below h6'⟩ ⟨rfl, u6⟩).mono ?_
  rw [sameB_self]
  rintro e x7 ⟨rfl, h7⟩
  have h7' := more_below h6' h7
  refine hK.out _ _ (hS _ h7') ?_
  clear hK K h7 h6' u6
  iterate 3 (refine txt_take (v := ?_) rfl ?_ ?_; rotate_left; (intro w hS; obtain ⟨-, hS1, hS2, hS3⟩ := hS; go_simp; try with_reducible rfl); simp only [Act.put, List.setIfInBounds_toArray, List.set_cons_zero, List.set_cons_succ])
  refine txt_do rfl ?_
  intro K hK
  go_simp
  refine (subcheck_calls exB (fun _ => False) _ _ (by decide) (s13.below h7')).mono ?_
  rw [ex_check]
  rintro e x8 ⟨rfl, h8⟩
  have h8' := more_below h7' h8
  refine hK.out _ _ (hS _ h8') ?_
  clear hK K h8 h7'
  iterate 12 (refine txt_take (v := ?_) rfl ?_ ?_; rotate_left; (intro w hS; obtain ⟨-, hS1, hS2, hS3⟩ := hS; go_simp; try with_reducible rfl); simp only [Act.put, List.setIfInBounds_toArray, List.set_cons_zero, List.set_cons_succ])
  refine txt_done ?_
  go_wp2
  go_ret
  exact ⟨rfl, more_below b13 h8'⟩
end Go.Proofs.Ythplndalbfcbbaa
