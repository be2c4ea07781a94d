/- The document's example of layer 17. -/
import Derived.Test.YtneecjikdghchaaDoorPx10
import Derived.Test.YtneecjikdghchaaDoorPxI
import Derived.Test.YtneecjikdghchaaDoorTwo
import Derived.Test.YtneecjikdghchaaDoorRef1c
set_option linter.unusedSimpArgs false
set_option linter.unusedVariables false
namespace Go.Proofs.YtneecjikdghchaaDoor
open Go.RowKit

def x17A : Tm := .node 1 []
def x17F : Tm := .node 3 [.node (-1) []]
def x17B : Tm := .node 3 [x17A]
def x17X : List (Int × Tm) := [(1, x17F), (2, x17B), (3, x17A)]
theorem e17_c1 : chk x17F = 0 := by kernel_rfl
theorem e17_c2 : chk x17B = 0 := by kernel_rfl
theorem e17_c3 : chk x17A = 0 := by kernel_rfl
theorem e17_p1 : pputX [] 1 x17F = ([(1, x17F)], 0) := by simp [pputX, e17_c1]
theorem e17_p2 : pputX [(1, x17F)] 2 x17B = ([(1, x17F), (2, x17B)], 0) := by simp [pputX, e17_c2]
theorem e17_p3 : pputX [(1, x17F), (2, x17B)] 3 x17A = (x17X, 0) := by simp [pputX, e17_c3, x17X]
theorem e17_g (x : Int) : (∃ u, (x, u) ∈ x17X ∧ fitT 0 x17F u = true) ↔ x ∈ [(1 : Int)] := by
  have h1 : fitT 0 x17F x17F = true := by kernel_rfl
  have h2 : fitT 0 x17F x17B = false := by kernel_rfl
  have h3 : fitT 0 x17F x17A = false := by kernel_rfl
  simp only [x17X, List.mem_cons, Prod.mk.injEq, List.not_mem_nil, or_false]
  constructor
  · rintro ⟨u, ⟨rfl, rfl⟩ | ⟨rfl, rfl⟩ | ⟨rfl, rfl⟩, h⟩
    · rfl
    · rw [h2] at h; cases h
    · rw [h3] at h; cases h
  · rintro rfl; exact ⟨_, .inl ⟨rfl, rfl⟩, h1⟩
theorem e17_i (k : Nat) (hk : k = 1 ∨ k = 2) (x : Int) : (∃ u, (x, u) ∈ x17X ∧ fitT k x17F u = true) ↔ x ∈ [(1 : Int), 2] := by
  have h1 : fitT k x17F x17F = true := by rcases hk with rfl | rfl <;> kernel_rfl
  have h2 : fitT k x17F x17B = true := by rcases hk with rfl | rfl <;> kernel_rfl
  have h3 : fitT k x17F x17A = false := by rcases hk with rfl | rfl <;> kernel_rfl
  simp only [x17X, List.mem_cons, Prod.mk.injEq, List.not_mem_nil, or_false]
  constructor
  · rintro ⟨u, ⟨rfl, rfl⟩ | ⟨rfl, rfl⟩ | ⟨rfl, rfl⟩, h⟩
    · exact .inl rfl
    · exact .inr rfl
    · rw [h3] at h; cases h
  · rintro (rfl | rfl)
    · exact ⟨_, .inl ⟨rfl, rfl⟩, h1⟩
    · exact ⟨_, .inr (.inl ⟨rfl, rfl⟩), h2⟩
theorem FP.list {k : Nat} {X : List (Int × Tm)} {t : Tm} {w w' : World} {e : Ending} (h : FP k X t w w' e) (hc : chk t = 0) {l : List Int} (hl : l.Pairwise (· < ·)) (hx : ∀ x, (∃ u, (x, u) ∈ X ∧ fitT k t u = true) ↔ x ∈ l) :
    ∃ a c, e = .returned (.tuple #[.slice a l.length c, .int .i64 0]) ∧ IntsIn w' a l ∧ Below w.heap.size w w' := by
  obtain ⟨v, o, rfl, h1, h2, h3⟩ := h.2.1 hc
  rw [sortI_is h2 hl fun x => by rw [h3 x, hx x]] at h1
  obtain ⟨a, c, rfl, h4⟩ := ints_of_row h1
  exact ⟨a, c, rfl, h4, h.2.2⟩
theorem ints_blk1 {w : World} {b : Nat} {x : Int} {T : TypeId} (h : w.heap[b]? = some (.cells #[.int .i64 x] T (0, 0))) : IntsIn w (some ⟨b, 0, none⟩) [x] :=
  ⟨by simp, fun i hi => ⟨b, 0, rfl, by
    have : i = 0 := by simpa using hi
    subst this
    simp [World.cell?, h]⟩⟩
theorem ints_blk2 {w : World} {b : Nat} {x y : Int} {T : TypeId} (h : w.heap[b]? = some (.cells #[.int .i64 x, .int .i64 y] T (0, 0))) : IntsIn w (some ⟨b, 0, none⟩) [x, y] :=
  ⟨by simp, fun i hi => ⟨b, 0, rfl, by
    have : i = 0 ∨ i = 1 := by simp at hi; omega
    rcases this with rfl | rfl <;> simp [World.cell?, h]⟩⟩
theorem PMoved.terms {role role' : Nat → Option PRole} {w w' : World} (m : PMoved role role' w w') {s : Value} {ts : List Tm} (h : Terms (fun b => role b ≠ none) w s ts) : Terms (fun b => role' b ≠ none) w' s ts :=
  RepD.frame (A := fun b => role b ≠ none) (w := w) (fun b hb hb' => m.1.block b hb' (Decidable.not_not.1 hb)) (fun b hb' hb => by
    rcases m.2 b hb with h | h
    · exact h
    · omega) _ _ h
theorem PxOk.below {w w' : World} {A : Nat → Prop} {xb rb hb ab : Nat} {X : List (Int × Tm)} {role : Nat → Option PRole} {base : Nat} (h : PxOk w A xb rb hb ab X role base) (hB : Below w.heap.size w w') : PxOk w' A xb rb hb ab X role base := by
  obtain ⟨fr, fh, fa, hx⟩ := h
  exact ⟨fr, fh, fa, hx.below hB⟩
theorem PxOk.z {w : World} {A : Nat → Prop} {xb rb hb ab : Nat} {X : List (Int × Tm)} {role : Nat → Option PRole} {base : Nat} (h : PxOk w A xb rb hb ab X role base) : ∀ b, role b ≠ none → base ≤ b ∧ b < w.heap.size := by
  obtain ⟨fr, fh, fa, hx⟩ := h
  exact fun b hb => ⟨(hx.z b hb).1, (hx.z b hb).2.1⟩
theorem PxOk.new {w : World} {A : Nat → Prop} {xb rb hb ab : Nat} {X : List (Int × Tm)} {role : Nat → Option PRole} {base : Nat} (h : PxOk w A xb rb hb ab X role base) {b : Nat} (hb : w.heap.size ≤ b) : role b = none := by
  cases hr : role b with
  | none => rfl
  | some r => have := (h.z b (by rw [hr]; simp)).2; omega
set_option maxHeartbeats 8000000 in
set_option maxRecDepth 100000 in
theorem awake17_calls (w : World) : Calls Tryd.prog 17 #[] w fun e w' => e = .returned (.bool true) ∧ Below w.heap.size w w' := by
  go_enter Tryd.func17, Tryd.ntmps17
  go_wp2_with fail
  refine (pnew_calls (fun _ => False) w (fun _ h => h.elim)).mono ?_
  rintro e w1 ⟨xb, rb, hb, ab, role, rfl, hx1, b1⟩
  have HB1 := hide b1
  clear b1
  go_wp2_with fail
  refine (fun_calls 1 none 0 0 w1).mono ?_
  rintro e w2 ⟨rfl, b2⟩
  have hx2 := hx1.below b2
  have HB2 := hide (more_below HB1.out b2)
  clear hx1 b2
  have b3 : Below w2.heap.size w2 (w2.alloc (.cells #[.int .i64 1, .slice none 0 0] 24)) := (Below.refl _ _).alloc (Nat.le_refl _) _
  have hx3 := hx2.below b3
  have ka3 := World.alloc_heap_new w2 (.cells #[.int .i64 1, .slice none 0 0] 24)
  have ra := hx2.new (Nat.le_refl _)
  have HB3 := hide (more_below HB2.out b3)
  clear b3 hx2
  go_wp2_with fail
  generalize w2.alloc (.cells #[.int .i64 1, .slice none 0 0] 24) = w3 at *
  generalize w2.heap.size = ba at *
  refine (var_calls 0 (by omega) (by omega) w3).mono ?_
  rintro e w4 ⟨rfl, b4⟩
  have hx4 := hx3.below b4
  have ka4 := (b4.block _ (Array.getElem?_eq_some_iff.1 ka3).1).trans ka3
  have HB4 := hide (more_below HB3.out b4)
  clear b4 hx3 ka3
  have b5 : Below w4.heap.size w4 (w4.alloc (.cells #[.int .i64 (-1), .slice none 0 0] 24)) := (Below.refl _ _).alloc (Nat.le_refl _) _
  have hx5 := hx4.below b5
  have ks5 := World.alloc_heap_new w4 (.cells #[.int .i64 (-1), .slice none 0 0] 24)
  have rs := hx4.new (Nat.le_refl _)
  have ka5 := (b5.block _ (Array.getElem?_eq_some_iff.1 ka4).1).trans ka4
  have HB5 := hide (more_below HB4.out b5)
  have f5 : Terms (fun b => role b ≠ none) _ (.slice (some ⟨w4.heap.size, 0, none⟩) 1 1) x17F.args := terms1 (t := .node (-1) []) ks5 (fun h => h rs) (Terms.nil _ _)
  clear b5 hx4 ka4 ks5 rs
  go_wp2_with fail
  generalize w4.alloc (.cells #[.int .i64 (-1), .slice none 0 0] 24) = w5 at *
  generalize w4.heap.size = bs at *
  refine (fun_calls 3 _ _ _ w5).mono ?_
  rintro e w6 ⟨rfl, b6⟩
  have hx6 := hx5.below b6
  have ka6 := (b6.block _ (Array.getElem?_eq_some_iff.1 ka5).1).trans ka5
  have f6 := f5.below b6
  have HB6 := hide (more_below HB5.out b6)
  clear b6 hx5 ka5 f5
  have b7 : Below w6.heap.size w6 (w6.alloc (.cells #[.int .i64 3, .slice (some ⟨bs, 0, none⟩) 1 1] 24)) := (Below.refl _ _).alloc (Nat.le_refl _) _
  have hx7 := hx6.below b7
  have kf7 := World.alloc_heap_new w6 (.cells #[.int .i64 3, .slice (some ⟨bs, 0, none⟩) 1 1] 24)
  have rf := hx6.new (Nat.le_refl _)
  have ka7 := (b7.block _ (Array.getElem?_eq_some_iff.1 ka6).1).trans ka6
  have f7 := f6.below b7
  have HB7 := hide (more_below HB6.out b7)
  clear b7 hx6 ka6 f6
  go_wp2_with fail
  generalize w6.alloc (.cells #[.int .i64 3, .slice (some ⟨bs, 0, none⟩) 1 1] 24) = w7 at *
  generalize w6.heap.size = bf at *
  have hz7 := hx7.z
  refine (pput_calls 1 x17F _ _ w7 (by decide) (by decide) (by decide) (by simp) HB7.out.size hx7 ⟨rfl, f7⟩).mono ?_
  rintro e w8 ⟨he, role8, hx8, m8⟩
  rw [e17_p1] at he hx8
  simp only at he hx8
  subst he
  have f8 := m8.terms f7
  obtain ⟨ka8, ra8⟩ := m8.obj ra ka7
  obtain ⟨kf8, rf8⟩ := m8.obj rf kf7
  have HB8 := hide (HB7.out.trans (m8.under (fun b h => (hz7 b h).1) HB7.out.size))
  obtain ⟨-, z0, z1, -, -⟩ := box2 ka8
  clear hx7 m8 f7 ka7 kf7 ra rf hz7
  have b9 : Below w8.heap.size w8 (w8.alloc (.cells #[.int .i64 1, .slice none 0 0] 24)) := (Below.refl _ _).alloc (Nat.le_refl _) _
  have hx9 := hx8.below b9
  have kg9 := World.alloc_heap_new w8 (.cells #[.int .i64 1, .slice none 0 0] 24)
  have rg := hx8.new (Nat.le_refl _)
  have ka9 := (b9.block _ (Array.getElem?_eq_some_iff.1 ka8).1).trans ka8
  have kf9 := (b9.block _ (Array.getElem?_eq_some_iff.1 kf8).1).trans kf8
  have f9 := f8.below b9
  have g9 : Terms (fun b => role8 b ≠ none) _ (.slice (some ⟨w8.heap.size, 0, none⟩) 1 1) x17B.args := terms1 (t := x17A) kg9 (fun h => h rg) (Terms.nil _ _)
  have HB9 := hide (more_below HB8.out b9)
  clear b9 hx8 ka8 kf8 f8 kg9 rg
  go_wp2_with fail
  generalize w8.alloc (.cells #[.int .i64 1, .slice none 0 0] 24) = w9 at *
  generalize w8.heap.size = bg at *
  refine (fun_calls 3 _ _ _ w9).mono ?_
  rintro e w10 ⟨rfl, b10⟩
  have hx10 := hx9.below b10
  have ka10 := (b10.block _ (Array.getElem?_eq_some_iff.1 ka9).1).trans ka9
  have kf10 := (b10.block _ (Array.getElem?_eq_some_iff.1 kf9).1).trans kf9
  have f10 := f9.below b10
  have g10 := g9.below b10
  have HB10 := hide (more_below HB9.out b10)
  clear b10 hx9 ka9 kf9 f9 g9 z0 z1
  go_wp2_with fail
  have hz10 := hx10.z
  refine (pput_calls 2 x17B _ _ w10 (by decide) (by decide) (by decide) (by simp) HB10.out.size hx10 ⟨rfl, g10⟩).mono ?_
  rintro e w11 ⟨he, role11, hx11, m11⟩
  rw [e17_p2] at he hx11
  simp only at he hx11
  subst he
  have f11 := m11.terms f10
  obtain ⟨ka11, ra11⟩ := m11.obj ra8 ka10
  obtain ⟨kf11, rf11⟩ := m11.obj rf8 kf10
  have HB11 := hide (HB10.out.trans (m11.under (fun b h => (hz10 b h).1) HB10.out.size))
  obtain ⟨-, z0, z1, -, -⟩ := box2 ka11
  clear hx10 m11 f10 g10 ka10 kf10 ra8 rf8 hz10
  go_wp2_with fail
  have hz11 := hx11.z
  refine (pput_calls 3 x17A _ _ w11 (by decide) (by decide) (by decide) (by simp) HB11.out.size hx11 ⟨rfl, Terms.nil _ _⟩).mono ?_
  rintro e w12 ⟨he, role12, hx12, m12⟩
  rw [e17_p3] at he hx12
  simp only at he hx12
  subst he
  have f12 := m12.terms f11
  obtain ⟨kf12, -⟩ := m12.obj rf11 kf11
  have HB12 := hide (HB11.out.trans (m12.under (fun b h => (hz11 b h).1) HB11.out.size))
  obtain ⟨-, z0, z1, -, -⟩ := box2 kf12
  clear hx11 m12 f11 ka11 kf11 ra11 rf11 hz11
  go_wp2_with fail
  refine (pf0_calls x17F _ _ _ w12 (by decide) (by simp [x17X]) hx12 ⟨rfl, f12⟩).mono ?_
  rintro e w13 hp
  obtain ⟨a0, c0, rfl, i0, b13⟩ := hp.list e17_c1 (l := [1]) (by simp) (e17_g)
  have hx13 := hx12.below b13
  have f13 := f12.below b13
  have kf13 := (b13.block _ (Array.getElem?_eq_some_iff.1 kf12).1).trans kf12
  have HB13 := hide (more_below HB12.out b13)
  obtain ⟨-, z0, z1, -, -⟩ := box2 kf13
  clear hp b13 hx12 f12 kf12
  go_wp2_with fail
  refine (pf1_calls x17F _ _ _ w13 (by decide) (by simp [x17X]) hx13 ⟨rfl, f13⟩).mono ?_
  rintro e w14 hp
  obtain ⟨a1, c1, rfl, i1, b14⟩ := hp.list e17_c1 (l := [1, 2]) (by simp) (e17_i 1 (.inl rfl))
  have hx14 := hx13.below b14
  have f14 := f13.below b14
  have i0 := i0.below b14
  have kf14 := (b14.block _ (Array.getElem?_eq_some_iff.1 kf13).1).trans kf13
  have HB14 := hide (more_below HB13.out b14)
  obtain ⟨-, z0, z1, -, -⟩ := box2 kf14
  clear hp b14 hx13 f13 kf13
  go_wp2_with fail
  refine (pf2_calls x17F _ _ _ w14 (by decide) (by simp [x17X]) hx14 ⟨rfl, f14⟩).mono ?_
  rintro e w15 hp
  obtain ⟨a2, c2, rfl, i2, b15⟩ := hp.list e17_c1 (l := [1, 2]) (by simp) (e17_i 2 (.inr rfl))
  have hx15 := hx14.below b15
  have i0 := i0.below b15
  have i1 := i1.below b15
  have HB15 := hide (more_below HB14.out b15)
  clear hp b15 hx14 f14 kf14 z0 z1
  have b16 : Below w15.heap.size w15 (w15.alloc (.cells #[.int .i64 1] 3)) := (Below.refl _ _).alloc (Nat.le_refl _) _
  have hx16 := hx15.below b16
  have j16 := ints_blk1 (World.alloc_heap_new w15 (.cells #[.int .i64 1] 3))
  have i0 := i0.below b16
  have i1 := i1.below b16
  have i2 := i2.below b16
  have HB16 := hide (more_below HB15.out b16)
  clear b16 hx15
  simp only [List.length_cons, List.length_nil, Nat.zero_add, Nat.reduceAdd]
  go_wp2_with fail
  generalize w15.alloc (.cells #[.int .i64 1] 3) = w16 at *
  generalize w15.heap.size = bi at *
  refine (rints_calls [1] [1] _ _ _ _ w16 i0 j16).mono ?_
  rintro e w17 ⟨rfl, b17⟩
  have hx17 := hx16.below b17
  have i1 := i1.below b17
  have i2 := i2.below b17
  have HB17 := hide (more_below HB16.out b17)
  clear b17 hx16 i0 j16
  have b18 : Below w17.heap.size w17 (w17.alloc (.cells #[.int .i64 1, .int .i64 2] 3)) := (Below.refl _ _).alloc (Nat.le_refl _) _
  have hx18 := hx17.below b18
  have j18 := ints_blk2 (World.alloc_heap_new w17 (.cells #[.int .i64 1, .int .i64 2] 3))
  have i1 := i1.below b18
  have i2 := i2.below b18
  have HB18 := hide (more_below HB17.out b18)
  clear b18 hx17
  rw [show decide ([(1 : Int)] = [1]) = true from rfl]
  go_wp2_with fail
  generalize w17.alloc (.cells #[.int .i64 1, .int .i64 2] 3) = w18 at *
  generalize w17.heap.size = bj at *
  refine (rints_calls [1, 2] [1, 2] _ _ _ _ w18 i1 j18).mono ?_
  rintro e w19 ⟨rfl, b19⟩
  have hx19 := hx18.below b19
  have i2 := i2.below b19
  have HB19 := hide (more_below HB18.out b19)
  clear b19 hx18 i1 j18
  have b20 : Below w19.heap.size w19 (w19.alloc (.cells #[.int .i64 1, .int .i64 2] 3)) := (Below.refl _ _).alloc (Nat.le_refl _) _
  have hx20 := hx19.below b20
  have j20 := ints_blk2 (World.alloc_heap_new w19 (.cells #[.int .i64 1, .int .i64 2] 3))
  have i2 := i2.below b20
  have HB20 := hide (more_below HB19.out b20)
  clear b20 hx19
  rw [show decide ([(1 : Int), 2] = [1, 2]) = true from rfl]
  go_wp2_with fail
  generalize w19.alloc (.cells #[.int .i64 1, .int .i64 2] 3) = w20 at *
  generalize w19.heap.size = bk at *
  refine (rints_calls [1, 2] [1, 2] _ _ _ _ w20 i2 j20).mono ?_
  rintro e w21 ⟨rfl, b21⟩
  have hx21 := hx20.below b21
  have HB21 := hide (more_below HB20.out b21)
  clear b21 hx20 i2 j20
  rw [show decide ([(1 : Int), 2] = [1, 2]) = true from rfl]
  go_wp2_with fail
  refine (psize_calls w21 hx21).mono ?_
  rintro e w22 ⟨rfl, rfl⟩
  rw [show (x17X.length : Int) = 3 from rfl]
  clear hx21
  go_wp2
  go_ret
  exact ⟨rfl, HB21.out⟩
end Go.Proofs.YtneecjikdghchaaDoor
