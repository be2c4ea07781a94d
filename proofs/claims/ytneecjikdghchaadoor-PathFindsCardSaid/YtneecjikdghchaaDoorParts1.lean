/- The iterator that term.parts hands back, walked. -/
import Derived.Test.YtneecjikdghchaaDoorParts
set_option linter.unusedSimpArgs false
set_option linter.unusedVariables false
namespace Go.Proofs.YtneecjikdghchaaDoor
open Go.RowKit Go.Shelf
attribute [local go_sem] Oper.semAt_some

/-- The state between two rounds. -/
structure PartsInv (A S : Nat → Prop) (W0 W : World) (xs : List Raw) (J : (Nat → Prop) → List Raw → World → Prop) (pre : List Raw) (st : List Spot) (v : Value) (Ds : List Nat) (W' : World) : Prop where
  all : xs = pre ++ restS W0 st
  ok : ∀ x, x ∈ st → SpotOk A W0 x
  le : sizeS st ≤ 1000000000
  box : W'.heap[W.heap.size + 1]? = some (.cells #[v] 84 (0, 0))
  row : W'.ownsRow W.heap.size 83 3 v st.length (flatS st)
  ne : v.ownBlock ≠ some (W.heap.size + 1)
  neD : ∀ D, D ∈ Ds → v.ownBlock ≠ some D ∧ D ≠ W.heap.size + 1 ∧ W.heap.size ≤ D
  md : Marked W' Ds
  kp : Keep S W W'
  j : J (fun b => b = W.heap.size + 1 ∨ v.ownBlock = some b ∨ b ∈ Ds) pre W'

/-- The state of the inner loop, which lays a term's arguments on the stack. -/
structure PushInv (W4 : World) (base b3 g : Nat) (l : List Tm) (d : Int) (rest : List Spot) (O : Nat → Prop) (pre : List ((Int × Value) × Nat)) (v : Value) (W : World) : Prop where
  box : W.heap[b3]? = some (.cells #[v] 84 (0, 0))
  row : W.ownsRow base 83 3 v (rest.length + pre.length) (flatS (spotsOf l d pre ++ rest))
  ne : ∀ b, v.ownBlock = some b → b ≠ b3 ∧ ¬ O b ∧ (b = g ∨ W4.heap.size ≤ b)
  kp : Keep (fun b => b < W4.heap.size ∧ b ≠ b3 ∧ b ≠ g) W4 W
theorem PushInv.framed (W4 : World) (base b3 g : Nat) (l : List Tm) (d : Int) (rest : List Spot) (hb3 : b3 < W4.heap.size) (pre : List ((Int × Value) × Nat)) :
    Framed W4.heap.size fun O W => ∃ v, PushInv W4 base b3 g l d rest O pre v W := by
  rintro O O' W W' hO ⟨v, h⟩ hk hO'
  refine ⟨v, hk.obj (fun h => by have := (hO _ h).1; omega) h.box, ownsRow_keep h.row hk (fun b hb => (h.ne b hb).2.1), fun b hb => ⟨(h.ne b hb).1, fun hb' => ?_, (h.ne b hb).2.2⟩, ?_⟩
  · rcases hO' b hb' with h' | h'
    · exact (h.ne b hb).2.1 h'
    · have := (h.row.lt b hb).2; omega
  · exact h.kp.trans (hk.mono fun b _ hb hOb => by have := (hO _ hOb).1; omega)

theorem PartsInv.own {A S : Nat → Prop} {W0 W : World} {xs : List Raw} {J : (Nat → Prop) → List Raw → World → Prop} {pre : List Raw} {st : List Spot} {v : Value} {Ds : List Nat} {W' : World} (h : PartsInv A S W0 W xs J pre st v Ds W') :
    ∀ b, (b = W.heap.size + 1 ∨ v.ownBlock = some b ∨ b ∈ Ds) → W.heap.size ≤ b ∧ b < W'.heap.size := by
  rintro b (rfl | hb | hb)
  · exact ⟨by omega, (Array.getElem?_eq_some_iff.1 h.box).1⟩
  · exact h.row.lt b hb
  · exact ⟨(h.neD b hb).2.2, (Array.getElem?_eq_some_iff.1 (h.md.2 b hb)).1⟩

set_option maxHeartbeats 2000000 in
set_option maxRecDepth 100000 in
theorem parts1_seq (W0 : World) (A S : Nat → Prop) (Bt : Nat) (t : Tm) (r : Int × Value) (hSB : S Bt) (hSA : ∀ b, b < W0.heap.size → ¬ A b → S b) (hSlt : ∀ b, S b → b < W0.heap.size)
    (hBt : W0.cell? ⟨Bt, 0, none⟩ = some (.int .i64 r.1)) (hBt1 : W0.cell? ⟨Bt, 1, none⟩ = some r.2) (h1 : r.1 = t.h) (h2 : Terms A W0 r.2 t.args) (hsz : t.size ≤ 1000000000) :
    Seq Tryd.prog 46 #[.pointer (some ⟨Bt, 0, none⟩)] encP S (rawT W0 t 1 r) W0 := by
  intro l J Jx W hk0 hJ hJx hY h0
  have hb0 := hk0.cell (p := ⟨Bt, 0, none⟩) hSB hBt
  have hb1 := hk0.cell (p := ⟨Bt, 1, none⟩) hSB hBt1
  have H1 := hide h1
  obtain ⟨a, c, e, _⟩ := h2.shape
  obtain ⟨rh, rs⟩ := r
  simp only at e hb0 hb1 h1 h2 H1
  subst e
  clear h1 hBt hBt1
  have hszW := hk0.size
  show CallsIn Fence.wide 0 Tryd.prog 46 #[.func (.yield l) #[] #[], .pointer (some ⟨Bt, 0, none⟩)] W _
  refine callsIn_of_wp_marks Tryd.func46 rfl trivial ?_ rfl
  simp only [Tryd.ntmps46, List.size_toArray, List.length_cons, List.length_nil, Nat.reduceAdd, Nat.reduceSub, Array.replicate_succ, Array.replicate_zero, List.push_toArray, List.append_toArray, List.nil_append, List.cons_append]
  gi_wp2
  refine loop_ghost (fun n a' W' => ∃ (pre : List Raw) (st : List Spot) (v : Value) (Ds : List Nat) (u4 u5 u6 u7 u8 u9 u10 u11 u12 u13 u14 u15 u16 u17 u18 u19 u20 u21 u22 u23 u24 u25 u26 u27 u28 u29 u30 u31 u32 u33 u34 u35 u36 u37 u38 u39 u40 u41 u42 u43 u44 : Value),
      a' = { tmps := #[.func (.yield l) #[] #[], .pointer (some ⟨Bt, 0, none⟩), undef, .pointer (some ⟨W.heap.size + 1, 0, none⟩), u4, u5, u6, u7, u8, u9, u10, u11, u12, u13, u14, u15, u16, u17, u18, u19, u20, u21, u22, u23, u24, u25, u26, u27, u28, u29, u30, u31, u32, u33, u34, u35, u36, u37, u38, u39, u40, u41, u42, u43, u44], defers := marks Ds } ∧ n = sizeS st ∧ PartsInv A S W0 W (rawT W0 t 1 (rh, .slice a t.args.length c)) J pre st v Ds W') t.size ?_ ?_
  · refine ⟨[], [⟨t, 1, (rh, .slice a t.args.length c)⟩], .slice (some ⟨W.heap.size, 0, none⟩) 1 1, [], _, _, _, _, _, _, _, _, _, _, _, _, _, _, _, _, _, _, _, _, _, _, _, _, _, _, _, _, _, _, _, _, _, _, _, _, _, _, _, _, _, rfl, ?_, ?_⟩
    · simp [sizeS]
    · have hk2 : Keep (fun _ => True) W ((W.alloc (.cells #[.int .i64 rh, .slice a t.args.length c, .int .i64 1] 83)).alloc (.cells #[.slice (some ⟨W.heap.size, 0, none⟩) 1 1] 84)) := ((Keep.refl _ _).alloc _).alloc _
      exact {
        all := by simp [restS]
        ok := fun x hx => by simp at hx; subst hx; exact ⟨H1.out, h2, by simp, by simp; omega⟩
        le := by simp [sizeS]; omega
        box := by have := World.alloc_heap_new (W.alloc (.cells #[.int .i64 rh, .slice a t.args.length c, .int .i64 1] 83)) (.cells #[.slice (some ⟨W.heap.size, 0, none⟩) 1 1] 84); rwa [World.size_alloc] at this
        row := ⟨by simp [flatS, Spot.cells], .inr ⟨W.heap.size, 1, #[.int .i64 rh, .slice a t.args.length c, .int .i64 1], rfl, Nat.le_refl _, (Below.heap_alloc _ _ _ (by simp)).trans (World.alloc_heap_new _ _), by simp, by simp [maxLen], rfl, by simp [flatS, Spot.cells]⟩⟩
        ne := by simp [Value.ownBlock]
        neD := by simp
        md := ⟨List.nodup_nil, by simp⟩
        kp := hk2.mono fun _ _ _ => trivial
        j := hJ [] _ _ W _ (fun b hb => hb.elim) h0 (hk2.mono fun _ _ _ => trivial) (fun b hb => .inr (by simp [Value.ownBlock] at hb; omega)) }
  · rintro n a' W' ⟨pre, st, v, Ds, u4, u5, u6, u7, u8, u9, u10, u11, u12, u13, u14, u15, u16, u17, u18, u19, u20, u21, u22, u23, u24, u25, u26, u27, u28, u29, u30, u31, u32, u33, u34, u35, u36, u37, u38, u39, u40, u41, u42, u43, u44, rfl, rfl, hinv⟩ K hK
    have hbx := cell_of_one hinv.box
    cases st with
    | nil =>
      have hv : v = .slice none 0 0 ∨ ∃ g cap, v = .slice (some ⟨g, 0, none⟩) 0 cap := by
        rcases hinv.row.2 with ⟨h, _⟩ | ⟨g, cap, cur, h, _⟩
        · exact .inl h
        · exact .inr ⟨g, cap, h⟩
      have hv' : ∃ ad cap, v = .slice ad 0 cap := by
        rcases hv with h | ⟨g, cap, h⟩
        · exact ⟨_, _, h⟩
        · exact ⟨_, _, h⟩
      obtain ⟨ad, cap, rfl⟩ := hv'
      clear hv
      gi_wp2
      refine leaves_marks Ds W' hinv.md fun W2 hk => ⟨_, results_none rfl _ _ _, ⟨_, rfl⟩, ?_, ?_⟩
      · exact hinv.kp.trans (hk.mono fun b _ hb hD => by have := hSlt b hb; have := (hinv.neD b hD).2.2; omega)
      · have hO := hinv.own
        refine ⟨_, fun b hb => ⟨(hO b hb).1, Nat.lt_of_lt_of_le (hO b hb).2 hk.size⟩, .inl ?_⟩
        have hx : rawT W0 t 1 (rh, .slice a t.args.length c) = pre := by have := hinv.all; simpa [restS] using this
        rw [hx]
        exact hJ pre _ _ W' W2 hO hinv.j (hk.mono fun b _ hb hD => hb (.inr (.inr hD))) (fun b hb => .inl hb)
    | cons x rest =>
      obtain ⟨g, cap, rfl⟩ : ∃ g cap, v = .slice (some ⟨g, 0, none⟩) (rest.length + 1) cap := by
        rcases hinv.row.2 with ⟨_, h⟩ | ⟨g, cap, cur, h, _⟩
        · simp at h
        · exact ⟨g, cap, h⟩
      have hcap : rest.length + 1 ≤ cap ∧ cap ≤ 9223372036854775807 := by
        rcases hinv.row.2 with ⟨_, h⟩ | ⟨g', cap', cur, h, _, _, h1, h2, _⟩
        · simp at h
        · cases h; exact ⟨h1, h2⟩
      obtain ⟨hcap1, hcap2⟩ := hcap
      obtain ⟨xt, xd, xh, xs⟩ := x
      have hcells := hinv.row.cells (g := g) rfl
      have hlen := flatS_length rest
      have q0 : W'.cell? ⟨g, rest.length * 3, none⟩ = some (.int .i64 xh) := by
        have := hcells (rest.length * 3) (.int .i64 xh) (by simp [flatS, Spot.cells, hlen])
        rwa [add_plain] at this
      have q1 : W'.cell? ⟨g, rest.length * 3 + 1, none⟩ = some xs := by
        have := hcells (rest.length * 3 + 1) xs (by simp [flatS, Spot.cells, hlen])
        rwa [add_plain] at this
      have q2 : W'.cell? ⟨g, rest.length * 3 + 2, none⟩ = some (.int .i64 xd) := by
        have := hcells (rest.length * 3 + 2) (.int .i64 xd) (by simp [flatS, Spot.cells, hlen])
        rwa [add_plain] at this
      clear hcells
      obtain ⟨xa, xc, hxe, _⟩ := (hinv.ok _ (List.mem_cons_self ..)).2.1.shape
      simp only at hxe
      subst hxe
      have hfz : W'.frozen? ⟨W.heap.size + 1, 0, none⟩ = false := free_of_one hinv.box
      have hlt3 : W.heap.size + 1 < W'.heap.size := (Array.getElem?_eq_some_iff.1 hinv.box).1
      have hsr := hinv.le
      have hlr : rest.length ≤ 1000000000 := by have := sizeS_length (⟨xt, xd, xh, .slice xa xt.args.length xc⟩ :: rest); simp at this; omega
      -- the call of yield
      obtain ⟨Wy, hWy⟩ : ∃ Wy, (W'.setCell ⟨W.heap.size + 1, 0, none⟩ (.slice (some ⟨g, 0, none⟩) rest.length cap)).alloc (.cells #[.int .i64 xh, .slice xa xt.args.length xc, .int .i64 xd] 83) = Wy := ⟨_, rfl⟩
      have hsy : Wy.heap.size = W'.heap.size + 1 := by rw [← hWy]; simp
      have hkey : Keep (fun b => b ≠ W.heap.size + 1) W' Wy := by rw [← hWy]; exact ((Keep.refl _ _).setCell (by simp) _).alloc _
      have hboxy : Wy.heap[W.heap.size + 1]? = some (.cells #[.slice (some ⟨g, 0, none⟩) rest.length cap] 84 (0, 0)) := by
        rw [← hWy]; exact (Below.heap_alloc _ _ _ (by simpa using hlt3)).trans (setCell_box hinv.box _)
      have hgb : g ≠ W.heap.size + 1 := fun h => hinv.ne (by simp [Value.ownBlock, h])
      have hrowy : Wy.ownsRow W.heap.size 83 3 (.slice (some ⟨g, 0, none⟩) rest.length cap) rest.length (flatS rest) :=
        ownsRow_keep (ownsRow_pop (flatS_length rest) hinv.row) hkey (fun b hb => by simp [Value.ownBlock] at hb; omega)
      have hpy : Wy.heap[W'.heap.size]? = some (.cells #[.int .i64 xh, .slice xa xt.args.length xc, .int .i64 xd] 83 (0, 0)) := by
        rw [← hWy]; have := World.alloc_heap_new (W'.setCell ⟨W.heap.size + 1, 0, none⟩ (.slice (some ⟨g, 0, none⟩) rest.length cap)) (.cells #[.int .i64 xh, .slice xa xt.args.length xc, .int .i64 xd] 83); simpa using this
      have hown := hinv.own
      have hmdy : Marked Wy Ds := hinv.md.keep hkey (fun D hD => (hinv.neD D hD).2.1)
      have hjy : J (fun b => b = W.heap.size + 1 ∨ g = b ∨ b ∈ Ds ∨ b = W'.heap.size) pre Wy :=
        hJ pre _ _ W' Wy hown hinv.j (hkey.mono fun b _ hb h => hb (.inl h)) (fun b hb => by
          rcases hb with h | h | h | h
          · exact .inl (.inl h)
          · exact .inl (.inr (.inl (by simp [Value.ownBlock, h])))
          · exact .inl (.inr (.inr h))
          · exact .inr (by omega))
      have hSne : ∀ b, S b → b < W.heap.size := fun b hb => Nat.lt_of_lt_of_le (hSlt b hb) hszW
      have hkSy : Keep S W Wy := hinv.kp.trans (hkey.mono fun b _ hb h => by have := hSne b hb; omega)
      have hOy : ∀ b, (b = W.heap.size + 1 ∨ g = b ∨ b ∈ Ds ∨ b = W'.heap.size) → W.heap.size ≤ b ∧ b < Wy.heap.size := by
        rintro b (h | h | h | h)
        · omega
        · have := hown b (.inr (.inl (by simp [Value.ownBlock, h]))); omega
        · have := hown b (.inr (.inr h)); omega
        · have := hinv.kp.size; omega
      have hpre : pre ++ [((xd, xh, .slice xa xt.args.length xc) : Raw)] <+: rawT W0 t 1 (rh, .slice a t.args.length c) := by
        rw [hinv.all]; simp only [restS, List.flatMap_cons, rawT_eq, List.cons_append]
        exact ⟨_, by rw [List.append_assoc]; rfl⟩
      obtain ⟨fn, tmps, assign, body, hy, hR⟩ := hY _ pre _ Wy hpre hOy hkSy hjy
      simp only [encP] at hy
      rw [← hWy] at hy
      have HWy := hide hWy
      clear hWy
      gi_wp2
      rw [HWy.out]
      refine ⟨rfl, hR.mono ?_⟩
      rintro e W3 ⟨hk3, ⟨rfl, hJ3⟩ | ⟨rfl, hJ3⟩⟩
      · have hbx3 := hk3.obj (.inr (.inl rfl)) hboxy
        have hp3 := hk3.obj (.inr (.inr (.inr (.inr rfl)))) hpy
        have hrow3 := ownsRow_keep hrowy hk3 (fun b hb => .inr (.inr (.inl (by simpa [Value.ownBlock] using hb))))
        have hp30 : W3.cell? ⟨W'.heap.size, 0, none⟩ = some (.int .i64 xh) := by simp [World.cell?, hp3]
        have hp31 : W3.cell? ⟨W'.heap.size, 1, none⟩ = some (.slice xa xt.args.length xc) := by simp [World.cell?, hp3]
        have hp32 : W3.cell? ⟨W'.heap.size, 2, none⟩ = some (.int .i64 xd) := by simp [World.cell?, hp3]
        clear hy hR
        gi_wp2_with fail
        refine ⟨trivial, rfl, (callsIn_wide.2 (backT_calls _ ⟨_, _, _, rfl⟩ _)).mono ?_⟩
        rintro e W4 ⟨rfl, hW4⟩
        have hk4 : Keep (fun _ => True) W3 W4 := by rw [hW4]; exact (Keep.refl _ _).alloc _
        have hs4 : W4.heap.size = W3.heap.size + 1 := by rw [hW4]; simp
        have hB4 : W4.cell? ⟨W3.heap.size, 0, none⟩ = some (.slice xa xt.args.length xc) := by rw [hW4]; exact cell_of_one (World.alloc_heap_new _ _)
        have hbx4 := hk4.obj trivial hbx3
        have hp4 := hk4.obj trivial hp3
        have hrow4 := ownsRow_keep hrow3 hk4 (fun _ _ => trivial)
        have hokx := hinv.ok _ (List.mem_cons_self ..)
        have hsz3 := hk3.size
        have hg3 : g < W'.heap.size := (hown g (.inr (.inl rfl))).2
        have hgW : W.heap.size ≤ g := (hown g (.inr (.inl rfl))).1
        have hk04 : Keep S W0 W4 := ((hk0.trans hkSy).trans (hk3.mono fun b _ hb => .inl hb)).trans (hk4.mono fun _ _ _ => trivial)
        clear hW4 hbx hbx3 hp3 hp30 hp31 hp32 hboxy hpy hkey q0 q1 q2 hfz
        gi_wp2_with fail
        refine wp_range_out (gf := 60) (lb := #[.pointer (some ⟨W3.heap.size, 0, none⟩)]) (xs := (rdRow W0 (.slice xa xt.args.length xc) xt.args.length).zipIdx.reverse) (S := fun b => b < W4.heap.size ∧ b ≠ W.heap.size + 1 ∧ b ≠ g) rfl (enters_of Tryd.func60 (by kernel_rfl) rfl)
          (backT_seq W4 _ W3.heap.size xa xc _ ⟨by omega, by omega, by omega⟩ (by rw [rdRow_length]; exact hB4) ?len ?rws) (fun x => rfl)
          (fun O pre Wx => ∃ v, PushInv W4 W.heap.size (W.heap.size + 1) g xt.args (xd + 1) rest O pre v Wx) (fun _ _ _ _ => False) (fun pre => PushInv.framed _ _ _ _ _ _ _ (by omega) pre) (fun _ _ _ _ _ _ _ h _ _ => h)
          ⟨.slice (some ⟨g, 0, none⟩) rest.length cap, hbx4, by simpa [spotsOf] using hrow4, fun b hb => ⟨by simp [Value.ownBlock] at hb; omega, fun h => h, .inl (by simpa [Value.ownBlock] using hb.symm)⟩, Keep.refl _ _⟩ (fun b hb => hb.1)
          (fun O pre x a' Wx => ∃ Bx, Wx.heap[Bx]? = some (.cells #[.int .i64 x.1.1, x.1.2] 24 (0, 0)) ∧ ¬ O Bx ∧ W4.heap.size ≤ Bx ∧ Bx < Wx.heap.size ∧ a' = { tmps := #[.func (.yield l) #[] #[], .pointer (some ⟨Bt, 0, none⟩), undef, .pointer (some ⟨W.heap.size + 1, 0, none⟩), .pointer (some ⟨W'.heap.size, 0, none⟩), u5, .pointer (some ⟨Bx, 0, none⟩), u7, u8, u9, .slice (some ⟨g, 0, none⟩) (rest.length + 1) cap, .int .i64 (rest.length + 1), .bool true, .slice (some ⟨g, 0, none⟩) (rest.length + 1) cap, .slice (some ⟨g, 0, none⟩) (rest.length + 1) cap, .int .i64 (rest.length + 1), .int .i64 rest.length, .pointer (some ⟨g, rest.length * 3, none⟩), .agg #[.int .i64 xh, .slice xa xt.args.length xc, .int .i64 xd], .slice (some ⟨g, 0, none⟩) (rest.length + 1) cap, .slice (some ⟨g, 0, none⟩) (rest.length + 1) cap, .int .i64 (rest.length + 1), .int .i64 rest.length, .slice (some ⟨g, 0, none⟩) rest.length cap, .func (.yield l) #[] #[], .pointer (some ⟨W'.heap.size, 2, none⟩), .int .i64 xd, .pointer (some ⟨W'.heap.size, 0, none⟩), .agg #[.int .i64 xh, .slice xa xt.args.length xc], .bool true, .bool false, .pointer (some ⟨W'.heap.size, 0, none⟩), .pointer (some ⟨W'.heap.size, 1, none⟩), .slice xa xt.args.length xc, .func (.func 60) #[] #[.pointer (some ⟨W3.heap.size, 0, none⟩)], .int .i64 x.2, .agg #[.int .i64 x.1.1, x.1.2], u37, u38, u39, u40, u41, u42, u43, u44], defers := [] }) ?hAx ?assign ?body ?done (fun _ _ _ _ _ _ _ _ _ h => h.elim)
        case len => rw [rdRow_length]; omega
        case rws =>
          intro i hi
          have hi' : i < xt.args.length := by rw [rdRow_length] at hi; exact hi
          obtain ⟨g1, g2, ⟨a1, c1, g3⟩, b, off, g4, g5, g6, g7, g8⟩ := rdRow_get hokx.2.1 i hi' hi
          have hSb := hSA b g5 g6
          exact ⟨⟨a1, _, c1, g3⟩, b, off, g4, ⟨by omega, by omega, by have := hSne b hSb; omega⟩, hk04.cell (p := ⟨b, off + i * 2, none⟩) hSb g7, hk04.cell (p := ⟨b, off + i * 2 + 1, none⟩) hSb g8⟩
        case hAx =>
          rintro O pre x a' Wx Wx' ⟨Bx, h1, h2, h3, h4, h5⟩ hk
          exact ⟨Bx, hk.obj h2 h1, h2, h3, Nat.lt_of_lt_of_le h4 hk.size, h5⟩
        case assign =>
          intro l' O pre x Wx K hpx hI hO hK
          obtain ⟨y, -, -, -, a1, c1, g3⟩ := row_next hokx.2.1 hpx
          clear hpx
          obtain ⟨⟨vh, vs⟩, vi⟩ := x
          simp only at g3
          subst g3
          simp only [encT]
          obtain ⟨v, hI⟩ := hI
          have hw4 := hI.kp.size
          clear hI
          have HK := hide hK
          clear hK
          gi_wp2
          exact HK.out _ _ ((Keep.refl _ _).alloc _) ⟨Wx.heap.size, World.alloc_heap_new _ _, fun h => by have := (hO _ h).2; omega, by omega, by simp, rfl⟩
        case body =>
          rintro l' O pre x a' Wx hpx hO hOl hrec hkx ⟨v, hI⟩ ⟨Bx, hBx1, hBx2, hBx3, hBx4, rfl⟩
          obtain ⟨y, hy0, hy1, hy2, a1, c1, g3⟩ := row_next hokx.2.1 hpx
          have hlenp : pre.length < xt.args.length := by have := hpx.length_le; simp [rdRow_length] at this; omega
          clear hpx
          obtain ⟨⟨vh, vs⟩, vi⟩ := x
          simp only at g3 hy0 hy1 hy2 hBx1
          subst g3
          have HY0 := hide hy0
          have HY1 := hide hy1
          clear hy0 hy1
          have hsr2 : rest.length + xt.args.length ≤ 2000000000 := by
            have h1 := sizeS_length rest
            have h2 := xt.size_eq
            have h3 := Tm.sizes_length xt.args
            simp only [sizeS] at hsr
            omega
          have hb3 : W.heap.size + 1 < Wx.heap.size := by have := hI.kp.size; omega
          have hbc := cell_of_one hI.box
          have hbf := free_of_one hI.box
          have hpx4 := hI.kp.obj (r := W'.heap.size) ⟨by omega, by omega, by omega⟩ hp4
          have c0 : Wx.cell? ⟨Bx, 0, none⟩ = some (.int .i64 vh) := by simp [World.cell?, hBx1]
          have c1' : Wx.cell? ⟨Bx, 1, none⟩ = some (.slice a1 y.args.length c1) := by simp [World.cell?, hBx1]
          have d2 : Wx.cell? ⟨W'.heap.size, 2, none⟩ = some (.int .i64 xd) := by simp [World.cell?, hpx4]
          have hxd0 : 0 ≤ xd := hokx.2.2.1
          have hxd1 : xd ≤ 1000000001 := by have := hokx.2.2.2; simp only at this; omega
          clear hBx1 hpx4 hp4 hbx4 hB4
          obtain ⟨va, vc, rfl⟩ : ∃ va vc, v = .slice va (rest.length + pre.length) vc := by
            rcases hI.row.2 with ⟨h, h'⟩ | ⟨g, cap, cur, h, _⟩
            · exact ⟨none, 0, by rw [h, h']⟩
            · exact ⟨_, _, h⟩
          have hrow := hI.row
          have hown2 := fun b hb => (hI.ne b hb)
          have hbase : W.heap.size ≤ Wx.heap.size := by omega
          gi_wp2_with (gi_at_builtin; refine app_in rfl _ _ 84 rfl W.heap.size 83 (.agg #[.int .i64 0, .slice none 0 0, .int .i64 0]) 3 40 Tryd.underlying84 (by kernel_rfl) rfl (by decide) (by decide) _ _ _ rfl hrow 1 1 _ rfl (by simp [Value.oneCell']) rfl (by omega) hbase ?_; intro v' w1 r1 r2 r3 r4; obtain ⟨va', vc', rfl⟩ := r4; have hb1 := r2.obj (fun h => (hown2 _ h).1 rfl) hI.box; have hc1 := cell_of_one hb1; have hf1 := free_of_one hb1)
          refine ⟨?_, .slice va' (rest.length + pre.length + 1) vc', ?_⟩
          · refine (r2.mono fun b hb h => ?_).setCell ?_ _
            · rcases h with h | h
              · intro hh; have := (hown2 b hh).2.2; omega
              · intro hh; exact (hown2 b hh).2.1 h
            · rintro (h | h)
              · exact h.2.1 rfl
              · have := (hO _ h).1; simp only at this; omega
          · refine ⟨setCell_box hb1 _, ?_, fun b hb => ⟨?_, ?_, ?_⟩, ?_⟩
            · have hsp : flatS (spotsOf xt.args (xd + 1) (pre ++ [((vh, .slice a1 y.args.length c1), vi)]) ++ rest) = flatS (spotsOf xt.args (xd + 1) pre ++ rest) ++ [.int .i64 vh, .slice a1 y.args.length c1, .int .i64 (xd + 1)] := by
                rw [spotsOf_snoc]; simp [flatS, Spot.cells]
              rw [hsp]
              have := ownsRow_keep r1 ((Keep.refl (fun b => b ≠ W.heap.size + 1) w1).setCell (p := ⟨W.heap.size + 1, 0, none⟩) (by simp) (.slice va' (rest.length + pre.length + 1) vc')) (fun b hb => by
                rcases r3 b hb with h | h
                · exact (hown2 b h).1
                · omega)
              simpa [Nat.add_assoc] using this
            · rcases r3 b hb with h | h
              · exact (hown2 b h).1
              · omega
            · rcases r3 b hb with h | h
              · exact (hown2 b h).2.1
              · intro hh; have := (hO _ hh).2; omega
            · rcases r3 b hb with h | h
              · exact (hown2 b h).2.2
              · exact .inr (by have := hI.kp.size; omega)
            · refine (hI.kp.trans (r2.mono fun b hb h hh => ?_)).setCell (by simp) _
              have := (hown2 b hh).2.2; omega
        case done =>
          intro O Wx hO hOw hkx hdef hI
          gi_wp2
          obtain ⟨v, hI⟩ := hI
          have hst : spotsOf xt.args (xd + 1) (rdRow W0 (.slice xa xt.args.length xc) xt.args.length).zipIdx.reverse = kids xt.args (xd + 1) (rdRow W0 (.slice xa xt.args.length xc) xt.args.length) := spotsOf_all _ _ _ (rdRow_length _ _ _)
          have hkl := sizeS_kids xt.args (xd + 1) (rdRow W0 (.slice xa xt.args.length xc) xt.args.length) (rdRow_length _ _ _)
          have hxs := xt.size_eq
          have hD3 : ∀ D, D ∈ Ds → D < W3.heap.size := fun D hD => by have := (hown D (.inr (.inr hD))).2; omega
          have hDg : ∀ D, D ∈ Ds → D ≠ W.heap.size + 1 ∧ D ≠ g := fun D hD => ⟨(hinv.neD D hD).2.1, fun h => (hinv.neD D hD).1 (by simp [Value.ownBlock, h])⟩
          have hmd3 : Marked W3 Ds := hmdy.keep hk3 fun D hD => .inr (.inr (.inr (.inl hD)))
          have hmdx : Marked Wx Ds := (hmd3.keep hk4 fun _ _ => trivial).keep hI.kp fun D hD => ⟨by have := hD3 D hD; omega, hDg D hD⟩
          have hszx := hI.kp.size
          refine hK (sizeS (kids xt.args (xd + 1) (rdRow W0 (.slice xa xt.args.length xc) xt.args.length) ++ rest)) _ _ (by rw [sizeS_append, hkl]; simp only [sizeS]; omega)
            ⟨pre ++ [(xd, xh, .slice xa xt.args.length xc)], kids xt.args (xd + 1) (rdRow W0 (.slice xa xt.args.length xc) xt.args.length) ++ rest, v, W4.heap.size :: Ds, _, _, _, _, _, _, _, _, _, _, _, _, _, _, _, _, _, _, _, _, _, _, _, _, _, _, _, _, _, _, _, _, _, _, _, _, _, _, _, _, _, rfl, rfl, ?_⟩
          exact {
            all := by
              rw [hinv.all]
              rw [restS_cons, restS_append, restS_kids]
              simp
            ok := fun x hx => by
              rcases List.mem_append.1 hx with h | h
              · have h3 := hokx.2.2.1
                have h4 := hokx.2.2.2
                simp only at h3 h4
                exact kids_ok hokx.2.1 (by omega) (by simp only; omega) x h
              · exact hinv.ok x (List.mem_cons_of_mem _ h)
            le := by rw [sizeS_append, hkl]; simp only [sizeS] at hsr; omega
            box := hI.box
            row := by
              have := hI.row
              rw [hst] at this
              have hl : rest.length + (rdRow W0 (.slice xa xt.args.length xc) xt.args.length).zipIdx.reverse.length = (kids xt.args (xd + 1) (rdRow W0 (.slice xa xt.args.length xc) xt.args.length) ++ rest).length := by
                simp [kids, rdRow_length]; omega
              rw [hl] at this
              exact this
            ne := fun h => (hI.ne _ h).1 rfl
            neD := fun D hD => by
              rcases List.mem_cons.1 hD with rfl | hD
              · exact ⟨fun h => (hI.ne _ h).2.1 hOw, by omega, by omega⟩
              · refine ⟨fun h => ?_, (hDg D hD).1, (hinv.neD D hD).2.2⟩
                rcases (hI.ne _ h).2.2 with h' | h'
                · exact (hDg D hD).2 h'
                · have := hD3 D hD; omega
            md := ⟨List.nodup_cons.2 ⟨fun h => by have := hD3 _ h; omega, hmdx.1⟩, fun D hD => by
              rcases List.mem_cons.1 hD with rfl | hD
              · exact hdef
              · exact hmdx.2 D hD⟩
            kp := ((hkSy.trans (hk3.mono fun b _ hb => .inl hb)).trans (hk4.mono fun _ _ _ => trivial)).trans (hI.kp.mono fun b _ hb => by have := hSne b hb; exact ⟨by omega, by omega, by omega⟩)
            j := hJ _ _ _ W3 Wx (fun b hb => ⟨(hOy b hb).1, Nat.lt_of_lt_of_le (hOy b hb).2 hsz3⟩) hJ3
              ((hk4.mono fun _ _ _ => trivial).trans (hI.kp.mono fun b hb hn => by
                by_cases hb4 : b < W4.heap.size
                · exact ⟨hb4, fun h => hn (.inl h), fun h => hn (.inr (.inl h.symm))⟩
                · omega))
              (fun b hb => by
                rcases hb with h | h | h
                · exact .inl (.inl h)
                · rcases (hI.ne b h).2.2 with h' | h'
                  · exact .inl (.inr (.inl h'.symm))
                  · exact .inr (by omega)
                · rcases List.mem_cons.1 h with h' | h'
                  · exact .inr (by omega)
                  · exact .inl (.inr (.inr (.inl h')))) }
      · gi_wp2
        have hks3 : Keep S W W3 := hkSy.trans (hk3.mono fun b _ hb => .inl hb)
        have hO3 : ∀ b, (b = W.heap.size + 1 ∨ g = b ∨ b ∈ Ds ∨ b = W'.heap.size) → W.heap.size ≤ b ∧ b < W3.heap.size := fun b hb => ⟨(hOy b hb).1, Nat.lt_of_lt_of_le (hOy b hb).2 hk3.size⟩
        refine leaves_marks Ds W3 (hmdy.keep hk3 fun D hD => .inr (.inr (.inr (.inl hD)))) fun W5 hk => ⟨_, results_none rfl _ _ _, ⟨_, rfl⟩, ?_, ?_⟩
        · exact hks3.trans (hk.mono fun b _ hb hD => by have := hSne b hb; have := (hinv.neD b hD).2.2; omega)
        · refine ⟨_, fun b hb => ⟨(hO3 b hb).1, Nat.lt_of_lt_of_le (hO3 b hb).2 hk.size⟩, .inr ⟨_, hpre, ?_⟩⟩
          exact hJx _ _ _ W3 W5 hO3 hJ3 (hk.mono fun b _ hb hD => hb (.inr (.inr (.inl hD)))) (fun b hb => .inl hb)

theorem parts_calls (h : Int) (s : Value) (hs : ∃ a n c, s = .slice a n c) (w : World) :
    Calls Tryd.prog 28 #[.agg #[.int .i64 h, s]] w fun e w' => e = .returned (.func (.func 46) #[] #[.pointer (some ⟨w.heap.size, 0, none⟩)]) ∧ w' = w.alloc (.cells #[.int .i64 h, s] 24) := by
  obtain ⟨a, n, c, rfl⟩ := hs
  go_enter Tryd.func28, Tryd.ntmps28
  go_wp2
  go_ret
  exact ⟨rfl, rfl⟩
end Go.Proofs.YtneecjikdghchaaDoor
