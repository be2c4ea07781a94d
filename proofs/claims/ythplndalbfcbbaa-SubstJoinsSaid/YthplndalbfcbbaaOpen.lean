/- subst.open: a substitution's table, made. -/
import Derived.Test.YthplndalbfcbbaaTable
import Derived.Test.YthplndalbfcbbaaParts
set_option linter.unusedVariables false
set_option linter.unusedSimpArgs false
namespace Go.Proofs.Ythplndalbfcbbaa
open Go.RowKit Go.Shelf
attribute [local go_sem] Oper.semAt_some

theorem MapBinds.keep {A S : Nat → Prop} {W W' : World} {b : Nat} {bs : List Bd} (h : MapBinds A W b bs) (hk : Keep S W W') (hb : S b) (hA : ∀ c, c < W.heap.size → ¬ A c → S c) : MapBinds A W' b bs := by
  obtain ⟨f, h1, h2⟩ := h
  exact ⟨f, h1.keep hk hb, fun x => ⟨(h2 x).1, fun t ht => by obtain ⟨s, h3, h4⟩ := (h2 x).2 t ht; exact ⟨s, h3, h4.keep hk hA⟩⟩⟩
theorem zip_at {β : Type} {pre : List (β × Nat)} {x : β × Nat} {rs : List β} (h : pre ++ [x] <+: rs.zipIdx.reverse) : x.2 + pre.length + 1 = rs.length ∧ ∃ hi : x.2 < rs.length, rs[x.2] = x.1 := by
  obtain ⟨t, ht⟩ := h
  have h1 : (rs.zipIdx.reverse)[pre.length]? = some x := by rw [← ht]; simp
  have h2 : pre.length < rs.length := by
    have := congrArg List.length ht
    simp at this; omega
  rw [List.getElem?_reverse (by simpa using h2)] at h1
  simp only [List.length_zipIdx, List.getElem?_zipIdx] at h1
  rw [Option.map_eq_some_iff] at h1
  obtain ⟨y, hy, rfl⟩ := h1
  simp only [Nat.zero_add]
  refine ⟨by omega, by omega, ?_⟩
  exact (List.getElem?_eq_some_iff.1 hy).2
/-- The binds, as their cells stand. -/
theorem Binds.raws {A : Nat → Prop} {w : World} {a : Option Addr} {n c : Nat} {bs : List Bd} (h : Binds A w (.slice a n c) bs) :
    ∃ rs : List (Int × Int × Value), rs.length = bs.length ∧ ∀ i (hi : i < rs.length) (hi' : i < bs.length), rs[i].1 = bs[i].v ∧ rs[i].2.1 = bs[i].t.h ∧ Terms A w rs[i].2.2 bs[i].t.args ∧ (∃ a' n' c', rs[i].2.2 = .slice a' n' c') ∧
      ∃ b off, a = some ⟨b, off, none⟩ ∧ b < w.heap.size ∧ ¬ A b ∧ w.cell? ⟨b, off + i * 3, none⟩ = some (.int .i64 rs[i].1) ∧ w.cell? ⟨b, off + i * 3 + 1, none⟩ = some (.int .i64 rs[i].2.1) ∧ w.cell? ⟨b, off + i * 3 + 2, none⟩ = some rs[i].2.2 := by
  have hx : ∀ i : Fin bs.length, ∃ r : Int × Int × Value, r.1 = bs[i].v ∧ r.2.1 = bs[i].t.h ∧ Terms A w r.2.2 bs[i].t.args ∧ (∃ a' n' c', r.2.2 = .slice a' n' c') ∧
      ∃ b off, a = some ⟨b, off, none⟩ ∧ b < w.heap.size ∧ ¬ A b ∧ w.cell? ⟨b, off + i * 3, none⟩ = some (.int .i64 r.1) ∧ w.cell? ⟨b, off + i * 3 + 1, none⟩ = some (.int .i64 r.2.1) ∧ w.cell? ⟨b, off + i * 3 + 2, none⟩ = some r.2.2 := by
    intro i
    obtain ⟨b, off, a', c', h1, h2, h3, h4, h5, h6, h7⟩ := h.get i i.2
    exact ⟨(_, _, _), rfl, rfl, h7, ⟨_, _, _, rfl⟩, b, off, h1, h2, h3, h4, h5, h6⟩
  refine ⟨List.ofFn fun i => Classical.choose (hx i), by simp, fun i hi hi' => ?_⟩
  simp only [List.getElem_ofFn]
  exact Classical.choose_spec (hx ⟨i, hi'⟩)

def OpenS (m s : Nat) : Nat → Prop := fun x => x < s ∧ x ≠ m
def OpenI (A : Nat → Prop) (m : Nat) (bs : List Bd) (W : World) (_ : Nat → Prop) (pre : List ((Int × Int × Value) × Nat)) (Wx : World) : Prop :=
  Keep (OpenS m W.heap.size) W Wx ∧ ∃ k, k + pre.length = bs.length ∧ MapBinds (fun b => A b ∨ m ≤ b) Wx m (bs.drop k)

set_option maxHeartbeats 2000000 in
set_option maxRecDepth 100000 in
theorem open_calls (bs : List Bd) (A : Nat → Prop) (s : Value) (w : World) (hrange : ∀ b, b ∈ bs → -9223372036854775808 ≤ b.v ∧ b.v ≤ 9223372036854775807) (hs : Binds A w s bs) :
    Calls Try.prog 84 #[s] w fun e w' => e = .returned (.map (some w.heap.size)) ∧ MapBinds A w' w.heap.size bs ∧ Below w.heap.size w w' := by
  refine (callsIn_wide (n := 0)).1 ?_
  obtain ⟨a, c, rfl, hlc, hc⟩ := hs.shape
  have hmm := @run_makeMap Try.prog
  refine callsIn_of_wp_marks Try.func84 rfl trivial ?_ rfl
  simp only [Try.ntmps84, List.size_toArray, List.length_cons, List.length_nil, Nat.reduceAdd, Nat.reduceSub, Array.replicate_succ, Array.replicate_zero, List.push_toArray, List.append_toArray, List.nil_append, List.cons_append]
  gi_wp2_with fail
  refine ⟨trivial, rfl, (callsIn_wide.2 (backB_calls _ ⟨_, _, _, rfl⟩ _)).mono ?_⟩
  rintro e W ⟨rfl, hW⟩
  have HW := hide hW
  clear hW
  gi_wp2_with fail
  have hWa : W = allocs w [.map #[] 0, .cells #[.map (some w.heap.size)] 98, .cells #[.slice a bs.length c] 22] := HW.out
  clear HW
  have hsW0 : W.heap.size = w.heap.size + 3 := by rw [hWa, allocs_size]; rfl
  have hsW1 : W.heap.size ≤ w.heap.size + 3 := by omega
  have hsW2 : w.heap.size + 3 ≤ W.heap.size := by omega
  clear hsW0
  have hbW : Below w.heap.size w W := by rw [hWa]; exact allocs_below _ _
  have e0 : W.heap[w.heap.size]? = some (.map #[] 0) := by rw [hWa]; exact allocs_get _ _ 0 _ rfl
  have e1 : W.heap[w.heap.size + 1]? = some (.cells #[.map (some w.heap.size)] 98 (0, 0)) := by rw [hWa]; exact allocs_get _ _ 1 _ rfl
  have e2 : W.heap[w.heap.size + 1 + 1]? = some (.cells #[.slice a bs.length c] 22 (0, 0)) := by rw [hWa]; exact allocs_get _ _ 2 _ rfl
  clear hWa hmm
  have hsA : Binds (fun b => A b ∨ w.heap.size ≤ b) W (.slice a bs.length c) bs := (hs.bar (fun b hb h => by rcases h with h | h; exact h; omega)).below hbW
  obtain ⟨rs, hrl, hraw⟩ := Binds.raws hsA
  refine wp_range_out (gf := 168) (lb := #[.pointer (some ⟨w.heap.size + 1 + 1, 0, none⟩)]) (xs := rs.zipIdx.reverse) (S := OpenS w.heap.size W.heap.size) rfl (enters_of Try.func168 (by kernel_rfl) rfl)
    (backB_seq W _ (w.heap.size + 1 + 1) a c rs ⟨by omega, by omega⟩ (by rw [hrl]; simp [World.cell?, e2]) (by omega) (fun i hi => by
      obtain ⟨-, -, -, h4, b, off, h5, h6, h7, h8⟩ := hraw i hi (by omega)
      exact ⟨h4, b, off, h5, ⟨h6, fun e => h7 (.inr (by omega))⟩, h8⟩)) (fun x => rfl)
    (OpenI A w.heap.size bs W) (fun _ _ _ _ => False) ?frI (fun _ _ _ _ _ _ _ h _ _ => h)
    ⟨Keep.refl _ _, bs.length, by simp, by rw [List.drop_length]; exact ⟨fun _ => none, ⟨#[], 0, e0, by simp, by simp, by simp, by simp⟩, fun x => ⟨fun _ => rfl, fun t ht => by simp [firstB] at ht⟩⟩⟩ (fun b hb => hb.1)
    (fun O pre x a' Wx => ∃ Bx, Wx.heap[Bx]? = some (.cells #[.int .i64 x.1.1, .int .i64 x.1.2.1, x.1.2.2] 60 (0, 0)) ∧ ¬ O Bx ∧ W.heap.size ≤ Bx ∧ Bx < Wx.heap.size ∧ a' = { tmps := #[.slice a bs.length c, undef, .map none, .pointer (some ⟨w.heap.size + 1, 0, none⟩), undef, .pointer (some ⟨Bx, 0, none⟩), .map (some w.heap.size), .slice a bs.length c, .func (.func 168) #[] #[.pointer (some ⟨w.heap.size + 1 + 1, 0, none⟩)], .int .i64 x.2, .agg #[.int .i64 x.1.1, .int .i64 x.1.2.1, x.1.2.2], undef, undef, undef, undef, undef, undef], defers := [] }) ?hAx ?assign ?body ?done (fun _ _ _ _ _ _ _ _ _ h => h.elim)
  case frI =>
    rintro pre O O' Wx Wx' hO ⟨hk0, k, hk1, hm⟩ hk hO'
    refine ⟨hk0.trans (hk.mono fun b _ hb h => by have := (hO b h).1; have := hb.1; omega), k, hk1, hm.keep hk (fun h => by have := (hO _ h).1; omega) (fun c hc hA h => hA (.inr (by have := (hO _ h).1; omega)))⟩
  case hAx =>
    rintro O pre x a' Wx Wx' ⟨Bx, h1, h2, h3, h4, h5⟩ hk
    exact ⟨Bx, hk.obj h2 h1, h2, h3, Nat.lt_of_lt_of_le h4 hk.size, h5⟩
  case assign =>
    intro l O pre x Wx K hpx hI hO hK
    obtain ⟨-, hi, hxe⟩ := zip_at hpx
    obtain ⟨-, -, -, ⟨xa, xn, xc, hx4⟩, -⟩ := hraw x.2 hi (by omega)
    rw [hxe] at hx4
    obtain ⟨hk, -⟩ := hI
    have hsz := hk.size
    clear hpx hk
    obtain ⟨⟨xv, xh, xs⟩, xi⟩ := x
    simp only at hx4
    subst hx4
    simp only [encB]
    have HK := hide hK
    clear hK e0 e1 e2
    gi_wp2
    exact HK.out _ _ ((Keep.refl _ _).alloc _) ⟨Wx.heap.size, World.alloc_heap_new _ _, fun h => by have := (hO _ h).2; omega, by omega, by simp, rfl⟩
  case body =>
    rintro l O pre x a' Wx hpx hO hOl hrec hkx ⟨hk0, k, hk1, hm⟩ ⟨Bx, hBx1, hBx2, hBx3, hBx4, rfl⟩
    obtain ⟨hxi, hi, hxe⟩ := zip_at hpx
    have hib : x.2 < bs.length := by omega
    obtain ⟨r1, r2, r3, ⟨xa, xn, xc, hx4⟩, -⟩ := hraw x.2 hi hib
    rw [hxe] at r1 r2 r3 hx4
    clear hpx
    obtain ⟨⟨xv, xh, xs⟩, xi⟩ := x
    simp only at r1 r2 r3 hx4 hBx1 hxi hi hib
    subst hx4
    obtain ⟨f, hmf, hf⟩ := hm
    have hrg := hrange bs[xi] (List.getElem_mem _)
    have hv0 : -9223372036854775808 ≤ xv := by rw [r1]; exact hrg.1
    have hv1 : xv ≤ 9223372036854775807 := by rw [r1]; exact hrg.2
    have c0 : Wx.cell? ⟨Bx, 0, none⟩ = some (.int .i64 xv) := by simp [World.cell?, hBx1]
    have c1 : Wx.cell? ⟨Bx, 1, none⟩ = some (.int .i64 xh) := by simp [World.cell?, hBx1]
    have c2 : Wx.cell? ⟨Bx, 2, none⟩ = some (.slice xa xn xc) := by simp [World.cell?, hBx1]
    have k1 := cell_of_one (hk0.obj ⟨by omega, by omega⟩ e1)
    have R1 := hide r1
    have R2 := hide r2
    have HXI := hide hxi
    have HK1 := hide hk1
    have HF := hide hf
    have HXE := hide hxe
    clear r1 r2 hxi hk1 hBx1 hxe hrg hf e0 e1 e2
    gi_wp2_with (gi_at_mapUpdate; refine store_in rfl _ _ _ 98 rfl Try.underlying3 Try.underlying98 w.heap.size f rfl hmf xv rfl hv0 hv1 _ rfl ?_; intro W2 hm2 hk2)
    refine ⟨hk2.mono fun b _ h e => ?_, hk0.trans (hk2.mono fun b _ h => h.2), xi, by have := HXI.out; simp; omega, _, hm2, fun z => ?_⟩
    · rcases h with h | h
      · exact h.2 e
      · have := (hO b h).1; omega
    · rw [firstB_drop bs xi hib]
      by_cases hz : z = xv
      · have hz' : z = bs[xi].v := by rw [hz, R1.out]
        rw [if_pos hz']
        refine ⟨fun h => (by cases h), fun t ht => ?_⟩
        cases ht
        refine ⟨.slice xa xn xc, (if_pos hz).trans (by rw [← R2.out]; rfl), ?_⟩
        have hT := r3.keep hk0 (fun b hb hA => ⟨hb, fun e => hA (.inr (by omega))⟩)
        exact hT.keep hk2 (fun b _ hA e => hA (.inr (by omega)))
      · have hz' : ¬ z = bs[xi].v := by rw [← R1.out]; exact hz
        rw [if_neg hz']
        have hk9 : k = xi + 1 := by have := HXI.out; have := HK1.out; omega
        subst hk9
        refine ⟨fun h => (by simp [hz, (HF.out z).1 h]), fun t ht => ?_⟩
        obtain ⟨s1, g1, g2⟩ := (HF.out z).2 t ht
        exact ⟨s1, by simp [hz, g1], g2.keep hk2 (fun b _ hA e => hA (.inr (by omega)))⟩
  case done =>
    intro O Wx hO hOw hkx hdef ⟨hk0, k, hk1, hm⟩
    have k1 := cell_of_one (hk0.obj ⟨by omega, by omega⟩ e1)
    have hB : Below w.heap.size w Wx := hbW.trans (hk0.below (fun b hb => ⟨by omega, by omega⟩) (by omega))
    have hszx := hk0.size
    have hk9 : k = 0 := by simp [hrl] at hk1; omega
    subst hk9
    have FIN := hide (show MapBinds (fun b => A b ∨ w.heap.size ≤ b) Wx w.heap.size bs from by simpa using hm)
    clear e0 e1 e2 hk1 hm hkx
    have fin : ∀ (tm : Array Value), tm[2]? = some (.map (some w.heap.size)) → LeavesInM Fence.wide 0 Try.prog Try.f84 tm (fun e w' => e = .returned (.map (some w.heap.size)) ∧ MapBinds A w' w.heap.size bs ∧ Below w.heap.size w w') (marks [W.heap.size]) .returning Wx := by
      intro tm h1
      refine leaves_marks [W.heap.size] Wx ⟨by simp, fun D hD => by simp at hD; subst hD; exact hdef⟩ fun W' hk => ⟨_, results_tmp rfl _ _ _, ?_, ?_, hB.trans (hk.below (fun b hb => by simp; omega) (by omega))⟩
      · simp [h1, Array.getD_eq_getD_getElem?]
      · exact (FIN.out.keep hk (by simp; omega) (fun c hc hA e => hA (.inr (by simp at e; omega)))).bar fun _ _ h => .inl h
    gi_wp2
    exact fin _ rfl
end Go.Proofs.Ythplndalbfcbbaa
