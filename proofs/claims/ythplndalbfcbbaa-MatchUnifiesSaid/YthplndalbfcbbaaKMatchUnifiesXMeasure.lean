/- What the proof of the law rests on: contracts of the functions, plain laws, and words. -/
import Derived.Test.YthplndalbfcbbaaKMatchUnifiesXLook
set_option linter.unusedSimpArgs false
set_option linter.unusedVariables false
namespace Go.Proofs.Ythplndalbfcbbaa
open Go.RowKit
theorem KnAt.boxset {T : TypeId} {w w0 : World} {kb lo b : Nat} {F : Int → Option Value} {x y : Value} {t : TypeId} (hk : KnAt T w kb lo F) (hb : Boxed kb w b (.cells #[x, y] t (0, 0))) (hs : KStep kb w0 w) (h0 : w0.heap.size ≤ b) (u v : Value) :
    KnAt T ((w.setCell ⟨b, 0, none⟩ u).setCell ⟨b, 1, none⟩ v) kb lo F ∧ KStep kb w0 ((w.setCell ⟨b, 0, none⟩ u).setCell ⟨b, 1, none⟩ v) := by
  obtain ⟨m9, e1, e2, e3⟩ := hk
  have hkp : Keep (fun c => c ≠ b) w ((w.setCell ⟨b, 0, none⟩ u).setCell ⟨b, 1, none⟩ v) := ((Keep.refl _ _).setCell (p := ⟨b, 0, none⟩) (by simp) _).setCell (p := ⟨b, 1, none⟩) (by simp) _
  have hkne : kb ≠ b := fun e => hb.2.1 e.symm
  have hcc := (box1 e1).2.1
  have hmne : ∀ mb, m9 = some mb → mb ≠ b := fun mb e h => hb.2.2 (by rw [hcc, e, h])
  have hcell : ((w.setCell ⟨b, 0, none⟩ u).setCell ⟨b, 1, none⟩ v).cell? ⟨kb, 0, none⟩ = w.cell? ⟨kb, 0, none⟩ := by rw [hcc]; exact (box1 (hkp.obj hkne e1)).2.1
  exact ⟨⟨m9, hkp.obj hkne e1, e2, fun mb e => ⟨(e3 mb e).1.keep hkp (hmne mb e), (e3 mb e).2⟩⟩,
    ⟨⟨hkp.os.trans hs.keep.os, hkp.tape.trans hs.keep.tape, hkp.output.trans hs.keep.output, Nat.le_trans hs.keep.size hkp.size, fun x hx hS => (hkp.block x (by have := hs.keep.size; omega) (by omega)).trans (hs.keep.block x hx hS)⟩, fun mb e => hs.map mb (hcell ▸ e), fun mb e => hcell.symm ▸ hs.stay mb e⟩⟩
theorem Boxed.set {w : World} {kb b : Nat} {x y : Value} {t : TypeId} (h : Boxed kb w b (.cells #[x, y] t (0, 0))) (u v : Value) : Boxed kb ((w.setCell ⟨b, 0, none⟩ u).setCell ⟨b, 1, none⟩ v) b (.cells #[u, v] t (0, 0)) := by
  refine ⟨box2_set h.1 u v, h.2.1, fun e => h.2.2 ?_⟩
  have e1 : ((w.setCell ⟨b, 0, none⟩ u).setCell ⟨b, 1, none⟩ v).heap[kb]? = w.heap[kb]? := (Below.heap_setCell _ _ _ _ (by show kb ≠ b; exact fun e => h.2.1 e.symm)).trans (Below.heap_setCell _ _ _ _ (by show kb ≠ b; exact fun e => h.2.1 e.symm))
  simp only [World.cell?, e1] at e ⊢
  exact e
theorem KnAt.boxset1 {T : TypeId} {w w0 : World} {kb lo b : Nat} {F : Int → Option Value} {x y : Value} {t : TypeId} (hk : KnAt T w kb lo F) (hb : Boxed kb w b (.cells #[x, y] t (0, 0))) (hs : KStep kb w0 w) (h0 : w0.heap.size ≤ b) (v : Value) :
    KnAt T (w.setCell ⟨b, 1, none⟩ v) kb lo F ∧ KStep kb w0 (w.setCell ⟨b, 1, none⟩ v) ∧ (∀ c o, c ≠ b → Boxed kb w c o → Boxed kb (w.setCell ⟨b, 1, none⟩ v) c o) ∧ (w.setCell ⟨b, 1, none⟩ v).heap[b]? = some (.cells #[x, v] t (0, 0)) := by
  obtain ⟨m9, e1, e2, e3⟩ := hk
  have hkp : Keep (fun c => c ≠ b) w (w.setCell ⟨b, 1, none⟩ v) := (Keep.refl _ _).setCell (p := ⟨b, 1, none⟩) (by simp) _
  have hkne : kb ≠ b := fun e => hb.2.1 e.symm
  have hcc := (box1 e1).2.1
  have hmne : ∀ mb, m9 = some mb → mb ≠ b := fun mb e h => hb.2.2 (by rw [hcc, e, h])
  have hcell : (w.setCell ⟨b, 1, none⟩ v).cell? ⟨kb, 0, none⟩ = w.cell? ⟨kb, 0, none⟩ := by rw [hcc]; exact (box1 (hkp.obj hkne e1)).2.1
  exact ⟨⟨m9, hkp.obj hkne e1, e2, fun mb e => ⟨(e3 mb e).1.keep hkp (hmne mb e), (e3 mb e).2⟩⟩,
    ⟨⟨hkp.os.trans hs.keep.os, hkp.tape.trans hs.keep.tape, hkp.output.trans hs.keep.output, Nat.le_trans hs.keep.size hkp.size, fun x hx hS => (hkp.block x (by have := hs.keep.size; omega) (by omega)).trans (hs.keep.block x hx hS)⟩, fun mb e => hs.map mb (hcell ▸ e), fun mb e => hcell.symm ▸ hs.stay mb e⟩,
    fun c o hc h => ⟨hkp.obj hc h.1, h.2.1, fun e => h.2.2 (hcell ▸ e)⟩, box2_set1 hb.1 v⟩
def zm (t : Tm) : Int := min (t.size : Int) 401
def dm (t : Tm) : Int := min (t.depth : Int) 41
def okMS (S : Sub) (F : Int → Option Value) : Prop := ∀ x u, F x = some u → u = .agg #[.int .i64 (zm (S x)), .int .i64 (dm (S x))]
def toldM (f : Env) (t : Tm) (F : Int → Option Value) : Prop := t.h < 0 → (∃ u, f (-1 - t.h) = some u) → ∃ u, F (-1 - t.h) = some u
def MeasPost (kb ss : Nat) (f : Env) (S : Sub) (t : Tm) (w : World) (e : Ending) (w' : World) : Prop :=
  e = .returned (.agg #[.int .i64 (zm (app S t)), .int .i64 (dm (app S t))]) ∧ ∃ F', KStep kb w w' ∧ KnAt 189 w' kb ss F' ∧ okMS S F' ∧ toldM f t F'
def MeasC (A : Nat → Prop) (sb ss : Nat) (f : Env) (S : Sub) (kb : Nat) (t : Tm) : Prop :=
  ∀ (w : World) (F : Int → Option Value) (h : Int) (s : Value), SolAt A w sb ss f → KnAt 189 w kb ss F → okMS S F → IsTm (OldA sb A) w h s t →
    Calls Try.prog 155 #[.pointer (some ⟨ss, 0, none⟩), .pointer (some ⟨kb, 0, none⟩), .agg #[.int .i64 h, s]] w fun e w' => MeasPost kb ss f S t w e w'
theorem SolAt.kstep {A : Nat → Prop} {T : TypeId} {w w' : World} {sb ss kb : Nat} {f : Env} {F : Int → Option Value} (h : SolAt A w sb ss f) (hk : KnAt T w kb ss F) (hlt : ss < kb) (k : KStep kb w w') : SolAt A w' sb ss f := h.keep (k.low hk hlt) fun _ hb => hb
theorem IsTm.kstep {A : Nat → Prop} {T : TypeId} {w w' : World} {sb ss kb : Nat} {F : Int → Option Value} (hsb : sb < ss) (hk : KnAt T w kb ss F) (hlt : ss < kb) (k : KStep kb w w') {x : Int} {s : Value} {t : Tm} (ht : IsTm (OldA sb A) w x s t) : IsTm (OldA sb A) w' x s t :=
  ht.keep9 (k.low hk hlt) fun b _ hb => by simp only [OldA, not_or] at hb; omega
set_option maxHeartbeats 4000000 in
set_option maxRecDepth 100000 in
theorem meastell_calls (A : Nat → Prop) (sb ss : Nat) (f : Env) (S : Sub) (kb p q ub : Nat) (hlt : ss < kb) (u : Tm) (au : Option Addr) (cu : Nat) (F : Int → Option Value) (w : World) (hsol : SolAt A w sb ss f) (hk : KnAt 189 w kb ss F) (hok : okMS S F)
    (hp : w.heap[p]? = some (.cells #[.pointer (some ⟨ss, 0, none⟩)] 129 (0, 0))) (hq : w.heap[q]? = some (.cells #[.pointer (some ⟨kb, 0, none⟩)] 192 (0, 0)))
    (hu : w.heap[ub]? = some (.cells #[.int .i64 u.h, .slice au u.args.length cu] 25 (0, 0))) (ht : IsTm (OldA sb A) w u.h (.slice au u.args.length cu) u) (hL : MeasC A sb ss f S kb u) :
    Calls Try.prog 184 #[.pointer (some ⟨p, 0, none⟩), .pointer (some ⟨q, 0, none⟩), .pointer (some ⟨ub, 0, none⟩)] w fun e w' => MeasPost kb ss f S u w e w' := by
  have hsb := hsol.lt
  have hB : Below w.heap.size w (w.alloc (.cells #[.int .i64 0, .int .i64 0] 190)) := (Below.refl _ _).alloc (Nat.le_refl _) _
  have hb : (w.alloc (.cells #[.int .i64 0, .int .i64 0] 190)).heap[w.heap.size]? = some (.cells #[.int .i64 0, .int .i64 0] 190 (0, 0)) := World.alloc_heap_new _ _
  have HBX := hide (hk.boxed hB hb (Nat.le_refl _))
  have HS0 := hide (KStep.of_below hB hk.lt)
  have hi := hL _ F _ _ (hsol.below hB) (hk.below hB) hok (ht.below hB)
  obtain ⟨-, z0, -⟩ := box1 ((hB.block _ (Array.getElem?_eq_some_iff.1 hp).1).trans hp)
  obtain ⟨-, z1, -⟩ := box1 ((hB.block _ (Array.getElem?_eq_some_iff.1 hq).1).trans hq)
  obtain ⟨-, z2, z3, -, -⟩ := box2 ((hB.block _ (Array.getElem?_eq_some_iff.1 hu).1).trans hu)
  clear hL hsol hk hok hp hq hu ht hb hB
  go_enter Try.func184, Try.ntmps184
  go_wp2_with fail
  refine hi.mono ?_
  rintro e w1 ⟨rfl, F', h1, h2, h3, h4⟩
  have K4 := hide h4
  obtain ⟨k1, k2⟩ := h2.boxset (HBX.out.step h1) (HS0.out.trans h1) (Nat.le_refl _) (.int .i64 (zm (app S u))) (.int .i64 (dm (app S u)))
  have K1 := hide k1
  have K2 := hide k2
  have K3 := hide h3
  have hbx := (HBX.out.step h1).1
  obtain ⟨-, q0, q1, q2, q3⟩ := box2 hbx
  obtain ⟨-, r0, r1, -, -⟩ := box2 (box2_set hbx (.int .i64 (zm (app S u))) (.int .i64 (dm (app S u))))
  clear hi h1 h2 h3 h4 k1 k2 z0 z1 z2 z3 hbx
  generalize hzz : zm (app S u) = zz at *
  generalize hdd : dm (app S u) = dd at *
  have HZ := hide hzz
  have HD := hide hdd
  clear hzz hdd
  go_wp2
  exact bodyPost_ret (v := .agg #[.int .i64 zz, .int .i64 dd]) (by simp [results, Try.results184, go_sem, r0, r1]) rfl ⟨by rw [HZ.out, HD.out], F', K2.out, K1.out, K3.out, K4.out⟩
theorem depths_snoc : ∀ (l : List Tm) (t : Tm), Tm.depths (l ++ [t]) = max (Tm.depths l) t.depth
  | [], t => by simp [Tm.depths]
  | x :: l, t => by simp only [List.cons_append, Tm.depths, depths_snoc l t]; omega
theorem depth_eq (t : Tm) : t.depth = 1 + Tm.depths t.args := by cases t; simp [Tm.depth, Tm.args]
def zk (S : Sub) (l : List Tm) : Int := min (1 + (Tm.sizes (appL S l) : Int)) 401
def dk (S : Sub) (l : List Tm) : Int := min (Tm.depths (appL S l) : Int) 41
theorem appL_take (S : Sub) (l : List Tm) (k : Nat) (h : k < l.length) : appL S (l.take (k + 1)) = appL S (l.take k) ++ [app S l[k]] := by
  rw [appL_map, appL_map, List.take_succ_eq_append_getElem h, List.map_append]; rfl
theorem zk_step (S : Sub) (l : List Tm) (k : Nat) (h : k < l.length) : min (zk S (l.take k) + zm (app S l[k])) 401 = zk S (l.take (k + 1)) := by
  unfold zk zm
  rw [appL_take S l k h, Tm.sizes_append]
  simp only [Tm.sizes]
  push_cast
  omega
theorem dk_step (S : Sub) (l : List Tm) (k : Nat) (h : k < l.length) : max (dk S (l.take k)) (dm (app S l[k])) = dk S (l.take (k + 1)) := by
  unfold dk dm
  rw [appL_take S l k h, depths_snoc]
  push_cast
  omega
theorem zk_end {S : Sub} {t : Tm} (h : ¬ t.h < 0) : zk S t.args = zm (app S t) := by
  unfold zk zm; rw [app_pos h, Tm.size]; push_cast; rfl
theorem dk_end {S : Sub} {t : Tm} (h : ¬ t.h < 0) : min (dk S t.args + 1) 41 = dm (app S t) := by
  unfold dk dm; rw [app_pos h, depth_eq]; simp only [Tm.args]; push_cast
  omega
theorem zk_range (S : Sub) (l : List Tm) : 1 ≤ zk S l ∧ zk S l ≤ 401 := by unfold zk; omega
theorem dk_range (S : Sub) (l : List Tm) : 0 ≤ dk S l ∧ dk S l ≤ 41 := by unfold dk; omega
theorem zm_range (t : Tm) : 1 ≤ zm t ∧ zm t ≤ 401 := by have := t.size_eq; unfold zm; omega
theorem dm_range (t : Tm) : 0 ≤ dm t ∧ dm t ≤ 41 := by unfold dm; omega
theorem zm_var (v : Int) : zm (varT v) = 1 ∧ dm (varT v) = 1 := by
  unfold zm dm varT
  simp [Tm.size, Tm.sizes, Tm.depth, Tm.depths]
  omega
set_option maxHeartbeats 8000000 in
set_option maxRecDepth 100000 in
theorem measure_calls (A : Nat → Prop) (sb ss : Nat) (f : Env) (S : Sub) (hS : Solved f S) (kb : Nat) (hlt : ss < kb) : ∀ (n N : Nat) (t : Tm), t.size ≤ N → t.good = true → (∀ u, occ u t → rankU S u < n) → MeasC A sb ss f S kb t := by
  intro n
  induction n using Nat.strongRecOn with
  | ind n ihn =>
  intro N
  induction N with
  | zero => intro t ht; have := t.size_eq; omega
  | succ N ih =>
    intro t hts hg hr w F h s hsol hk hok ht
    obtain ⟨rfl, a, c, rfl, hlc, hcc⟩ := ht.shape
    have hgo := good_args hg
    have hsb := hsol.lt
    have HSO0 := hide hsol
    have HK0 := hide hk
    have HOK := hide hok
    have HT0 := hide ht
    clear hsol hk hok ht
    go_enter Try.func155, Try.ntmps155
    refine seq_cut (fun a' w' => a' = { tmps := #[.pointer (some ⟨ss, 0, none⟩), .pointer (some ⟨kb, 0, none⟩), .agg #[.int .i64 t.h, .slice a t.args.length c], .pointer (some ⟨w.heap.size, 0, none⟩), .pointer (some ⟨w.heap.size + 1, 0, none⟩), .pointer (some ⟨w.heap.size + 1 + 1, 0, none⟩), .pointer (some ⟨w.heap.size + 1 + 1 + 1, 0, none⟩), undef, undef, undef, undef, undef, undef, undef, undef, undef, undef, undef, undef, undef, undef, undef, undef, undef, undef, undef, undef, undef, undef, undef, undef, undef, undef, undef, undef, undef, undef, undef, undef, undef, undef, undef, undef, undef, undef, undef, undef, undef, undef, undef, undef, undef, undef, undef, undef, undef, undef, undef, undef, undef, undef, undef, undef, undef, undef, undef, undef, undef], defers := [] } ∧ w' = allocs w [.cells #[.pointer (some ⟨ss, 0, none⟩)] 129, .cells #[.pointer (some ⟨kb, 0, none⟩)] 192, .cells #[.int .i64 t.h, .slice a t.args.length c] 25, .cells #[.int .i64 0, .int .i64 0] 190]) ?_ ?_
    · go_wp2
      first | done | exact ⟨rfl, rfl⟩ | exact ⟨trivial, rfl⟩ | exact ⟨trivial, trivial⟩
    rintro _ W ⟨rfl, hWa⟩
    have hB : Below w.heap.size w W := by rw [hWa]; exact allocs_below _ _
    have hz : W.heap.size = w.heap.size + 4 := by rw [hWa]; exact allocs_size _ _
    have b0 : W.heap[w.heap.size]? = some (.cells #[.pointer (some ⟨ss, 0, none⟩)] 129 (0, 0)) := by rw [hWa]; exact allocs_get _ _ 0 _ rfl
    have b1 : W.heap[w.heap.size + 1]? = some (.cells #[.pointer (some ⟨kb, 0, none⟩)] 192 (0, 0)) := by rw [hWa]; exact allocs_get _ _ 1 _ rfl
    have b2 : W.heap[w.heap.size + 1 + 1]? = some (.cells #[.int .i64 t.h, .slice a t.args.length c] 25 (0, 0)) := by rw [hWa]; exact allocs_get _ _ 2 _ rfl
    have b3 : W.heap[w.heap.size + 1 + 1 + 1]? = some (.cells #[.int .i64 0, .int .i64 0] 190 (0, 0)) := by rw [hWa]; exact allocs_get _ _ 3 _ rfl
    have HB0 := hide (HK0.out.boxed hB b0 (by omega))
    have HB1 := hide (HK0.out.boxed hB b1 (by omega))
    have HB3 := hide (HK0.out.boxed hB b3 (by omega))
    have HS := hide (KStep.of_below hB HK0.out.lt)
    have HK := hide (HK0.out.below hB)
    have HSO := hide (HSO0.out.below hB)
    have HT := hide (HT0.out.below hB)
    have HRB := hide (show w.heap.size ≤ w.heap.size + 1 + 1 + 1 by omega)
    obtain ⟨-, x0, -⟩ := box1 b0
    obtain ⟨-, x1, -⟩ := box1 b1
    obtain ⟨-, x2, x3, -, -⟩ := box2 b2
    obtain ⟨hrl, q0, q1, q2, q3⟩ := box2 b3
    have x4 := HSO.out.load
    have hw0 : w.heap.size < W.heap.size := by omega
    have hw1 : w.heap.size + 1 < W.heap.size := by omega
    have hw2 : w.heap.size + 1 + 1 < W.heap.size := by omega
    have HSZ := hide hz
    clear hWa hB b0 b1 b2 b3 HK0 HSO0 HT0 hz
    by_cases hneg : t.h < 0
    · have hx0 : 0 ≤ -1 - t.h := by omega
      have hx1 : -1 - t.h ≤ 255 := by omega
      have hap : app S t = S (-1 - t.h) := app_neg hneg
      obtain ⟨vl, is, hrun, -, his, hh, av, nv, cv, rfl, hTv⟩ := HSO.out.look hx0 hx1
      have HRUN := hide hrun
      have HIS := hide his
      have HTV := hide hTv
      have HAP := hide hap
      have HRK := hide (hr (-1 - t.h) ⟨hx0, by rw [show -1 - (-1 - t.h) = t.h by omega, Tm.heads_eq]; exact List.mem_cons_self⟩)
      clear hrun his hTv hap hr
      cases is
      · have HF : Hid (f (-1 - t.h) = none) := hide (by
          have := HIS.out
          cases hf : f (-1 - t.h) with
          | none => rfl
          | some u => rw [hf] at this; cases this)
        have HR := hide (show MeasPost kb ss f S t w (.returned (.agg #[.int .i64 1, .int .i64 1])) (((W.setCell ⟨w.heap.size + 1 + 1 + 1, 0, none⟩ (.int .i64 1)).setCell ⟨w.heap.size + 1 + 1 + 1, 1, none⟩ (.int .i64 1)).alloc (.cells #[.int .i64 hh, .slice av nv cv] 25)) by
          obtain ⟨k1, k2⟩ := HK.out.boxset HB3.out HS.out HRB.out (.int .i64 1) (.int .i64 1)
          have hal := (Below.refl ((W.setCell ⟨w.heap.size + 1 + 1 + 1, 0, none⟩ (.int .i64 1)).setCell ⟨w.heap.size + 1 + 1 + 1, 1, none⟩ (.int .i64 1)).heap.size ((W.setCell ⟨w.heap.size + 1 + 1 + 1, 0, none⟩ (.int .i64 1)).setCell ⟨w.heap.size + 1 + 1 + 1, 1, none⟩ (.int .i64 1))).alloc (Nat.le_refl _) (.cells #[.int .i64 hh, .slice av nv cv] 25)
          exact ⟨by rw [HAP.out, hS.free _ HF.out, (zm_var _).1, (zm_var _).2], F, k2.trans (KStep.of_below hal k1.lt), k1.below hal, HOK.out, fun _ ⟨u, hu⟩ => by rw [HF.out] at hu; cases hu⟩)
        have hbs := box2_set HB3.out.1 (.int .i64 1) (.int .i64 1)
        obtain ⟨-, r0, r1, -, -⟩ := box2 ((Below.heap_alloc _ (.cells #[.int .i64 hh, .slice av nv cv] 25) _ (Array.getElem?_eq_some_iff.1 hbs).1).trans hbs)
        clear hbs
        go_wp2_with (at_lookup; refine look_run_pl rfl (.tmp 24) (.tmp 25) 97 rfl rfl rfl HRUN.out ?_)
        exact bodyPost_ret (v := .agg #[.int .i64 1, .int .i64 1]) (by simp [results, Try.results155, go_sem, r0, r1]) rfl HR.out
      · obtain ⟨u, hu⟩ : ∃ u, f (-1 - t.h) = some u := by
          have := HIS.out
          cases hf : f (-1 - t.h) with
          | none => rw [hf] at this; cases this
          | some u => exact ⟨u, rfl⟩
        have hTu := HTV.out u hu
        obtain rfl := hTu.1
        obtain ⟨-, a9, c9, hsl, -, -⟩ := hTu.shape
        obtain ⟨rfl, rfl, rfl⟩ : av = a9 ∧ nv = u.args.length ∧ cv = c9 := by simpa using hsl
        clear hsl
        have hal := (Below.refl W.heap.size W).alloc (Nat.le_refl _) (.cells #[.int .i64 u.h, .slice av u.args.length cv] 25)
        have hub : (W.alloc (.cells #[.int .i64 u.h, .slice av u.args.length cv] 25)).heap[W.heap.size]? = some (.cells #[.int .i64 u.h, .slice av u.args.length cv] 25 (0, 0)) := World.alloc_heap_new _ _
        have hst := KStep.of_below hal HK.out.lt
        have HUB := hide (HK.out.boxed hal hub (Nat.le_refl _))
        have HK2 := hide (HK.out.below hal)
        have HSO2 := hide (HSO.out.below hal)
        have HS2 := hide (HS.out.trans hst)
        have HT2 := hide (hTu.below hal)
        have HB02 := hide (HB0.out.step hst)
        have HB12 := hide (HB1.out.step hst)
        have HB32 := hide (HB3.out.step hst)
        have HL : Hid (MeasC A sb ss f S kb u) := hide (ihn _ HRK.out u.size u (Nat.le_refl _) (hS.rng _ _ hu).2.2 fun y hy => rank_step hS hu hy)
        have HFX2 := hide (hS.fix _ _ hu)
        clear hal hub hst hTu hu
        go_wp2_with (at_lookup; refine look_run_pl rfl (.tmp 24) (.tmp 25) 97 rfl rfl rfl HRUN.out ?_)
        refine (ofA_calls kb ss (-1 - t.h) F (zm (S (-1 - t.h))) (dm (S (-1 - t.h))) (okMS S) _ _ _ _ hx0 hx1 hlt (fun y v hy => ⟨_, _, HOK.out y v hy⟩) HK2.out ?_).mono ?_
        · intro w1 hs1 hk1 hF1
          refine (meastell_calls A sb ss f S kb _ _ _ hlt u av cv F w1 (HSO2.out.kstep HK2.out hlt hs1) hk1 HOK.out (HB02.out.step hs1).1 (HB12.out.step hs1).1 (HUB.out.step hs1).1 (IsTm.kstep hsb HK2.out hlt hs1 HT2.out) HL.out).mono ?_
          rintro e w2 ⟨rfl, F2, g1, g2, g3, -⟩
          exact ⟨by rw [← HFX2.out], F2, g3, g1, g2⟩
        rintro e w3 ⟨F3, hs3, hk3, hor⟩
        have HE : Hid (e = .returned (.agg #[.int .i64 (zm (app S t)), .int .i64 (dm (app S t))]) ∧ okMS S F3 ∧ ∃ v, F3 (-1 - t.h) = some v) := by
          refine hide ?_
          rw [HAP.out]
          rcases hor with ⟨vv, h9, rfl, rfl⟩ | ⟨h9, rfl, F2, h10, rfl⟩
          · exact ⟨by rw [HOK.out _ _ h9], HOK.out, _, h9⟩
          · refine ⟨rfl, fun x u hx => ?_, _, if_pos rfl⟩
            dsimp only at hx
            by_cases e : x = -1 - t.h
            · rw [if_pos e, Option.some.injEq] at hx
              rw [← hx, e]
            · rw [if_neg e] at hx
              exact h10 x u hx
        obtain ⟨rfl, hok3, htd3⟩ := HE.out
        have HTD3 : Hid (toldM f t F3) := hide fun _ _ => htd3
        have HOK3 := hide hok3
        obtain ⟨k1, k2⟩ := hk3.boxset (HB32.out.step hs3) (HS2.out.trans hs3) HRB.out (.int .i64 (zm (app S t))) (.int .i64 (dm (app S t)))
        have K1 := hide k1
        have K2 := hide k2
        have hbx := (HB32.out.step hs3).1
        obtain ⟨-, p0, p1, p2, p3⟩ := box2 hbx
        obtain ⟨-, r0, r1, -, -⟩ := box2 (box2_set hbx (.int .i64 (zm (app S t))) (.int .i64 (dm (app S t))))
        clear HE hor hs3 hk3 hok3 htd3 k1 k2 hbx q0 q1 q2 q3
        generalize hzz : zm (app S t) = zz at *
        generalize hdd : dm (app S t) = dd at *
        have HZ := hide hzz
        have HD := hide hdd
        clear hzz hdd
        go_wp2
        exact bodyPost_ret (v := .agg #[.int .i64 zz, .int .i64 dd]) (by simp [results, Try.results155, go_sem, r0, r1]) rfl ⟨by rw [HZ.out, HD.out], F3, K2.out, K1.out, HOK3.out, HTD3.out⟩
    · have hL : ∀ c, c ∈ t.args → MeasC A sb ss f S kb c := fun c hcm => by
        have hsz := t.size_eq
        obtain ⟨i, hi, rfl⟩ := List.getElem_of_mem hcm
        have := Tm.size_get t.args i hi
        exact ih _ (by omega) (hgo.2.2 i hi) fun u hu => hr u ((occ_args hneg).2 ⟨_, hcm, hu⟩)
      have HL := hide hL
      have HZE := hide (zk_end (S := S) hneg)
      have HDE := hide (dk_end (S := S) hneg)
      have hal := (Below.refl W.heap.size W).alloc (Nat.le_refl _) (.cells #[.int .i64 1, .int .i64 0] 190)
      have hob : (W.alloc (.cells #[.int .i64 1, .int .i64 0] 190)).heap[W.heap.size]? = some (.cells #[.int .i64 1, .int .i64 0] 190 (0, 0)) := World.alloc_heap_new _ _
      have hst := KStep.of_below hal HK.out.lt
      have HOB := hide (HK.out.boxed hal hob (Nat.le_refl _))
      have HST := hide hst
      have HKI := hide (HK.out.below hal)
      clear hL hr hob hal hst q0 q1 q2 q3
      go_wp2
      generalize (W.alloc (.cells #[.int .i64 1, .int .i64 0] 190)) = W1 at *
      generalize hbo : W.heap.size = bo at *
      have HBO := hide (Nat.le_of_eq hbo)
      clear hbo
      go_loopw [40] (fun i wr => ∃ (k : Nat) (F' : Int → Option Value), k ≤ t.args.length ∧ i = .int .i64 k ∧ Hid (Boxed kb wr bo (.cells #[.int .i64 (zk S (t.args.take k)), .int .i64 (dk S (t.args.take k))] 190 (0, 0))) ∧ Hid (KStep kb W wr) ∧ Hid (KnAt 189 wr kb ss F') ∧ Hid (okMS S F')) (fun i _ => t.args.length - (intOf i).toNat)
      case atStart => exact ⟨0, F, by omega, rfl, hide (by have := HOB.out; rw [List.take_zero, show zk S [] = 1 by simp [zk, dk, appL, Tm.sizes, Tm.depths] <;> omega, show dk S [] = 0 by simp [zk, dk, appL, Tm.sizes, Tm.depths] <;> omega]; exact this), HST, HKI, HOK⟩
      case round =>
        obtain ⟨k, F', hk, rfl, hbx, hst, hkn, hok⟩ := hrel
        have HB02 := hide (HB0.out.step hst.out)
        have HB12 := hide (HB1.out.step hst.out)
        have HB32 := hide (HB3.out.step hst.out)
        obtain ⟨hv0, x0', -⟩ := box1 HB02.out.1
        obtain ⟨hv1, x1', -⟩ := box1 HB12.out.1
        by_cases hlk : k < t.args.length
        · obtain ⟨b, off, a', c', rfl, hbs, hbA, l0, l1, g2⟩ := (IsTm.kstep hsb HK.out hlt hst.out HT.out).2.get k hlk
          have HSO3 := hide (HSO.out.kstep HK.out hlt hst.out)
          have HMC := hide (HL.out t.args[k] (List.getElem_mem hlk))
          have hal := (Below.refl wr.heap.size wr).alloc (Nat.le_refl _) (.cells #[.int .i64 t.args[k].h, .slice a' t.args[k].args.length c'] 25)
          have HAL := hide hal
          have hmc := HMC.out (wr.alloc (.cells #[.int .i64 t.args[k].h, .slice a' t.args[k].args.length c'] 25)) F' _ _ (HSO3.out.below hal) (hkn.out.below hal) hok.out (IsTm.below (A := OldA sb A) (⟨rfl, g2⟩ : IsTm (OldA sb A) wr _ _ _) hal)
          have HZS := hide (zk_step S t.args k hlk)
          have HDS := hide (dk_step S t.args k hlk)
          have hr1 := zk_range S (t.args.take k)
          have hr2 := dk_range S (t.args.take k)
          have hr3 := zm_range (app S t.args[k])
          have hr4 := dm_range (app S t.args[k])
          clear hal g2 x0 x1 x2 x3 x4
          go_wp2_with fail
          refine hmc.mono ?_
          rintro e w4 ⟨rfl, F4, s4, k4, o4, -⟩
          have HBX4 := hide (((hbx.out.step (KStep.of_below HAL.out hkn.out.lt)).step s4))
          have HST4 := hide ((hst.out.trans (KStep.of_below HAL.out hkn.out.lt)).trans s4)
          have HK4 := hide k4
          have HO4 := hide o4
          generalize zm (app S t.args[k]) = zc at *
          generalize dm (app S t.args[k]) = dc at *
          generalize zk S (t.args.take k) = z at *
          generalize dk S (t.args.take k) = d at *
          clear hmc s4 k4 o4 l0 l1 hbx hst hkn hok x0' x1'
          go_wp2
          have hal := (Below.refl w4.heap.size w4).alloc (Nat.le_refl _) (.cells #[.int .i64 zc, .int .i64 dc] 190)
          have hn3 : (w4.alloc (.cells #[.int .i64 zc, .int .i64 dc] 190)).heap[w4.heap.size]? = some (.cells #[.int .i64 zc, .int .i64 dc] 190 (0, 0)) := World.alloc_heap_new _ _
          have hs5 := KStep.of_below hal HK4.out.lt
          have HBX5 := hide (HBX4.out.step hs5)
          have HST5 := hide (HST4.out.trans hs5)
          have HK5 := hide (HK4.out.below hal)
          have hbne : bo ≠ w4.heap.size := by have := (Array.getElem?_eq_some_iff.1 HBX4.out.1).1; omega
          generalize (w4.alloc (.cells #[.int .i64 zc, .int .i64 dc] 190)) = W5 at *
          generalize w4.heap.size = b3 at *
          clear hal hs5 HBX4 HST4 HK4
          obtain ⟨-, m0, m1, -, -⟩ := box2 hn3
          obtain ⟨-, o0, o1, o2, o3⟩ := box2 HBX5.out.1
          have hwr : IntKind.i64.wrap (z + zc) = z + zc := IntWalk.i64_in _ (by omega)
          have CL : ∀ W' : World, W'.heap[b3]? = some (.cells #[.int .i64 zc, .int .i64 dc] 190 (0, 0)) → W'.cell? ⟨b3, 0, none⟩ = some (.int .i64 zc) ∧ W'.cell? ⟨b3, 1, none⟩ = some (.int .i64 dc) := fun W' e => by
            obtain ⟨-, h1, h2, -, -⟩ := box2 e
            exact ⟨h1, h2⟩
          refine drawn_until (fun W' => W'.cell? ⟨b3, 0, none⟩ = some (.int .i64 zc) ∧ W'.cell? ⟨b3, 1, none⟩ = some (.int .i64 dc)) (fun W' => W'.cell? ⟨bo, 0, none⟩ = some (.int .i64 z) ∧ W'.cell? ⟨bo, 1, none⟩ = some (.int .i64 d)) 12
            [(0, 0), (1, 1), (2, 0), (3, 0), (4, 0), (5, 0), (6, 0), (7, 1), (8, 0), (9, 0), (10, 0), (11, 0), (12, 3), (13, 0), (14, 3)] (by kernel_rfl) (by kernel_rfl) (by kernel_rfl) (by kernel_rfl) (fun _ _ _ _ _ h => h) ⟨m0, m1⟩ ⟨o0, o1⟩ ?_
          iterate 1 (refine v_take (v := ?_) rfl (by rfl) ?_ ?_; rotate_left; (intro w hS; obtain ⟨hS1, hS2⟩ := hS; go_simp; try with_reducible rfl); simp only [Act.put, List.setIfInBounds_toArray, List.set_cons_zero, List.set_cons_succ])
          iterate 1 (refine v_takeD (v := ?_) rfl (by rfl) ?_ ?_; rotate_left; (intro w hS; obtain ⟨-, hS1, hS2⟩ := hS; go_simp; try with_reducible rfl); simp only [Act.put, List.setIfInBounds_toArray, List.set_cons_zero, List.set_cons_succ])
          iterate 5 (refine v_take (v := ?_) rfl (by rfl) ?_ ?_; rotate_left; (intro w hS; obtain ⟨hS1, hS2⟩ := hS; go_simp; try with_reducible rfl); simp only [Act.put, List.setIfInBounds_toArray, List.set_cons_zero, List.set_cons_succ])
          iterate 1 (refine v_takeD (v := ?_) rfl (by rfl) ?_ ?_; rotate_left; (intro w hS; obtain ⟨-, hS1, hS2⟩ := hS; go_simp; try with_reducible rfl); simp only [Act.put, List.setIfInBounds_toArray, List.set_cons_zero, List.set_cons_succ])
          iterate 4 (refine v_take (v := ?_) rfl (by rfl) ?_ ?_; rotate_left; (intro w hS; obtain ⟨hS1, hS2⟩ := hS; go_simp; try with_reducible rfl); simp only [Act.put, List.setIfInBounds_toArray, List.set_cons_zero, List.set_cons_succ])
          refine v_do3 rfl (by rfl) ?_
          intro K hK
          go_simp
          have hn4 : (W5.setCell ⟨bo, 0, none⟩ (.int .i64 (min (z + zc) 401))).heap[b3]? = some (.cells #[.int .i64 zc, .int .i64 dc] 190 (0, 0)) := (Below.heap_setCell _ _ _ _ (by show b3 ≠ bo; exact fun e => hbne e.symm)).trans hn3
          refine hK.out _ _ (CL _ hn4) ?_
          clear hK K
          iterate 1 (refine v_take (v := ?_) rfl (by rfl) ?_ ?_; rotate_left; (intro w hS; obtain ⟨hS1, hS2⟩ := hS; go_simp; try with_reducible rfl); simp only [Act.put, List.setIfInBounds_toArray, List.set_cons_zero, List.set_cons_succ])
          have p1 : (W5.setCell ⟨bo, 0, none⟩ (.int .i64 (min (z + zc) 401))).heap[bo]? = some (.cells #[.int .i64 (min (z + zc) 401), .int .i64 d] 190 (0, 0)) := by
            have := HBX5.out.1
            simp [World.setCell, Array.getElem?_modify, this]
          obtain ⟨-, s0, s1, s2, s3⟩ := box2 p1
          refine v_do3 rfl (by rfl) ?_
          intro K hK
          go_simp
          refine hK.out _ _ (CL _ ((Below.heap_setCell _ _ _ _ (by show b3 ≠ bo; exact fun e => hbne e.symm)).trans hn4)) ?_
          clear hK K CL
          refine v_done ?_
          obtain ⟨g1, g2⟩ := HK5.out.boxset HBX5.out HST5.out HBO.out (.int .i64 (min (z + zc) 401)) (.int .i64 (max d dc))
          have g3 := HBX5.out.set (.int .i64 (min (z + zc) 401)) (.int .i64 (max d dc))
          have g4 := (Below.refl ((W5.setCell ⟨bo, 0, none⟩ (.int .i64 (min (z + zc) 401))).setCell ⟨bo, 1, none⟩ (.int .i64 (max d dc))).heap.size ((W5.setCell ⟨bo, 0, none⟩ (.int .i64 (min (z + zc) 401))).setCell ⟨bo, 1, none⟩ (.int .i64 (max d dc)))).drew
          have HG1 := hide (g1.below g4)
          have HG2 := hide (g2.trans (KStep.of_below g4 g1.lt))
          have HG3 := hide (show Boxed kb ((W5.setCell ⟨bo, 0, none⟩ (.int .i64 (min (z + zc) 401))).setCell ⟨bo, 1, none⟩ (.int .i64 (max d dc))).drew bo (.cells #[.int .i64 (zk S (t.args.take (k + 1))), .int .i64 (dk S (t.args.take (k + 1)))] 190 (0, 0)) by rw [← HZS.out, ← HDS.out]; exact g3.step (KStep.of_below g4 g1.lt))
          clear g4
          clear g1 g2 g3 s0 s1 s2 s3 p1 hn3 hn4 m0 m1 o0 o1 o2 o3
          go_wp2
          go_roundw
          case rel => exact ⟨k + 1, F4, by omega, by go_num, HG3, HG2, HG1, HO4⟩
          case measure => simp [intOf]; omega
        · obtain rfl : k = t.args.length := by omega
          have HBX := hide (show Boxed kb wr bo (.cells #[.int .i64 (zk S t.args), .int .i64 (dk S t.args)] 190 (0, 0)) by have := hbx.out; rwa [List.take_length] at this)
          have hr2 := dk_range S t.args
          have hwr : IntKind.i64.wrap (dk S t.args + 1) = dk S t.args + 1 := IntWalk.i64_in _ (by omega)
          have hne : w.heap.size + 1 + 1 + 1 ≠ bo := by omega
          obtain ⟨g1, g2, g3, g4⟩ := hkn.out.boxset1 HBX.out hst.out HBO.out (.int .i64 (min (dk S t.args + 1) 41))
          have hb6 := g3 _ _ hne HB32.out
          obtain ⟨k1, k2⟩ := g1.boxset hb6 (HS.out.trans g2) HRB.out (.int .i64 (zk S t.args)) (.int .i64 (min (dk S t.args + 1) 41))
          have K1 := hide k1
          have K2 := hide k2
          have K3 := hok
          obtain ⟨-, o0, o1, o2, o3⟩ := box2 HBX.out.1
          obtain ⟨-, p0, p1, -, -⟩ := box2 g4
          obtain ⟨-, q0, q1, q2, q3⟩ := box2 hb6.1
          obtain ⟨-, r0, r1, -, -⟩ := box2 (box2_set hb6.1 (.int .i64 (zk S t.args)) (.int .i64 (min (dk S t.args + 1) 41)))
          have HE := hide (show MeasPost kb ss f S t w (.returned (.agg #[.int .i64 (zk S t.args), .int .i64 (min (dk S t.args + 1) 41)])) (((wr.setCell ⟨bo, 1, none⟩ (.int .i64 (min (dk S t.args + 1) 41))).setCell ⟨w.heap.size + 1 + 1 + 1, 0, none⟩ (.int .i64 (zk S t.args))).setCell ⟨w.heap.size + 1 + 1 + 1, 1, none⟩ (.int .i64 (min (dk S t.args + 1) 41))) from ⟨by rw [HZE.out, HDE.out], F', K2.out, K1.out, K3.out, fun h => absurd h (by omega)⟩)
          clear g1 g2 g3 g4 hb6 k1 k2 hbx hst hkn hok x0 x1 x2 x3 x4 x0' x1'
          generalize zk S t.args = z at *
          generalize dk S t.args = d at *
          go_wp2
          exact bodyPost_ret (v := .agg #[.int .i64 z, .int .i64 (min (d + 1) 41)]) (by simp [results, Try.results155, go_sem, r0, r1]) rfl HE.out
end Go.Proofs.Ythplndalbfcbbaa
