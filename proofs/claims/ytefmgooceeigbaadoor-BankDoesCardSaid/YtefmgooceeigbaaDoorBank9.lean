/- (*bank.Bank).Find, walked. -/
import Derived.Test.YtefmgooceeigbaaDoorBank5
set_option linter.unusedSimpArgs false
set_option linter.unusedVariables false
namespace Go.Proofs.YtefmgooceeigbaaDoor
open Go.RowKit

theorem findL_at {R : List Rw} {l : List Tm} {j : Nat} {ns : List Nat} (h : j < l.length) (hp : findL R (l.take j) = some ns) :
    (∀ n, findT R l[j] = some n → findL R (l.take (j + 1)) = some (ns ++ [n])) ∧ (findT R l[j] = none → findL R l = none) := by
  have h1 := findL_snoc (l.take j) R l[j]
  rw [← List.take_succ_eq_append_getElem h, hp] at h1
  simp only at h1
  refine ⟨fun n h2 => by rw [h1, h2], fun h2 => ?_⟩
  rw [h2] at h1
  have := findL_stop _ (l.drop (j + 1)) R h1
  rwa [List.take_append_drop] at this
theorem findT_eq (R : List Rw) (t : Tm) : findT R t = match findL R t.args with
    | none => none
    | some ns => idx R (t.h, ns) := by
  cases t with
  | node h l => rw [findT]; rfl
def FindInv (w : World) (R : List Rw) (t : Tm) (wr : World) (j : Nat) : Prop :=
  ∃ ns av, findL R (t.args.take j) = some ns ∧ Below w.heap.size w wr ∧ wr.heap[w.heap.size + 1]? = some (.cells #[.int .i64 t.h, av] 64 (0, 0)) ∧ wr.ownsRow (w.heap.size + 2) 3 1 av ns.length ((zs ns).map (Value.int .i64)) ∧ ns.length = j ∧ w.heap.size + 2 ≤ wr.heap.size

set_option maxHeartbeats 8000000 in
set_option maxRecDepth 100000 in
theorem bfind_calls (xb mb base : Nat) (n0 : Nat) : ∀ (A B : Nat → Prop) (t : Tm) (R : List Rw) (rv : Value) (f : Value → Option Value) (h : Int) (s : Value) (w : World), t.size ≤ n0 → t.size ≤ 1000000 → HOk t → tabB base w → BankAt w A xb mb R rv f base → IsTm B w h s t →
    Calls Tryd.prog 18 #[.pointer (some ⟨xb, 0, none⟩), .agg #[.int .i64 h, s]] w fun e w' => e = .returned (.tuple #[.int .i64 (numV (findT R t)), .bool (findT R t).isSome]) ∧ Below w.heap.size w w' := by
  induction n0 with
  | zero => intro _ _ t _ _ _ _ _ _ ht; have := t.size_eq; omega
  | succ n0 ih =>
    rintro A B t R rv f h s w ht hm hk htb hx hs
    obtain ⟨rfl, a, c, rfl, hlc, hc⟩ := hs.shape
    have HSZ := hide t.size_eq
    have HBA := hide (show base ≤ w.heap.size by have := hx.lt xb (.inl rfl); omega)
    have hb : Below w.heap.size w ((w.alloc (.cells #[.int .i64 t.h, .slice a t.args.length c] 26)).alloc (.cells #[.int .i64 t.h, .slice none 0 0] 64)) := ((Below.refl _ _).alloc (Nat.le_refl _) _).alloc (by simp) _
    have kb : ((w.alloc (.cells #[.int .i64 t.h, .slice a t.args.length c] 26)).alloc (.cells #[.int .i64 t.h, .slice none 0 0] 64)).heap[w.heap.size + 1]? = some (.cells #[.int .i64 t.h, .slice none 0 0] 64 (0, 0)) := by
      have := World.alloc_heap_new (w.alloc (.cells #[.int .i64 t.h, .slice a t.args.length c] 26)) (.cells #[.int .i64 t.h, .slice none 0 0] 64)
      rwa [World.size_alloc] at this
    have HI := hide (show FindInv w R t ((w.alloc (.cells #[.int .i64 t.h, .slice a t.args.length c] 26)).alloc (.cells #[.int .i64 t.h, .slice none 0 0] 64)) 0 from
      ⟨[], .slice none 0 0, by simp [findL], hb, kb, World.ownsRow_nil _ _ _ _, rfl, by simp⟩)
    have HX := hide hx
    have HS := hide hs.2
    have HTB := hide htb
    have HK := hide hk
    have HM := hide hm
    have HPE := hide (findT_eq R t)
    clear hb kb hx htb hk hs hm
    go_enter Tryd.func18, Tryd.ntmps18
    go_wp2
    generalize (w.alloc (.cells #[.int .i64 t.h, .slice a t.args.length c] 26)).alloc (.cells #[.int .i64 t.h, .slice none 0 0] 64) = W at *
    go_loopw [19] (fun i wr => ∃ j : Nat, j ≤ t.args.length ∧ i = .int .i64 j ∧ Hid (FindInv w R t wr j)) (fun i _ => t.args.length - (intOf i).toNat)
    case atStart => exact ⟨0, by omega, rfl, HI⟩
    case round =>
      obtain ⟨j, hj, rfl, hinv⟩ := hrel
      obtain ⟨ns, av, hp, hbw, hbx, hown, hnl, hsz⟩ := hinv.out
      have HTW := hide (HTB.out.on (hbw.mono HBA.out))
      by_cases hlt : j < t.args.length
      · obtain ⟨b, off, a', c', rfl, g0, g1, gt⟩ := HS.out.getW hbw j hlt
        have hk2' := Tm.size_get t.args j hlt
        have hn : t.args[j].size ≤ n0 := by have := HSZ.out; omega
        have hmj : t.args[j].size ≤ 1000000 := by have := HSZ.out; have := HM.out; omega
        have hkj := HK.out.args.get j hlt
        have HPA := hide (findL_at hlt hp)
        have hal : Below wr.heap.size wr (wr.alloc (.cells #[.int .i64 t.args[j].h, .slice a' t.args[j].args.length c'] 26)) := (Below.refl _ _).alloc (Nat.le_refl _) _
        have HB1 := hide (hal.block _ (Array.getElem?_eq_some_iff.1 hbx).1 |>.trans hbx)
        have HO1 := hide (ownsRow_keep hown (Keep.of_below (S := fun _ => True) hal) fun _ _ => trivial)
        have HW1 := hide (more_below hbw hal)
        have HG1 := hide (show IsTm B (wr.alloc (.cells #[.int .i64 t.args[j].h, .slice a' t.args[j].args.length c'] 26)) t.args[j].h (.slice a' t.args[j].args.length c') t.args[j] from gt.below hal)
        have HNL := hide hnl
        have HSW := hide (Nat.le_trans hsz hal.size)
        clear hinv hp hbw hbx hown hnl hsz hal gt hk2'
        go_wp2_with fail
        generalize wr.alloc (.cells #[.int .i64 t.args[j].h, .slice a' t.args[j].args.length c'] 26) = W2 at *
        refine (ih A B t.args[j] R rv f _ _ W2 hn hmj hkj (HTB.out.on (HW1.out.mono HBA.out)) (HX.out.below HW1.out) HG1.out).mono ?_
        rintro e w4 ⟨rfl, b4⟩
        have HW4 := hide (more_below HW1.out b4)
        have HB4 := hide ((b4.block _ (Array.getElem?_eq_some_iff.1 HB1.out).1).trans HB1.out)
        have HO4 := hide (ownsRow_keep HO1.out (Keep.of_below (S := fun _ => True) b4) fun _ _ => trivial)
        have HS4 := hide (Nat.le_trans HSW.out b4.size)
        clear b4 HG1 HB1 HO1 HSW HW1 ih
        obtain ⟨-, z0, z1, z2, z3⟩ := box2 HB4.out
        cases hft : findT R t.args[j] with
        | none =>
          simp only [numV, Option.getD_none, Option.isSome_none, Int.natCast_zero]
          have HP := hide (HPA.out.2 hft)
          clear hft HPA
          go_wp2
          go_ret2
          rw [HPE.out, HP.out]
          exact ⟨rfl, HW4.out⟩
        | some n =>
          simp only [numV, Option.getD_some, Option.isSome_some]
          have HP := hide (HPA.out.1 n hft)
          clear hft HPA
          have HNB := hide (show (ns.length + 1) * 8 ≤ 140737488355328 by have := HNL.out; have := HSZ.out; have := HM.out; have := Tm.sizes_length t.args; omega)
          go_wp2_with (at_builtin; refine app_pl rfl _ _ 48 rfl (w.heap.size + 2) 3 (.int .i64 0) 1 8 Tryd.underlying48 (by kernel_rfl) rfl (by decide) (by decide) av ns.length _ rfl HO4.out 1 1 _ rfl (by simp [Value.oneCell']) rfl HNB.out HS4.out ?_; intro v' w9 r1 r2 r3 r4; obtain ⟨va, vc, rfl⟩ := r4; have HB9 := hide (r2.obj (fun h => by have := (HO4.out.lt _ h).1; omega) HB4.out); obtain ⟨-, p0, p1, p2, p3⟩ := box2 HB9.out)
          generalize hvv : Value.slice va (ns.length + 1) vc = vv at *
          have hset : Keep (fun b => b ≠ w.heap.size + 1) w9 (w9.setCell ⟨w.heap.size + 1, 1, none⟩ vv) := (Keep.refl _ _).setCell (p := ⟨w.heap.size + 1, 1, none⟩) (by simp) vv
          have s9 : w9.heap.size = (w9.setCell ⟨w.heap.size + 1, 1, none⟩ vv).heap.size := (size_set _ _ _).symm
          have s49 := r2.size
          have HOW := HO4.out.lt
          have HI2 := hide (show FindInv w R t (w9.setCell ⟨w.heap.size + 1, 1, none⟩ vv) (j + 1) from by
            refine ⟨ns ++ [n], vv, HP.out, (HW4.out.trans (r2.below (fun b hb h => by have := (HOW b h).1; omega) HW4.out.size)).setCell (p := ⟨w.heap.size + 1, 1, none⟩) (Nat.le_succ _) vv, box2_set1 HB9.out vv, ?_, by simp [HNL.out], by have := HS4.out; omega⟩
            have r1' := ownsRow_keep r1 hset fun b hb => by have := (r1.lt b hb).1; omega
            simpa [zs] using r1')
          clear hset HOW r1 r2 r3 HW4 HB4 HO4 HS4 HB9 s9 s49 z0 z1 z2 z3 p0 p1 p2 p3 hvv
          go_roundw
          case rel => exact ⟨j + 1, by omega, by go_num, HI2⟩
          case measure => simp [intOf]; omega
      · obtain rfl : j = t.args.length := by omega
        rw [List.take_length] at hp
        have HP := hide hp
        have hat : AreAt R t.args ns := (findL_iff HX.out.g t.args ns).1 hp
        have HAT := hide (AreAt.ltAll _ _ hat)
        have HRK := hide (show RwOk (t.h, ns) from by
          have h1 := HK.out.head
          have h2 := HSZ.out
          have h3 := HM.out
          have h4 := Tm.sizes_length t.args
          exact ⟨h1.1, h1.2, by simp only; omega, fun n hn => by have := HAT.out n hn; have := HX.out.fit; omega⟩)
        have HIN := hide (show Ints (fun _ => False) wr av (zs ns) from Ints.of_own (by rw [zs_length]; exact hown) fun b hb h => h)
        have HX1 := hide (HX.out.below hbw)
        have HW1 := hide hbw
        have HBX := hide hbx
        obtain ⟨-, z0, z1, -, -⟩ := box2 hbx
        clear hinv hp hbw hbx hown hnl hsz ih hat
        go_wp2
        refine drawn_tree (fun W => W.cell? ⟨w.heap.size + 1, 0, none⟩ = some (.int .i64 t.h) ∧ W.cell? ⟨w.heap.size + 1, 1, none⟩ = some av) (.take 0 (.take 1 (.take 2 (.take 3 (.one 4 (.take 5 (.take 6 (.take 7 (.take 8 .done))))))))) (by kernel_rfl) (by kernel_rfl) (by kernel_rfl) (by kernel_rfl) (fun _ _ _ _ _ h => h) ?_ ?_
        · exact ⟨z0, z1⟩
        have g0 := (Below.refl wr.heap.size wr).drew
        have HX2 := hide (HX1.out.below g0)
        have HIN2 := hide (HIN.out.below g0)
        have HW2 := hide (more_below HW1.out g0)
        have HB2 := hide ((g0.block _ (Array.getElem?_eq_some_iff.1 HBX.out).1).trans HBX.out)
        have HT2 := hide (HTW.out.on (g0.mono (Nat.le_trans HBA.out HW1.out.size)))
        clear g0 HX1 HIN HBX HTW HW1 z0 z1
        generalize wr.drew = W0 at *
        iterate 4 (refine t_take (v := ?_) rfl (by rfl) ?_ ?_; rotate_left; (intro w hS; obtain ⟨hS1, hS2⟩ := hS; go_simp; try with_reducible rfl); simp only [Act.put, List.setIfInBounds_toArray, List.set_cons_zero, List.set_cons_succ])
        refine t_one rfl (by rfl) ?_
        intro K hK
        go_simp
        refine (tfind_calls A xb mb R rv f base (t.h, ns) _ av W0 HRK.out HT2.out HX2.out HIN2.out).mono ?_
        rintro e wa ⟨rfl, ba⟩
        have HW3 := hide (more_below HW2.out ba)
        have HB3 := hide ((ba.block _ (Array.getElem?_eq_some_iff.1 HB2.out).1).trans HB2.out)
        obtain ⟨-, z0, z1, -, -⟩ := box2 HB3.out
        refine hK.out _ _ ⟨z0, z1⟩ ?_
        clear hK K ba HX2 HIN2 HW2 HB2 HT2
        have hpe := HPE.out
        rw [HP.out] at hpe
        simp only at hpe
        have HPT := hide hpe
        clear hpe
        iterate 4 (refine t_take (v := ?_) rfl (by rfl) ?_ ?_; rotate_left; (intro w hS; obtain ⟨hS1, hS2⟩ := hS; go_simp; try with_reducible rfl); simp only [Act.put, List.setIfInBounds_toArray, List.set_cons_zero, List.set_cons_succ])
        refine t_done ?_
        go_wp2
        go_ret2
        rw [HPT.out]
        exact ⟨rfl, HW3.out⟩
end Go.Proofs.YtefmgooceeigbaaDoor
