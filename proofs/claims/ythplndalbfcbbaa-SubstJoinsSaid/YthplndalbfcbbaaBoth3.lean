/- The document's answer for Then: Both, Then. -/
import Derived.Test.YthplndalbfcbbaaThenWalk
import Derived.Test.YthplndalbfcbbaaThen
set_option linter.unusedSimpArgs false
set_option linter.unusedVariables false
namespace Go.Proofs.Ythplndalbfcbbaa
open Go.RowKit

theorem bothL_upto (s u : List Bd) (k : Nat) : bothL s u (upto (k + 1)) = bothL s u (upto k) ++ if movesB s u k = true then [⟨(k : Int), bothT s u k⟩] else [] := by
  rw [upto_succ, bothL, List.filter_append, List.map_append, ← bothL]
  congr 1
  by_cases hm : movesB s u k = true
  · rw [if_pos hm]; simp [hm]
  · rw [if_neg hm]; simp [hm]
theorem upto_length (k : Nat) : (upto k).length = k := by simp [upto]

set_option maxHeartbeats 8000000 in
set_option maxRecDepth 100000 in
theorem both3_calls (ss us : List Bd) (m : Nat) (sb ub : Value) (w : World) (hs : rightBs ss = true) (hu : rightBs us = true) (hm : 1 ≤ m) (hm2 : m * m ≤ 1000000000)
    (hb1 : ∀ b, b ∈ ss → b.t.size ≤ m) (hb2 : ∀ b, b ∈ us → b.t.size ≤ m) (hsb : Binds (fun _ => False) w sb ss) (hub : Binds (fun _ => False) w ub us) :
    Calls Try.prog 106 #[sb, ub] w fun e w' => ∃ v, e = .returned v ∧ Binds (fun _ => False) w' v (bothL ss us (upto 256)) ∧ Below w.heap.size w w' := by
  obtain ⟨a1, d1, rfl, hc1, hc1'⟩ := hsb.shape
  obtain ⟨a2, d2, rfl, hc2, hc2'⟩ := hub.shape
  have HRS := hide hs
  have HRU := hide hu
  have HC1 := hide hb1
  have HC2 := hide hb2
  clear hs hu hb1 hb2
  go_enter Try.func106, Try.ntmps106
  go_wp2
  go_loopw [5, 6] (fun v i wr => ∃ k : Nat, k ≤ 256 ∧ i = .int .i64 k ∧ Below w.heap.size w wr ∧ OwnD (fun _ => False) wr w.heap.size 60 3 v ((bothL ss us (upto k)).map Bd.d)) (fun _ i _ => 256 - (intOf i).toNat)
  case atStart => exact ⟨0, by omega, rfl, Below.refl _ _, by simpa [bothL, upto] using OwnD.nil _ _ _ _ _⟩
  case round =>
    obtain ⟨k, hk, rfl, hB, hO⟩ := hrel
    by_cases hlt : k < 256
    · have hle : (k : Int) ≤ 255 := by omega
      have hk0 : (0 : Int) ≤ k := by omega
      have hw1 : IntKind.i64.wrap (-1 - (k : Int)) = -1 - k := IntWalk.i64_in _ (by omega)
      have HO := hide hO
      have HBS := hide (bothL_upto ss us k)
      have HMV := hide (show movesB ss us k = ((bothT ss us k).h != -1 - (k : Int)) from rfl)
      have HXG := hide (ofBs_good HRS.out hk0 hle)
      have HXS := hide (ofBs_size (k : Int) hm ss HC1.out)
      have HBT := hide (show bothT ss us k = putT us (ofBs k ss) from rfl)
      have hol := HO.out.lt
      have hssA : Binds (fun b => u5.ownBlock = some b) wr (.slice a1 ss.length d1) ss := RepD.frame (fun b _ hlt => hB.block b hlt) (fun b hb h => by have := (hol b h).1; omega) _ _ hsb
      have huuA : Binds (fun b => u5.ownBlock = some b) wr (.slice a2 us.length d2) us := RepD.frame (fun b _ hlt => hB.block b hlt) (fun b hb h => by have := (hol b h).1; omega) _ _ hub
      clear hO
      go_wp2_with fail
      refine (of3_calls ss k (fun b => u5.ownBlock = some b) _ wr hk0 (by omega) hssA).mono ?_
      rintro e w9 ⟨s9, rfl, t9, h9⟩
      generalize hx : ofBs (k : Int) ss = x at *
      have HX := hide hx
      clear hx
      obtain ⟨a9, c9, rfl, -, -⟩ := t9.shape
      have B9 := hB.trans (h9.mono hB.size)
      go_wp2_with fail
      have hp := put_calls us _ x (fun b => u5.ownBlock = some b) x.h (.slice a9 x.args.length c9) (.slice a2 us.length d2) w9 (Nat.le_refl _) (fun b h => Nat.lt_of_lt_of_le (hol b h).2 h9.size) HXG.out (huuA.below h9) ⟨rfl, t9⟩
      refine hp.mono ?_
      rintro e w10 ⟨s10, rfl, t10, h10⟩
      clear hp
      have hys : (putT us x).size ≤ 1000000000 := Nat.le_trans (putT_size us hm HC2.out x) (Nat.le_trans (Nat.mul_le_mul_right m HXS.out) hm2)
      rw [← HBT.out] at hys t10
      rw [← HBT.out]
      generalize hy : bothT ss us (k : Int) = y at *
      have HY := hide hy
      clear hy HBT
      obtain ⟨a10, c10, rfl, -, -⟩ := t10.shape
      have B10 := B9.trans (h10.mono B9.size)
      have O10 := (HO.out.below h9).below h10
      clear h9 h10 t9 hB HO B9 hssA huuA
      have kV : (w10.alloc (.cells #[.int .i64 y.h, .slice a10 y.args.length c10] 25)).heap[w10.heap.size]? = some (.cells #[.int .i64 y.h, .slice a10 y.args.length c10] 25 (0, 0)) := World.alloc_heap_new _ _
      have hal : Below w10.heap.size w10 (w10.alloc (.cells #[.int .i64 y.h, .slice a10 y.args.length c10] 25)) := (Below.refl _ _).alloc (Nat.le_refl _) _
      have hsz10 := B10.size
      by_cases hmv : y.h = -1 - (k : Int)
      · have HNM := hide (show bothL ss us (upto (k + 1)) = bothL ss us (upto k) by rw [HBS.out, if_neg (by rw [HMV.out]; simpa using hmv), List.append_nil])
        have l1 : y.h ≤ -1 - (k : Int) := by omega
        have l2 : -1 - (k : Int) ≤ y.h := by omega
        have O12 := O10.below hal
        have B12 := B10.trans (hal.mono hsz10)
        have hd : (y.h != -1 - (k : Int)) = false := by simpa using hmv
        clear hmv HBS HMV
        obtain ⟨-, z0, z1, -, -⟩ := box2 kV
        go_wp2
        go_roundw
        case rel => exact ⟨k + 1, by omega, by go_num, B12, by rw [HNM.out]; exact O12⟩
        case measure => simp [intOf]; omega
      · have HNM := hide (show bothL ss us (upto (k + 1)) = bothL ss us (upto k) ++ [⟨(k : Int), y⟩] by rw [HBS.out, if_pos (by rw [HMV.out]; simpa using hmv)])
        have hal2 : Below w10.heap.size w10 ((w10.alloc (.cells #[.int .i64 y.h, .slice a10 y.args.length c10] 25)).alloc (.cells #[.int .i64 (k : Int), .int .i64 y.h, .slice a10 y.args.length c10] 60)) := hal.alloc hal.size _
        have kb : ((w10.alloc (.cells #[.int .i64 y.h, .slice a10 y.args.length c10] 25)).alloc (.cells #[.int .i64 (k : Int), .int .i64 y.h, .slice a10 y.args.length c10] 60)).heap[w10.heap.size + 1]? = some (.cells #[.int .i64 (k : Int), .int .i64 y.h, .slice a10 y.args.length c10] 60 (0, 0)) := by
          have h := World.alloc_heap_new (w10.alloc (.cells #[.int .i64 y.h, .slice a10 y.args.length c10] 25)) (.cells #[.int .i64 (k : Int), .int .i64 y.h, .slice a10 y.args.length c10] 60)
          rw [World.size_alloc] at h
          exact h
        have O12 := O10.below hal2
        have hlt12 := O10.lt
        have HD := hide (show RepD (fun b => False ∨ u5.ownBlock = some b) ((w10.alloc (.cells #[.int .i64 y.h, .slice a10 y.args.length c10] 25)).alloc (.cells #[.int .i64 (k : Int), .int .i64 y.h, .slice a10 y.args.length c10] 60)) (.row 3 (([⟨(k : Int), y⟩] : List Bd).map Bd.d)) [.slice (some ⟨w10.heap.size + 1, 0, none⟩) 1 1] from
          binds1 (b1 := ⟨(k : Int), y⟩) kb (fun h => by
            rcases h with h | h
            · exact h
            · have := hlt12 _ h; omega) (RepD.frame (fun b _ hlt => hal2.block b hlt) (fun b hb h => by
            rcases h with h | h
            · exact h.elim
            · exact h) _ _ t10))
        have HO12 := hide O12
        have B12 := B10.trans (hal2.mono hsz10)
        have hbl := bothL_length ss us (upto k)
        rw [upto_length] at hbl
        have hbase : w.heap.size ≤ ((w10.alloc (.cells #[.int .i64 y.h, .slice a10 y.args.length c10] 25)).alloc (.cells #[.int .i64 (k : Int), .int .i64 y.h, .slice a10 y.args.length c10] 60)).heap.size := Nat.le_trans hsz10 hal2.size
        have HBASE := hide hbase
        have hd : (y.h != -1 - (k : Int)) = true := by simpa using hmv
        have HB12 := hide B12
        clear HBS HMV O12 B12 hbase hal hal2 hlt12 kb
        obtain ⟨-, z0, z1, -, -⟩ := box2 kV
        go_wp2_with (at_builtin; refine app_all_pl rfl (.tmp 22) (.tmp 26) 22 rfl w.heap.size 60 (.agg #[.int .i64 0, .int .i64 0, .slice none 0 0]) 3 40 Try.underlying22 (by kernel_rfl) rfl (by decide) (v := u5) (xv := .slice (some ⟨w10.heap.size + 1, 0, none⟩) 1 1) rfl rfl HO12.out HD.out (fun d hd => by obtain ⟨z, -, rfl⟩ := List.mem_map.1 hd; exact Bd.oneD z) (by simp [maxLen]; omega) (by simp; omega) HBASE.out ?_; intro v' w' o' kp ob hsh)
        go_roundw
        case rel =>
          refine ⟨k + 1, by omega, by go_num, HB12.out.trans (kp.below (fun b hb h => by have := (HO12.out.lt b h).1; omega) HBASE.out), ?_⟩
          rw [HNM.out, List.map_append]; exact o'
        case measure => simp [intOf]; omega
    · obtain rfl : k = 256 := by omega
      have hR : Binds (fun _ => False) wr u5 (bothL ss us (upto 256)) := hO.rep (fun _ h => h.elim)
      obtain ⟨ar, cr, rfl, -, -⟩ := hR.shape
      clear hO hlt hk
      go_wp2
      go_ret
      exact ⟨_, rfl, hR, hB⟩
end Go.Proofs.Ythplndalbfcbbaa
