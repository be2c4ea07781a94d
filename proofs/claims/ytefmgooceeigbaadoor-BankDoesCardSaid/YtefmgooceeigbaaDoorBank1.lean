/- bank: row.key, walked. -/
import Derived.Test.YtefmgooceeigbaaDoorBld
import Derived.Test.YtefmgooceeigbaaDoorGrow
import Derived.Test.YtefmgooceeigbaaDoorDraw6
import Derived.Deep.LoopGhost
set_option linter.unusedSimpArgs false
set_option linter.unusedVariables false
namespace Go.Proofs.YtefmgooceeigbaaDoor
open Go.RowKit

structure RwOk (r : Rw) : Prop where
  h0 : -9223372036854775808 ≤ r.1
  h1 : r.1 ≤ 9223372036854775807
  n : r.2.length ≤ 1000000
  each : ∀ n, n ∈ r.2 → n ≤ 1000000
theorem size_list (l : List UInt8) : (⟨l.toArray⟩ : ByteArray).size = l.length := by simp [ByteArray.size]
theorem tailK_len : ∀ (ns : List Nat), (∀ n, n ∈ ns → n ≤ 1000000) → (tailK ns).length ≤ 22 * ns.length
  | [], _ => by simp [tailK]
  | n :: ns, h => by
    have h1 := tailK_len ns fun m hm => h m (by simp [hm])
    have h2 := h n (by simp)
    have h3 := Lib.itoa_length_le (n : Int) (by omega) (by omega)
    simp only [tailK, List.length_cons, List.length_append]
    omega
theorem keyL_len {r : Rw} (h : RwOk r) : (keyL r).length ≤ 21 + 22 * r.2.length := by
  have h1 := tailK_len r.2 h.each
  have h2 := Lib.itoa_length_le r.1 h.h0 h.h1
  simp only [keyL, List.length_append]; omega
theorem tailK_take (ns : List Nat) (j : Nat) (h : j < ns.length) : tailK (ns.take (j + 1)) = tailK (ns.take j) ++ (44 :: Lib.itoa (ns[j] : Int)) := by
  rw [List.take_succ_eq_append_getElem h, tailK_append]; simp [tailK]
theorem str_comma (l : List UInt8) : ((⟨#[44]⟩ : ByteArray) ++ (⟨l.toArray⟩ : ByteArray)) = ⟨(44 :: l).toArray⟩ := by
  apply ByteArray.ext
  simp [ByteArray.data_append]

set_option maxHeartbeats 2000000 in
set_option maxRecDepth 100000 in
theorem key_calls (r : Rw) (A : Nat → Prop) (s : Value) (base : Nat) (w : World) (hr : RwOk r) (ht : tabB base w) (hb : base ≤ w.heap.size) (hs : Ints A w s (zs r.2)) :
    Calls Tryd.prog 42 #[.agg #[.int .i64 r.1, s]] w fun e w' => e = .returned (keyV r) ∧ Below w.heap.size w w' := by
  have HS := hide hs
  have HT := hide ht
  have HR := hide hr
  obtain ⟨a, c, rfl, hlc, hc⟩ := hs.shape
  generalize hn : (zs r.2).length = n at *
  have HN := hide (show n = r.2.length by rw [← hn, zs_length])
  have HBW := hide (show Below w.heap.size w ((w.alloc (.cells #[.int .i64 r.1, .slice a n c] 64)).alloc (.cells #[.pointer none, .slice none 0 0] 87)) from ((Below.refl _ _).alloc (Nat.le_refl _) _).alloc (by simp) _)
  have HB := hide (show Lib.IsBuilder 87 5 (w.heap.size + 1) (w.heap.size + 1) (Lib.byteCells []) ((w.alloc (.cells #[.int .i64 r.1, .slice a n c] 64)).alloc (.cells #[.pointer none, .slice none 0 0] 87)) by
    have := Lib.fresh_isBuilder 87 5 (w.alloc (.cells #[.int .i64 r.1, .slice a n c] 64))
    rw [World.size_alloc] at this
    exact this)
  have HX := hide (show ((w.alloc (.cells #[.int .i64 r.1, .slice a n c] 64)).alloc (.cells #[.pointer none, .slice none 0 0] 87)).heap[w.heap.size]? = some (.cells #[.int .i64 r.1, .slice a n c] 64 (0, 0)) from
    (((Below.refl _ _).alloc (Nat.le_refl _) _ : Below (w.alloc (.cells #[.int .i64 r.1, .slice a n c] 64)).heap.size _ _).block _ (by simp)).trans (World.alloc_heap_new _ _))
  have HBS := hide hb
  clear hs ht hr hn
  go_enter Tryd.func42, Tryd.ntmps42
  go_wp2_with fail
  generalize (w.alloc (.cells #[.int .i64 r.1, .slice a n c] 64)).alloc (.cells #[.pointer none, .slice none 0 0] 87) = W at *
  refine (itoa_calls r.1 base W HR.out.h0 HR.out.h1 (HT.out.on (HBW.out.mono HBS.out))).mono ?_
  rintro e w1 ⟨rfl, b1⟩
  have HB1 := hide (isB_below HB.out b1)
  have HX1 := hide ((b1.block _ (Array.getElem?_eq_some_iff.1 HX.out).1).trans HX.out)
  have HW1 := hide (HBW.out.trans (b1.mono HBW.out.size))
  have HL1 := hide (show w.heap.size + 1 ≤ w1.heap.size by have := (Array.getElem?_eq_some_iff.1 HX1.out).1; omega)
  have HI1 := hide (Lib.itoa_length_le r.1 HR.out.h0 HR.out.h1)
  clear b1 HB HX HBW
  go_wp2_with fail
  refine (wstring_calls (w.heap.size + 1) (w.heap.size + 1) _ _ w1 HB1.out (by rw [size_list, Lib.byteCells_length]; have := HI1.out; simp; omega) HL1.out).mono ?_
  rintro e w2 ⟨rfl, s2, b2⟩
  rw [Lib.strCells_toArray, ← Lib.byteCells_append, List.nil_append] at s2
  have HB2 := hide (show Lib.IsBuilder 87 5 (w.heap.size + 1) (w.heap.size + 1) _ w2 from .inr s2)
  have HX2 := hide ((b2.block w.heap.size (by omega)).trans HX1.out)
  have HW2 := hide (HW1.out.trans (b2.mono (by omega)))
  have HL2 := hide (Nat.le_trans HL1.out b2.size)
  obtain ⟨-, q0, q1, -, -⟩ := box2 HX2.out
  clear s2 b2 HB1 HX1 HW1 HL1
  go_wp2
  go_loopw [13] (fun i wr => ∃ j : Nat, j ≤ n ∧ i = .int .i64 j ∧ Hid (Lib.IsBuilder 87 5 (w.heap.size + 1) (w.heap.size + 1) (Lib.byteCells (Lib.itoa r.1 ++ tailK (r.2.take j))) wr) ∧ Hid (Below w.heap.size w wr) ∧ Hid (w.heap.size + 1 ≤ wr.heap.size)) (fun i _ => n - (intOf i).toNat)
  case atStart => exact ⟨0, by omega, rfl, hide (by simpa [tailK] using HB2.out), HW2, HL2⟩
  case round =>
    obtain ⟨j, hj, rfl, hbd, hbl, hsz⟩ := hrel
    by_cases hlt : j < n
    · have hlt2 : j < r.2.length := by have := HN.out; omega
      obtain ⟨b, off, rfl, hbs, -, z0⟩ := HS.out.get j (by rw [zs_length]; omega)
      have Z0 := (hbl.out.cell (p := ⟨b, off + j, none⟩) hbs).trans z0
      simp only [zs, List.getElem_map, Int.ofNat_eq_natCast] at Z0
      have HM := hide (HR.out.each r.2[j] (List.getElem_mem hlt2))
      have HTK := hide (tailK_take r.2 j hlt2)
      have HTL := hide (tailK_len (r.2.take j) fun m hm => HR.out.each m (List.mem_of_mem_take hm))
      have HIM := hide (Lib.itoa_length_le (r.2[j] : Int) (by omega) (by have := HM.out; omega))
      have HNM := hide HR.out.n
      generalize r.2[j] = m at *
      clear z0 hbs
      go_wp2_with fail
      refine (itoa_calls (m : Int) base wr (by omega) (by have := HM.out; omega) (HT.out.on (hbl.out.mono HBS.out))).mono ?_
      rintro e w3 ⟨rfl, b3⟩
      have HB3 := hide (isB_below hbd.out b3)
      have HW3 := hide (hbl.out.trans (b3.mono hbl.out.size))
      have HL3 := hide (Nat.le_trans hsz.out b3.size)
      have hcc : (9223372036854775807 < 1 + (Lib.itoa (m : Int)).length) = False := by have := HIM.out; simp; omega
      clear b3 hbd hbl hsz
      go_wp2_with fail
      refine (wstring_calls (w.heap.size + 1) (w.heap.size + 1) _ _ w3 HB3.out ?_ HL3.out).mono ?_
      · have := HIM.out; have := HTL.out; have := HI1.out; have := HNM.out
        rw [str_comma, size_list, Lib.byteCells_length]
        simp only [List.length_append, List.length_cons, List.length_take] at *
        omega
      rintro e w4 ⟨rfl, s4, b4⟩
      rw [str_comma, Lib.strCells_toArray, ← Lib.byteCells_append, List.append_assoc, ← HTK.out] at s4
      have HB4 := hide (show Lib.IsBuilder 87 5 (w.heap.size + 1) (w.heap.size + 1) _ w4 from .inr s4)
      have HW4 := hide (HW3.out.trans (b4.mono (by omega)))
      have HL4 := hide (Nat.le_trans HL3.out b4.size)
      clear s4 b4 HB3 HW3 HL3
      go_wp2
      go_roundw
      case rel => exact ⟨j + 1, by omega, by go_num, HB4, HW4, HL4⟩
      case measure => simp [intOf]; omega
    · obtain rfl : j = n := by omega
      have hfl := hbd.out
      rw [List.take_of_length_le (by have := HN.out; omega)] at hfl
      have HBD := hide hfl
      clear hfl hbd
      go_wp2_with fail
      refine (Tryd.Builder_String_any (w.heap.size + 1) (w.heap.size + 1) (Lib.itoa r.1 ++ tailK r.2) wr HBD.out hsz.out).mono ?_
      rintro e w5 ⟨rfl, b5⟩
      have HW5 := hide (hbl.out.trans (b5.mono (by omega)))
      clear b5
      go_wp2
      go_ret
      exact ⟨rfl, HW5.out⟩
end Go.Proofs.YtefmgooceeigbaaDoor
