/- PathDrops, for every input. -/
import Derived.Test.YtneecjikdghchaaDoorRows
import Derived.Test.YtneecjikdghchaaDoorCards
import Derived.Test.YtneecjikdghchaaDoorTie
import Derived.WalkKit
import Derived.ProofKit
import Derived.OpenShut
import Derived.ShutString
import Derived.ChangeOld
import Derived.ChangeVars
import Derived.Below
import Derived.LaidLaws
import Derived.LaidSub
import Derived.Lib.LaidTab
import Derived.Lib.LaidIn
import Derived.SevenTiedAt
import Derived.Test.YtneecjikdghchaaDoorReadP
import Derived.Test.YtneecjikdghchaaDoorPDropsW
import Derived.Test.YtneecjikdghchaaDoorFactsPathDrops
set_option linter.unusedSimpArgs false
set_option linter.unusedVariables false
namespace Go.Proofs.YtneecjikdghchaaDoor
open Go.ChangeShapes Go.WideShapes Go.ChangeAt Go.RowKit

theorem pathDrops_knob : ownKnob Tryd.prog.godebug = none := by kernel_rfl
theorem pathDrops_laid : laidOutB Tryd.prog = true := by kernel_rfl
theorem pathDrops_gT : Tryd.prog.globalNamed "internal/strconv.uint64pow10" = some 0 := by kernel_rfl
theorem pathDrops_gTType : (Tryd.prog.globals[0]?).map (·.type) = some 156 := by kernel_rfl
def pathDropsTab : DataW Unit → List Value
  | .agg l => l.map fun | .lit (.int k z) => .int k z | _ => .int .u8 0
  | _ => []
/-- A world that meets the condition: the settled one, the three tables laid. -/
noncomputable def pathDropsWorld (os : Os) : World :=
  let w0 := World.holding Tryd.prog os ⟨#[], #[], []⟩
  let put := fun (l : List Value) (o : Obj) => match o with
    | .cells _ t frozen => .cells l.toArray t frozen
    | o => o
  { w0 with heap := ((w0.heap.modify 0 (put (Lib.pow10Tab.map fun z => Value.int .u64 z))).modify 1 (put (pathDropsTab (Rows.laid_math_bits_deBruijn32tab (H := Unit))))).modify 2 (put (pathDropsTab (Rows.laid_math_bits_deBruijn64tab (H := Unit)))) }
theorem pathDrops_met (os : Os) (args : Array Value) : laidMet Tryd.prog Rows.pathDropsRow.laid ((pathDropsWorld os).forCall (fun _ _ => 0) ⟨#[], args, []⟩).memory :=
  (LaidIn.of_run [0, 1, 2] 8 (by kernel_rfl) (by kernel_rfl) (by kernel_rfl) (by kernel_rfl)).met
set_option maxRecDepth 100000 in
theorem pathDrops_lifted (os : Os) (started : os.Started) (H : Type) (enc : TypeId × Value → H) :
    ReturnsInHanded {} Tryd.checked os 5 .any (fun w args => (Rows.pathDropsSpec.pre enc Tryd.prog Tryd.f5 [] false w args ∧ laidMetH Tryd.prog Rows.pathDropsRow.laid w) ∧ sizedMet enc Tryd.prog Tryd.f5 (OpenSpec.ofChange Rows.pathDropsSpec) false w args) (Rows.pathDropsSpec.post enc Tryd.prog Tryd.f5 false true false false) := by
  refine returnsInHanded_of_change_and (C := Tryd.checked) (X := fun w _ => laidMet Tryd.prog Rows.pathDropsRow.laid w) (fun _ _ _ hh h => h.of_heap hh) pathDrops_knob started (by kernel_rfl) Tryd.func5
    (ChangeSpec.witness_at (enc := enc) (C := Tryd.checked) (os := os) (X := fun w _ => laidMet Tryd.prog Rows.pathDropsRow.laid w) false (pathDropsWorld os) #[.slice none 0 0, .int .i64 0, .agg #[.int .i64 0, .slice none 0 0]] 8 rfl (by kernel_rfl) (by kernel_rfl) (by kernel_rfl) (by kernel_rfl) (by kernel_rfl) (pathDrops_met os _)) ?_
  intro W base args ds gs before hval0 hW _ _ hL _
  have hval : ∀ (j : Nat) t v, Tryd.f5.params[j]? = some t → args[j]? = some v → Value.okWide Tryd.prog W .any base t v := hval0
  have hW' := hW
  obtain ⟨p, q, hA0, hV, rfl, hfz, hnd⟩ := hW
  have hA : DataW.TrodAll enc Tryd.prog W 0 (fun _ => true) true Tryd.f5.params.toList args.toList ds p := hA0
  rw [Tryd.params5] at hA hval
  obtain ⟨v0, vs0, d0, ds0, p0, q0, hargs, rfl, rfl, h0, r0⟩ := trodAll_cons hA
  obtain ⟨v1, vs1, d1, ds1, p1, q1, rfl, rfl, rfl, h1, r1⟩ := trodAll_cons r0
  obtain ⟨v2, vs2, d2, ds2, p2, q2, rfl, rfl, rfl, h2, r2⟩ := trodAll_cons r1
  obtain ⟨rfl, rfl, rfl⟩ := trodAll_nil r2
  obtain rfl : args = #[v0, v1, v2] := by cases args; simp_all
  obtain ⟨rfl, rfl⟩ := trodVars_none hV
  obtain ⟨a0, len0, cap0, rfl⟩ := okWide_slice Tryd.underlying22 (hval 0 22 v0 rfl rfl)
  obtain ⟨cs2, rfl, hcs2⟩ := okWide_struct Tryd.underlying24 (hval 2 24 v2 rfl rfl)
  have k0 := h0
  have lt0 : ∀ x ∈ p0, x.block < W.heap.size := by obtain ⟨m, hm⟩ := k0; exact DataW.trod_lt m _ _ _ hm
  obtain ⟨fuel0, hf0⟩ := h0
  have k2 := h2
  have lt2 : ∀ x ∈ p2, x.block < W.heap.size := by obtain ⟨m, hm⟩ := k2; exact DataW.trod_lt m _ _ _ hm
  obtain ⟨fuel2, hf2⟩ := h2
  obtain ⟨ts0, hok0, hts0⟩ := readTermsH fuel0 (.slice a0 len0 cap0) _ hf0
  obtain ⟨n1, rfl, rfl, rfl, w1⟩ := open_int Tryd.underlying3 (hval 1 3 v1 rfl rfl) h1
  rw [cellsTerm] at hcs2
  obtain ⟨c2, e2, hcsx2⟩ := list2 (l := cs2.toList) (by simpa using hcs2)
  obtain rfl : cs2 = #[c2, e2] := by cases cs2; simp_all
  obtain ⟨t2, hok2, rfl, ht2⟩ := readTermH fuel2 c2 e2 _ hf2
  clear hA0 hval0
  refine (pdrops_calls ts0 n1 t2 (.slice a0 len0 cap0) _ e2 W hts0 ht2).mono fun e W' ⟨he, bel⟩ => ?_
  subst he
  exact ⟨_, rfl, _, _, _, [], _, [], hW', trodAll_mk1 (shut_bool Tryd.underlying4 _), (trodAll_cons_mk (Below.trod pathDrops_laid (by kernel_rfl) (of_decide_eq_true (by kernel_rfl)) k0 bel lt0) (trodAll_cons_mk (shut_int Tryd.underlying3 w1) (trodAll_cons_mk (Below.trod pathDrops_laid (by kernel_rfl) (of_decide_eq_true (by kernel_rfl)) k2 bel lt2) trodAll_mk0))), rfl, bel.frame _, fun h => by cases h⟩

theorem pathDrops_over : Rows.pathDropsRow.holds Tryd.pinned (OpenSpec.ofChange Rows.pathDropsSpec) :=
  OpenClaim.holds_of_wide 5 Tryd.f5 rfl rfl rfl rfl rfl rfl rfl ⟨rfl, rfl, rfl, rfl, rfl⟩ rfl rfl rfl rfl rfl (by kernel_rfl) Tryd.func5 pathDrops_facts
    (of_decide_eq_true (by kernel_rfl)) (by unfold Func.isWrapper; first | (rw [if_pos (by decide +kernel)]; kernel_rfl) | (rw [if_neg (by decide +kernel)]; exact ⟨rfl, rfl⟩))
    (fun os started H enc _ => pathDrops_lifted os started H enc)
theorem pathDrops_card : Rows.PathDropsCardSaid :=
  Claim7.holds_tied_plain_at .later [] [.data, .data, .data] true (true, "b3e123fc8323cb2d0525715f6c6d7771370b6ef25c3d59ef89c3c0e89458b9a9") false
    pathDrops_over (fun _ h => by cases h) (by kernel_rfl) (fun _ h => by cases h) pathDrops_row_tie rfl ⟨rfl, rfl⟩ (by kernel_rfl) rfl
    (fun f fn hf hfn => by
      obtain rfl : f = 5 := Option.some.inj ((show Tryd.prog.funcNamed "elenchus/elenchuslaw17.PathDrops" = some 5 by kernel_rfl).symm.trans hf) |>.symm
      obtain rfl : fn = Tryd.f5 := (Option.some.inj (Tryd.func5.symm.trans hfn)).symm
      exact ⟨by kernel_rfl, fun j t ht => by
        rw [Tryd.params5] at ht
        have h3 : t = 22 ∨ t = 3 ∨ t = 24 := by
          rcases j with _ | _ | _ | j
          · simp only [List.getElem?_toArray, List.getElem?_cons_zero, List.getElem?_cons_succ, Option.some.injEq] at ht; subst ht; simp
          · simp only [List.getElem?_toArray, List.getElem?_cons_zero, List.getElem?_cons_succ, Option.some.injEq] at ht; subst ht; simp
          · simp only [List.getElem?_toArray, List.getElem?_cons_zero, List.getElem?_cons_succ, Option.some.injEq] at ht; subst ht; simp
          · simp at ht
        rcases h3 with rfl | rfl | rfl
        · exact (show Tryd.prog.wantsStandIn 22 = false by kernel_rfl)
        · exact (show Tryd.prog.wantsStandIn 3 = false by kernel_rfl)
        · exact (show Tryd.prog.wantsStandIn 24 = false by kernel_rfl)⟩)
    (by kernel_rfl)
#print axioms pathDrops_card
end Go.Proofs.YtneecjikdghchaaDoor
