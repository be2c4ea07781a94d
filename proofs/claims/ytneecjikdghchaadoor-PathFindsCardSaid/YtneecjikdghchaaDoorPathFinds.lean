/- PathFinds, for every input. -/
import Derived.Test.YtneecjikdghchaaDoorRows
import Derived.Test.YtneecjikdghchaaDoorCards
import Derived.Test.YtneecjikdghchaaDoorTie
import Derived.WalkKit
import Derived.ProofKit
import Derived.OpenShut
import Derived.ShutString
import Derived.ChangeOld
import Derived.ChangeVars
import Derived.Below
import Derived.LaidLaws
import Derived.LaidSub
import Derived.Lib.LaidTab
import Derived.Lib.LaidIn
import Derived.SevenTiedAt
import Derived.Test.YtneecjikdghchaaDoorReadX
import Derived.Test.YtneecjikdghchaaDoorPFindsW
import Derived.Test.YtneecjikdghchaaDoorFactsPathFinds
set_option linter.unusedSimpArgs false
set_option linter.unusedVariables false
namespace Go.Proofs.YtneecjikdghchaaDoor
open Go.ChangeShapes Go.WideShapes Go.ChangeAt Go.RowKit

theorem pathFinds_knob : ownKnob Tryd.prog.godebug = none := by kernel_rfl
theorem pathFinds_laid : laidOutB Tryd.prog = true := by kernel_rfl
theorem pathFinds_gT : Tryd.prog.globalNamed "internal/strconv.uint64pow10" = some 0 := by kernel_rfl
theorem pathFinds_gTType : (Tryd.prog.globals[0]?).map (·.type) = some 156 := by kernel_rfl
def pathFindsTab : DataW Unit → List Value
  | .agg l => l.map fun | .lit (.int k z) => .int k z | _ => .int .u8 0
  | _ => []
/-- A world that meets the condition: the settled one, the three tables laid. -/
noncomputable def pathFindsWorld (os : Os) : World :=
  let w0 := World.holding Tryd.prog os ⟨#[], #[], []⟩
  let put := fun (l : List Value) (o : Obj) => match o with
    | .cells _ t frozen => .cells l.toArray t frozen
    | o => o
  { w0 with heap := ((w0.heap.modify 0 (put (Lib.pow10Tab.map fun z => Value.int .u64 z))).modify 1 (put (pathFindsTab (Rows.laid_math_bits_deBruijn32tab (H := Unit))))).modify 2 (put (pathFindsTab (Rows.laid_math_bits_deBruijn64tab (H := Unit)))) }
theorem pathFinds_met (os : Os) (args : Array Value) : laidMet Tryd.prog Rows.pathFindsRow.laid ((pathFindsWorld os).forCall (fun _ _ => 0) ⟨#[], args, []⟩).memory :=
  (LaidIn.of_run [0, 1, 2] 8 (by kernel_rfl) (by kernel_rfl) (by kernel_rfl) (by kernel_rfl)).met
set_option maxRecDepth 100000 in
theorem pathFinds_lifted (os : Os) (started : os.Started) (H : Type) (enc : TypeId × Value → H) :
    ReturnsInHanded {} Tryd.checked os 3 .any (fun w args => (Rows.pathFindsSpec.pre enc Tryd.prog Tryd.f3 [] false w args ∧ laidMetH Tryd.prog Rows.pathFindsRow.laid w) ∧ sizedMet enc Tryd.prog Tryd.f3 (OpenSpec.ofChange Rows.pathFindsSpec) false w args) (Rows.pathFindsSpec.post enc Tryd.prog Tryd.f3 false true false false) := by
  refine returnsInHanded_of_change_and (C := Tryd.checked) (X := fun w _ => laidMet Tryd.prog Rows.pathFindsRow.laid w) (fun _ _ _ hh h => h.of_heap hh) pathFinds_knob started (by kernel_rfl) Tryd.func3
    (ChangeSpec.witness_at (enc := enc) (C := Tryd.checked) (os := os) (X := fun w _ => laidMet Tryd.prog Rows.pathFindsRow.laid w) false (pathFindsWorld os) #[.slice none 0 0, .agg #[.int .i64 0, .slice none 0 0]] 8 rfl (by kernel_rfl) (by kernel_rfl) (by kernel_rfl) (by kernel_rfl) (by kernel_rfl) (pathFinds_met os _)) ?_
  intro W base args ds gs before hval0 hW _ _ hL _
  have hval : ∀ (j : Nat) t v, Tryd.f3.params[j]? = some t → args[j]? = some v → Value.okWide Tryd.prog W .any base t v := hval0
  have hW' := hW
  obtain ⟨p, q, hA0, hV, rfl, hfz, hnd⟩ := hW
  have hA : DataW.TrodAll enc Tryd.prog W 0 (fun _ => true) true Tryd.f3.params.toList args.toList ds p := hA0
  rw [Tryd.params3] at hA hval
  obtain ⟨v0, vs0, d0, ds0, p0, q0, hargs, rfl, rfl, h0, r0⟩ := trodAll_cons hA
  obtain ⟨v1, vs1, d1, ds1, p1, q1, rfl, rfl, rfl, h1, r1⟩ := trodAll_cons r0
  obtain ⟨rfl, rfl, rfl⟩ := trodAll_nil r1
  obtain rfl : args = #[v0, v1] := by cases args; simp_all
  obtain ⟨rfl, rfl⟩ := trodVars_none hV
  obtain ⟨a0, len0, cap0, rfl⟩ := okWide_slice Tryd.underlying22 (hval 0 22 v0 rfl rfl)
  obtain ⟨cs1, rfl, hcs1⟩ := okWide_struct Tryd.underlying24 (hval 1 24 v1 rfl rfl)
  have k0 := h0
  have lt0 : ∀ x ∈ p0, x.block < W.heap.size := by obtain ⟨m, hm⟩ := k0; exact DataW.trod_lt m _ _ _ hm
  obtain ⟨fuel0, hf0⟩ := h0
  have k1 := h1
  have lt1 : ∀ x ∈ p1, x.block < W.heap.size := by obtain ⟨m, hm⟩ := k1; exact DataW.trod_lt m _ _ _ hm
  obtain ⟨fuel1, hf1⟩ := h1
  obtain ⟨ts0, hok0, hts0⟩ := readTermsH fuel0 (.slice a0 len0 cap0) _ hf0
  rw [cellsTerm] at hcs1
  obtain ⟨c1, e1, hcsx1⟩ := list2 (l := cs1.toList) (by simpa using hcs1)
  obtain rfl : cs1 = #[c1, e1] := by cases cs1; simp_all
  obtain ⟨t1, hok1, rfl, ht1⟩ := readTermH fuel1 c1 e1 _ hf1
  clear hA0 hval0
  refine (pfinds_calls ts0 t1 (.slice a0 len0 cap0) _ e1 W hts0 ht1).mono fun e W' ⟨he, bel⟩ => ?_
  subst he
  exact ⟨_, rfl, _, _, _, [], _, [], hW', trodAll_mk1 (shut_bool Tryd.underlying4 _), (trodAll_cons_mk (Below.trod pathFinds_laid (by kernel_rfl) (of_decide_eq_true (by kernel_rfl)) k0 bel lt0) (trodAll_cons_mk (Below.trod pathFinds_laid (by kernel_rfl) (of_decide_eq_true (by kernel_rfl)) k1 bel lt1) trodAll_mk0)), rfl, bel.frame _, fun h => by cases h⟩

theorem pathFinds_over : Rows.pathFindsRow.holds Tryd.pinned (OpenSpec.ofChange Rows.pathFindsSpec) :=
  OpenClaim.holds_of_wide 3 Tryd.f3 rfl rfl rfl rfl rfl rfl rfl ⟨rfl, rfl, rfl, rfl, rfl⟩ rfl rfl rfl rfl rfl (by kernel_rfl) Tryd.func3 pathFinds_facts
    (of_decide_eq_true (by kernel_rfl)) (by unfold Func.isWrapper; first | (rw [if_pos (by decide +kernel)]; kernel_rfl) | (rw [if_neg (by decide +kernel)]; exact ⟨rfl, rfl⟩))
    (fun os started H enc _ => pathFinds_lifted os started H enc)
theorem pathFinds_card : Rows.PathFindsCardSaid :=
  Claim7.holds_tied_plain_at .later [] [.data, .data, .data] true (true, "b3e123fc8323cb2d0525715f6c6d7771370b6ef25c3d59ef89c3c0e89458b9a9") false
    pathFinds_over (fun _ h => by cases h) (by kernel_rfl) (fun _ h => by cases h) pathFinds_row_tie rfl ⟨rfl, rfl⟩ (by kernel_rfl) rfl
    (fun f fn hf hfn => by
      obtain rfl : f = 3 := Option.some.inj ((show Tryd.prog.funcNamed "elenchus/elenchuslaw17.PathFinds" = some 3 by kernel_rfl).symm.trans hf) |>.symm
      obtain rfl : fn = Tryd.f3 := (Option.some.inj (Tryd.func3.symm.trans hfn)).symm
      exact ⟨by kernel_rfl, fun j t ht => by
        rw [Tryd.params3] at ht
        have h3 : t = 22 ∨ t = 24 := by
          rcases j with _ | _ | j
          · simp only [List.getElem?_toArray, List.getElem?_cons_zero, List.getElem?_cons_succ, Option.some.injEq] at ht; subst ht; simp
          · simp only [List.getElem?_toArray, List.getElem?_cons_zero, List.getElem?_cons_succ, Option.some.injEq] at ht; subst ht; simp
          · simp at ht
        rcases h3 with rfl | rfl
        · exact (show Tryd.prog.wantsStandIn 22 = false by kernel_rfl)
        · exact (show Tryd.prog.wantsStandIn 24 = false by kernel_rfl)⟩)
    (by kernel_rfl)
#print axioms pathFinds_card
end Go.Proofs.YtneecjikdghchaaDoor
