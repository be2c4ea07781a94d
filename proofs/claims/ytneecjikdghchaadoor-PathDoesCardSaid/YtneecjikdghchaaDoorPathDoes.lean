/- PathDoes, for every input. -/
import Derived.Test.YtneecjikdghchaaDoorRows
import Derived.Test.YtneecjikdghchaaDoorCards
import Derived.Test.YtneecjikdghchaaDoorTie
import Derived.WalkKit
import Derived.ProofKit
import Derived.OpenShut
import Derived.ShutString
import Derived.ChangeOld
import Derived.ChangeVars
import Derived.Below
import Derived.LaidLaws
import Derived.LaidSub
import Derived.Lib.LaidTab
import Derived.Lib.LaidIn
import Derived.SevenTiedAt
import Derived.Test.YtneecjikdghchaaDoorReadX
import Derived.Test.YtneecjikdghchaaDoorPDoesW
import Derived.Test.YtneecjikdghchaaDoorFactsPathDoes
set_option linter.unusedSimpArgs false
set_option linter.unusedVariables false
namespace Go.Proofs.YtneecjikdghchaaDoor
open Go.ChangeShapes Go.WideShapes Go.ChangeAt Go.RowKit

theorem pathDoes_knob : ownKnob Tryd.prog.godebug = none := by kernel_rfl
theorem pathDoes_laid : laidOutB Tryd.prog = true := by kernel_rfl
theorem pathDoes_gT : Tryd.prog.globalNamed "internal/strconv.uint64pow10" = some 0 := by kernel_rfl
theorem pathDoes_gTType : (Tryd.prog.globals[0]?).map (·.type) = some 156 := by kernel_rfl
def pathDoesTab : DataW Unit → List Value
  | .agg l => l.map fun | .lit (.int k z) => .int k z | _ => .int .u8 0
  | _ => []
/-- A world that meets the condition: the settled one, the three tables laid. -/
noncomputable def pathDoesWorld (os : Os) : World :=
  let w0 := World.holding Tryd.prog os ⟨#[], #[], []⟩
  let put := fun (l : List Value) (o : Obj) => match o with
    | .cells _ t frozen => .cells l.toArray t frozen
    | o => o
  { w0 with heap := ((w0.heap.modify 0 (put (Lib.pow10Tab.map fun z => Value.int .u64 z))).modify 1 (put (pathDoesTab (Rows.laid_math_bits_deBruijn32tab (H := Unit))))).modify 2 (put (pathDoesTab (Rows.laid_math_bits_deBruijn64tab (H := Unit)))) }
theorem pathDoes_met (os : Os) (args : Array Value) : laidMet Tryd.prog Rows.pathDoesRow.laid ((pathDoesWorld os).forCall (fun _ _ => 0) ⟨#[], args, []⟩).memory :=
  (LaidIn.of_run [0, 1, 2] 8 (by kernel_rfl) (by kernel_rfl) (by kernel_rfl) (by kernel_rfl)).met
set_option maxRecDepth 100000 in
theorem pathDoes_lifted (os : Os) (started : os.Started) (H : Type) (enc : TypeId × Value → H) :
    ReturnsInHanded {} Tryd.checked os 4 .any (fun w args => (Rows.pathDoesSpec.pre enc Tryd.prog Tryd.f4 [] false w args ∧ laidMetH Tryd.prog Rows.pathDoesRow.laid w) ∧ sizedMet enc Tryd.prog Tryd.f4 (OpenSpec.ofChange Rows.pathDoesSpec) false w args) (Rows.pathDoesSpec.post enc Tryd.prog Tryd.f4 false true false false) := by
  refine returnsInHanded_of_change_and (C := Tryd.checked) (X := fun w _ => laidMet Tryd.prog Rows.pathDoesRow.laid w) (fun _ _ _ hh h => h.of_heap hh) pathDoes_knob started (by kernel_rfl) Tryd.func4
    (ChangeSpec.witness_at (enc := enc) (C := Tryd.checked) (os := os) (X := fun w _ => laidMet Tryd.prog Rows.pathDoesRow.laid w) false (pathDoesWorld os) #[.slice none 0 0] 8 rfl (by kernel_rfl) (by kernel_rfl) (by kernel_rfl) (by kernel_rfl) (by kernel_rfl) (pathDoes_met os _)) ?_
  intro W base args ds gs before hval0 hW _ _ hL _
  have hval : ∀ (j : Nat) t v, Tryd.f4.params[j]? = some t → args[j]? = some v → Value.okWide Tryd.prog W .any base t v := hval0
  have hW' := hW
  obtain ⟨p, q, hA0, hV, rfl, hfz, hnd⟩ := hW
  have hA : DataW.TrodAll enc Tryd.prog W 0 (fun _ => true) true Tryd.f4.params.toList args.toList ds p := hA0
  rw [Tryd.params4] at hA hval
  obtain ⟨v0, vs0, d0, ds0, p0, q0, hargs, rfl, rfl, h0, r0⟩ := trodAll_cons hA
  obtain ⟨rfl, rfl, rfl⟩ := trodAll_nil r0
  obtain rfl : args = #[v0] := by cases args; simp_all
  obtain ⟨rfl, rfl⟩ := trodVars_none hV
  obtain ⟨a0, len0, cap0, rfl⟩ := okWide_slice Tryd.underlying43 (hval 0 43 v0 rfl rfl)
  have k0 := h0
  have lt0 : ∀ x ∈ p0, x.block < W.heap.size := by obtain ⟨m, hm⟩ := k0; exact DataW.trod_lt m _ _ _ hm
  obtain ⟨fuel0, hf0⟩ := h0
  obtain ⟨sp0, hrange0, hst0⟩ := readStepsH fuel0 (.slice a0 len0 cap0) _ hf0
  clear hA0 hval0
  refine (pdoes_calls sp0 (.slice a0 len0 cap0) W hrange0 hst0).mono fun e W' ⟨he, bel⟩ => ?_
  subst he
  exact ⟨_, rfl, _, _, _, [], _, [], hW', trodAll_mk1 (shut_bool Tryd.underlying4 _), (trodAll_cons_mk (Below.trod pathDoes_laid (by kernel_rfl) (of_decide_eq_true (by kernel_rfl)) k0 bel lt0) trodAll_mk0), rfl, bel.frame _, fun h => by cases h⟩

theorem pathDoes_over : Rows.pathDoesRow.holds Tryd.pinned (OpenSpec.ofChange Rows.pathDoesSpec) :=
  OpenClaim.holds_of_wide 4 Tryd.f4 rfl rfl rfl rfl rfl rfl rfl ⟨rfl, rfl, rfl, rfl, rfl⟩ rfl rfl rfl rfl rfl (by kernel_rfl) Tryd.func4 pathDoes_facts
    (of_decide_eq_true (by kernel_rfl)) (by unfold Func.isWrapper; first | (rw [if_pos (by decide +kernel)]; kernel_rfl) | (rw [if_neg (by decide +kernel)]; exact ⟨rfl, rfl⟩))
    (fun os started H enc _ => pathDoes_lifted os started H enc)
theorem pathDoes_card : Rows.PathDoesCardSaid :=
  Claim7.holds_tied_plain_at .later [] [.data, .data, .data] true (true, "b3e123fc8323cb2d0525715f6c6d7771370b6ef25c3d59ef89c3c0e89458b9a9") false
    pathDoes_over (fun _ h => by cases h) (by kernel_rfl) (fun _ h => by cases h) pathDoes_row_tie rfl ⟨rfl, rfl⟩ (by kernel_rfl) rfl
    (fun f fn hf hfn => by
      obtain rfl : f = 4 := Option.some.inj ((show Tryd.prog.funcNamed "elenchus/elenchuslaw17.PathDoes" = some 4 by kernel_rfl).symm.trans hf) |>.symm
      obtain rfl : fn = Tryd.f4 := (Option.some.inj (Tryd.func4.symm.trans hfn)).symm
      exact ⟨by kernel_rfl, fun j t ht => by
        rw [Tryd.params4] at ht
        have h3 : t = 43 := by
          rcases j with _ | j
          · simp only [List.getElem?_toArray, List.getElem?_cons_zero, List.getElem?_cons_succ, Option.some.injEq] at ht; subst ht; simp
          · simp at ht
        rcases h3 with rfl
        · exact (show Tryd.prog.wantsStandIn 43 = false by kernel_rfl)⟩)
    (by kernel_rfl)
#print axioms pathDoes_card
end Go.Proofs.YtneecjikdghchaaDoor
