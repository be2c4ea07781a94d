/-
  DERIVED. GIVEN WITH THE SEED: THE CARDS: each row of YtneecjikdghchaaDoorRows.lean that lists a variable, with what it lists TIED to the program's text (the seventh form; the later family's looks); each row that meets fmt, with fmt's text TOLD by the authors' own Lean function (tested against real Go, not proved from fmt's source: count such statements apart). THE CARD IS WHAT COUNTS. Prove the row's statement (the work); the ties are given (YtneecjikdghchaaDoorTie.lean); close each card by the builder's one call (the guide's Derived/Test/ToyasCard.lean, 'card_holds'). Laid BY PROGRAM, IN A SANDBOX (cutbox-door.mjs). By AI agents, Wed Nov 11 2026. No macro, syntax, notation, axiom, sorry.
-/
import Derived.Test.YtneecjikdghchaaDoorRows
import GoSem.ClaimSeven
namespace Go.Proofs.YtneecjikdghchaaDoor
namespace Rows

/-- THE TIED CARD OF 'elenchuslaw17.PathFinds'. -/
def pathFindsCard : Claim7 := { stood := { row := pathFindsRow, standIns := [], harness := (true, "b3e123fc8323cb2d0525715f6c6d7771370b6ef25c3d59ef89c3c0e89458b9a9"), looks := false }, kinds := [], alts := [], laidByText := true, laidKinds := [.data, .data, .data], laidTests := true, laidLooks := .later }
def PathFindsCardSaid : Prop := Claim7.holds Tryd.pinned (.plain (OpenSpec.ofChange pathFindsSpec)) pathFindsCard

/-- THE TIED CARD OF 'elenchuslaw17.PathDoes'. -/
def pathDoesCard : Claim7 := { stood := { row := pathDoesRow, standIns := [], harness := (true, "b3e123fc8323cb2d0525715f6c6d7771370b6ef25c3d59ef89c3c0e89458b9a9"), looks := false }, kinds := [], alts := [], laidByText := true, laidKinds := [.data, .data, .data], laidTests := true, laidLooks := .later }
def PathDoesCardSaid : Prop := Claim7.holds Tryd.pinned (.plain (OpenSpec.ofChange pathDoesSpec)) pathDoesCard

/-- THE TIED CARD OF 'elenchuslaw17.PathDrops'. -/
def pathDropsCard : Claim7 := { stood := { row := pathDropsRow, standIns := [], harness := (true, "b3e123fc8323cb2d0525715f6c6d7771370b6ef25c3d59ef89c3c0e89458b9a9"), looks := false }, kinds := [], alts := [], laidByText := true, laidKinds := [.data, .data, .data], laidTests := true, laidLooks := .later }
def PathDropsCardSaid : Prop := Claim7.holds Tryd.pinned (.plain (OpenSpec.ofChange pathDropsSpec)) pathDropsCard

/-- THE TIED CARD OF 'elenchuslaw17.PathNil'. -/
def pathNilCard : Claim7 := { stood := { row := pathNilRow, standIns := [], harness := (true, "b3e123fc8323cb2d0525715f6c6d7771370b6ef25c3d59ef89c3c0e89458b9a9"), looks := false }, kinds := [], alts := [], laidByText := true, laidKinds := [.data, .data, .data], laidTests := true, laidLooks := .later }
def PathNilCardSaid : Prop := Claim7.holds Tryd.pinned (.plain (OpenSpec.ofChange pathNilSpec)) pathNilCard

/-- THE SECOND FORM's CARD OF 'elenchuslaw17.PathFinds'. -/
def pathFindsUptoCard : Claim7 := { stood := { row := pathFindsUptoRow, standIns := [], harness := (true, "b3e123fc8323cb2d0525715f6c6d7771370b6ef25c3d59ef89c3c0e89458b9a9"), looks := false }, kinds := [], alts := [], laidByText := true, laidKinds := [.data, .data, .data], laidTests := true, laidLooks := .later }
def PathFindsUptoCardSaid : Prop := Claim7.holds Tryd.pinned (.plain (OpenSpec.upto pathFindsSpec)) pathFindsUptoCard

/-- THE SECOND FORM's CARD OF 'elenchuslaw17.PathDoes'. -/
def pathDoesUptoCard : Claim7 := { stood := { row := pathDoesUptoRow, standIns := [], harness := (true, "b3e123fc8323cb2d0525715f6c6d7771370b6ef25c3d59ef89c3c0e89458b9a9"), looks := false }, kinds := [], alts := [], laidByText := true, laidKinds := [.data, .data, .data], laidTests := true, laidLooks := .later }
def PathDoesUptoCardSaid : Prop := Claim7.holds Tryd.pinned (.plain (OpenSpec.upto pathDoesSpec)) pathDoesUptoCard

/-- THE SECOND FORM's CARD OF 'elenchuslaw17.PathDrops'. -/
def pathDropsUptoCard : Claim7 := { stood := { row := pathDropsUptoRow, standIns := [], harness := (true, "b3e123fc8323cb2d0525715f6c6d7771370b6ef25c3d59ef89c3c0e89458b9a9"), looks := false }, kinds := [], alts := [], laidByText := true, laidKinds := [.data, .data, .data], laidTests := true, laidLooks := .later }
def PathDropsUptoCardSaid : Prop := Claim7.holds Tryd.pinned (.plain (OpenSpec.upto pathDropsSpec)) pathDropsUptoCard

/-- THE SECOND FORM's CARD OF 'elenchuslaw17.PathNil'. -/
def pathNilUptoCard : Claim7 := { stood := { row := pathNilUptoRow, standIns := [], harness := (true, "b3e123fc8323cb2d0525715f6c6d7771370b6ef25c3d59ef89c3c0e89458b9a9"), looks := false }, kinds := [], alts := [], laidByText := true, laidKinds := [.data, .data, .data], laidTests := true, laidLooks := .later }
def PathNilUptoCardSaid : Prop := Claim7.holds Tryd.pinned (.plain (OpenSpec.upto pathNilSpec)) pathNilUptoCard
end Rows
end Go.Proofs.YtneecjikdghchaaDoor
