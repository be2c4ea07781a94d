/-
  DERIVED. GIVEN WITH THE SEED: THE CARDS: each row of YtefmgooceeigbaaDoorRows.lean that lists a variable, with what it lists TIED to the program's text (the seventh form; the later family's looks); each row that meets fmt, with fmt's text TOLD by the authors' own Lean function (tested against real Go, not proved from fmt's source: count such statements apart). THE CARD IS WHAT COUNTS. Prove the row's statement (the work); the ties are given (YtefmgooceeigbaaDoorTie.lean); close each card by the builder's one call (the guide's Derived/Test/ToyasCard.lean, 'card_holds'). Laid BY PROGRAM, IN A SANDBOX (cutbox-door.mjs). By AI agents, Wed Nov 11 2026. No macro, syntax, notation, axiom, sorry.
-/
import Derived.Test.YtefmgooceeigbaaDoorRows
import GoSem.ClaimSeven
namespace Go.Proofs.YtefmgooceeigbaaDoor
namespace Rows

/-- THE TIED CARD OF 'elenchuslaw06.BankFull'. -/
def bankFullCard : Claim7 := { stood := { row := bankFullRow, standIns := [], harness := (true, "9b95dc751954975978e7e38a064d13bbbf64226bf0925ebf80646433de22ce6b"), looks := false }, kinds := [], alts := [], laidByText := true, laidKinds := [.data, .data, .data], laidTests := true, laidLooks := .later }
def BankFullCardSaid : Prop := Claim7.holds Tryd.pinned (.plain (OpenSpec.ofChange bankFullSpec)) bankFullCard

/-- THE TIED CARD OF 'elenchuslaw06.BankDoes'. -/
def bankDoesCard : Claim7 := { stood := { row := bankDoesRow, standIns := [], harness := (true, "9b95dc751954975978e7e38a064d13bbbf64226bf0925ebf80646433de22ce6b"), looks := false }, kinds := [], alts := [], laidByText := true, laidKinds := [.data, .data, .data], laidTests := true, laidLooks := .later }
def BankDoesCardSaid : Prop := Claim7.holds Tryd.pinned (.plain (OpenSpec.ofChange bankDoesSpec)) bankDoesCard

/-- THE TIED CARD OF 'elenchuslaw06.BankNil'. -/
def bankNilCard : Claim7 := { stood := { row := bankNilRow, standIns := [], harness := (true, "9b95dc751954975978e7e38a064d13bbbf64226bf0925ebf80646433de22ce6b"), looks := false }, kinds := [], alts := [], laidByText := true, laidKinds := [.data, .data, .data], laidTests := true, laidLooks := .later }
def BankNilCardSaid : Prop := Claim7.holds Tryd.pinned (.plain (OpenSpec.ofChange bankNilSpec)) bankNilCard

/-- THE TIED CARD OF 'elenchuslaw06.BankOnce'. -/
def bankOnceCard : Claim7 := { stood := { row := bankOnceRow, standIns := [], harness := (true, "9b95dc751954975978e7e38a064d13bbbf64226bf0925ebf80646433de22ce6b"), looks := false }, kinds := [], alts := [], laidByText := true, laidKinds := [.data, .data, .data], laidTests := true, laidLooks := .later }
def BankOnceCardSaid : Prop := Claim7.holds Tryd.pinned (.plain (OpenSpec.ofChange bankOnceSpec)) bankOnceCard

/-- THE SECOND FORM's CARD OF 'elenchuslaw06.BankFull'. -/
def bankFullUptoCard : Claim7 := { stood := { row := bankFullUptoRow, standIns := [], harness := (true, "9b95dc751954975978e7e38a064d13bbbf64226bf0925ebf80646433de22ce6b"), looks := false }, kinds := [], alts := [], laidByText := true, laidKinds := [.data, .data, .data], laidTests := true, laidLooks := .later }
def BankFullUptoCardSaid : Prop := Claim7.holds Tryd.pinned (.plain (OpenSpec.upto bankFullSpec)) bankFullUptoCard

/-- THE SECOND FORM's CARD OF 'elenchuslaw06.BankDoes'. -/
def bankDoesUptoCard : Claim7 := { stood := { row := bankDoesUptoRow, standIns := [], harness := (true, "9b95dc751954975978e7e38a064d13bbbf64226bf0925ebf80646433de22ce6b"), looks := false }, kinds := [], alts := [], laidByText := true, laidKinds := [.data, .data, .data], laidTests := true, laidLooks := .later }
def BankDoesUptoCardSaid : Prop := Claim7.holds Tryd.pinned (.plain (OpenSpec.upto bankDoesSpec)) bankDoesUptoCard

/-- THE SECOND FORM's CARD OF 'elenchuslaw06.BankNil'. -/
def bankNilUptoCard : Claim7 := { stood := { row := bankNilUptoRow, standIns := [], harness := (true, "9b95dc751954975978e7e38a064d13bbbf64226bf0925ebf80646433de22ce6b"), looks := false }, kinds := [], alts := [], laidByText := true, laidKinds := [.data, .data, .data], laidTests := true, laidLooks := .later }
def BankNilUptoCardSaid : Prop := Claim7.holds Tryd.pinned (.plain (OpenSpec.upto bankNilSpec)) bankNilUptoCard

/-- THE SECOND FORM's CARD OF 'elenchuslaw06.BankOnce'. -/
def bankOnceUptoCard : Claim7 := { stood := { row := bankOnceUptoRow, standIns := [], harness := (true, "9b95dc751954975978e7e38a064d13bbbf64226bf0925ebf80646433de22ce6b"), looks := false }, kinds := [], alts := [], laidByText := true, laidKinds := [.data, .data, .data], laidTests := true, laidLooks := .later }
def BankOnceUptoCardSaid : Prop := Claim7.holds Tryd.pinned (.plain (OpenSpec.upto bankOnceSpec)) bankOnceUptoCard
end Rows
end Go.Proofs.YtefmgooceeigbaaDoor
