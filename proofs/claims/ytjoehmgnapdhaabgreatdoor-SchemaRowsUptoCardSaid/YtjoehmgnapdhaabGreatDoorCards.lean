/-
  DERIVED. GIVEN WITH THE SEED: THE CARDS: each row of YtjoehmgnapdhaabGreatDoorRows.lean that lists a variable, with what it lists TIED to the program's text (the seventh form; the later family's looks); each row that meets fmt, with fmt's text TOLD by the authors' own Lean function (tested against real Go, not proved from fmt's source: count such statements apart). THE CARD IS WHAT COUNTS. Prove the row's statement (the work); the ties are given (YtjoehmgnapdhaabGreatDoorTie.lean); close each card by the builder's one call (the guide's Derived/Test/ToyasCard.lean, 'card_holds'). Laid BY PROGRAM, IN A SANDBOX (cutbox-door.mjs). By AI agents, Wed Nov 11 2026. No macro, syntax, notation, axiom, sorry.
-/
import Derived.Test.YtjoehmgnapdhaabGreatDoorRows
import GoSem.ClaimSeven
namespace Go.Proofs.YtjoehmgnapdhaabGreatDoor
namespace Rows

/-- THE TIED CARD OF 'hasplaw15.SchemaRows'. -/
def schemaRowsCard : Claim7 := { stood := { row := schemaRowsRow, standIns := [], harness := (true, "21fde5d33cca6af49b35c6bf5340224425fd4093b3e7dd49001ff1ee41795648"), looks := true }, kinds := [], alts := [], laidByText := true, laidKinds := [.data, .pinned, .pinned], laidTests := true, laidLooks := .later }
def SchemaRowsCardSaid : Prop := Claim7.holds Tryz.pinned (.plain (OpenSpec.ofChange schemaRowsSpec)) schemaRowsCard

/-- THE TIED CARD OF 'hasplaw13.ParseNames'. -/
def parseNamesCard : Claim7 := { stood := { row := parseNamesRow, standIns := [], harness := (true, "21fde5d33cca6af49b35c6bf5340224425fd4093b3e7dd49001ff1ee41795648"), looks := true }, kinds := [], alts := [], laidByText := true, laidKinds := [.data, .pinned, .pinned], laidTests := true, laidLooks := .later }
def ParseNamesCardSaid : Prop := Claim7.holds Tryz.pinned (.plain (OpenSpec.ofChange parseNamesSpec)) parseNamesCard

/-- THE SECOND FORM's CARD OF 'hasplaw15.SchemaRows'. -/
def schemaRowsUptoCard : Claim7 := { stood := { row := schemaRowsUptoRow, standIns := [], harness := (true, "21fde5d33cca6af49b35c6bf5340224425fd4093b3e7dd49001ff1ee41795648"), looks := true }, kinds := [], alts := [], laidByText := true, laidKinds := [.data, .pinned, .pinned], laidTests := true, laidLooks := .later }
def SchemaRowsUptoCardSaid : Prop := Claim7.holds Tryz.pinned (.plain (OpenSpec.upto schemaRowsSpec)) schemaRowsUptoCard

/-- THE SECOND FORM's CARD OF 'hasplaw13.ParseNames'. -/
def parseNamesUptoCard : Claim7 := { stood := { row := parseNamesUptoRow, standIns := [], harness := (true, "21fde5d33cca6af49b35c6bf5340224425fd4093b3e7dd49001ff1ee41795648"), looks := true }, kinds := [], alts := [], laidByText := true, laidKinds := [.data, .pinned, .pinned], laidTests := true, laidLooks := .later }
def ParseNamesUptoCardSaid : Prop := Claim7.holds Tryz.pinned (.plain (OpenSpec.upto parseNamesSpec)) parseNamesUptoCard
end Rows
end Go.Proofs.YtjoehmgnapdhaabGreatDoor
