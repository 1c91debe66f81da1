/-
  DERIVED. GIVEN WITH THE SEED: THE CARDS: each row of YtcogkenmdbaiiaaGreatDoorRows.lean that lists a variable, with what it lists TIED to the program's text (the seventh form; the later family's looks); each row that meets fmt, with fmt's text TOLD by the authors' own Lean function (tested against real Go, not proved from fmt's source: count such statements apart). THE CARD IS WHAT COUNTS. Prove the row's statement (the work); the ties are given (YtcogkenmdbaiiaaGreatDoorTie.lean); close each card by the builder's one call (the guide's Derived/Test/ToyasCard.lean, 'card_holds'). Laid BY PROGRAM, IN A SANDBOX (cutbox-door.mjs). By AI agents, Wed Nov 11 2026. No macro, syntax, notation, axiom, sorry.
-/
import Derived.Test.YtcogkenmdbaiiaaGreatDoorRows
import GoSem.ClaimSeven
namespace Go.Proofs.YtcogkenmdbaiiaaGreatDoor
namespace Rows

/-- THE TIED CARD OF 'hasplaw13.ParseNames'. -/
def parseNamesCard : Claim7 := { stood := { row := parseNamesRow, standIns := [], harness := (true, "20cd4a66c206b6b6b682b5208a9556e986d11f088b9ed4c30609207a36056f51"), looks := true }, kinds := [], alts := [], laidByText := true, laidKinds := [.data, .pinned, .pinned], laidTests := true, laidLooks := .later }
def ParseNamesCardSaid : Prop := Claim7.holds Tryz.pinned (.plain (OpenSpec.ofChange parseNamesSpec)) parseNamesCard

/-- THE TIED CARD OF 'hasplaw13.ParseReads'. -/
def parseReadsCard : Claim7 := { stood := { row := parseReadsRow, standIns := [], harness := (true, "20cd4a66c206b6b6b682b5208a9556e986d11f088b9ed4c30609207a36056f51"), looks := true }, kinds := [], alts := [], laidByText := true, laidKinds := [.data, .pinned, .pinned], laidTests := true, laidLooks := .later }
def ParseReadsCardSaid : Prop := Claim7.holds Tryz.pinned (.plain (OpenSpec.ofChange parseReadsSpec)) parseReadsCard

/-- THE TIED CARD OF 'hasplaw13.ParseBlanks'. -/
def parseBlanksCard : Claim7 := { stood := { row := parseBlanksRow, standIns := [], harness := (true, "20cd4a66c206b6b6b682b5208a9556e986d11f088b9ed4c30609207a36056f51"), looks := true }, kinds := [], alts := [], laidByText := true, laidKinds := [.data, .pinned, .pinned], laidTests := true, laidLooks := .later }
def ParseBlanksCardSaid : Prop := Claim7.holds Tryz.pinned (.plain (OpenSpec.ofChange parseBlanksSpec)) parseBlanksCard

/-- THE TIED CARD OF 'hasplaw13.ParseCase'. -/
def parseCaseCard : Claim7 := { stood := { row := parseCaseRow, standIns := [], harness := (true, "20cd4a66c206b6b6b682b5208a9556e986d11f088b9ed4c30609207a36056f51"), looks := true }, kinds := [], alts := [], laidByText := true, laidKinds := [.data, .pinned, .pinned], laidTests := true, laidLooks := .later }
def ParseCaseCardSaid : Prop := Claim7.holds Tryz.pinned (.plain (OpenSpec.ofChange parseCaseSpec)) parseCaseCard

/-- THE TIED CARD OF 'hasplaw13.ParseParens'. -/
def parseParensCard : Claim7 := { stood := { row := parseParensRow, standIns := [], harness := (true, "20cd4a66c206b6b6b682b5208a9556e986d11f088b9ed4c30609207a36056f51"), looks := true }, kinds := [], alts := [], laidByText := true, laidKinds := [.data, .pinned, .pinned], laidTests := true, laidLooks := .later }
def ParseParensCardSaid : Prop := Claim7.holds Tryz.pinned (.plain (OpenSpec.ofChange parseParensSpec)) parseParensCard

/-- THE SECOND FORM's CARD OF 'hasplaw13.ParseNames'. -/
def parseNamesUptoCard : Claim7 := { stood := { row := parseNamesUptoRow, standIns := [], harness := (true, "20cd4a66c206b6b6b682b5208a9556e986d11f088b9ed4c30609207a36056f51"), looks := true }, kinds := [], alts := [], laidByText := true, laidKinds := [.data, .pinned, .pinned], laidTests := true, laidLooks := .later }
def ParseNamesUptoCardSaid : Prop := Claim7.holds Tryz.pinned (.plain (OpenSpec.upto parseNamesSpec)) parseNamesUptoCard

/-- THE SECOND FORM's CARD OF 'hasplaw13.ParseReads'. -/
def parseReadsUptoCard : Claim7 := { stood := { row := parseReadsUptoRow, standIns := [], harness := (true, "20cd4a66c206b6b6b682b5208a9556e986d11f088b9ed4c30609207a36056f51"), looks := true }, kinds := [], alts := [], laidByText := true, laidKinds := [.data, .pinned, .pinned], laidTests := true, laidLooks := .later }
def ParseReadsUptoCardSaid : Prop := Claim7.holds Tryz.pinned (.plain (OpenSpec.upto parseReadsSpec)) parseReadsUptoCard

/-- THE SECOND FORM's CARD OF 'hasplaw13.ParseBlanks'. -/
def parseBlanksUptoCard : Claim7 := { stood := { row := parseBlanksUptoRow, standIns := [], harness := (true, "20cd4a66c206b6b6b682b5208a9556e986d11f088b9ed4c30609207a36056f51"), looks := true }, kinds := [], alts := [], laidByText := true, laidKinds := [.data, .pinned, .pinned], laidTests := true, laidLooks := .later }
def ParseBlanksUptoCardSaid : Prop := Claim7.holds Tryz.pinned (.plain (OpenSpec.upto parseBlanksSpec)) parseBlanksUptoCard

/-- THE SECOND FORM's CARD OF 'hasplaw13.ParseCase'. -/
def parseCaseUptoCard : Claim7 := { stood := { row := parseCaseUptoRow, standIns := [], harness := (true, "20cd4a66c206b6b6b682b5208a9556e986d11f088b9ed4c30609207a36056f51"), looks := true }, kinds := [], alts := [], laidByText := true, laidKinds := [.data, .pinned, .pinned], laidTests := true, laidLooks := .later }
def ParseCaseUptoCardSaid : Prop := Claim7.holds Tryz.pinned (.plain (OpenSpec.upto parseCaseSpec)) parseCaseUptoCard

/-- THE SECOND FORM's CARD OF 'hasplaw13.ParseParens'. -/
def parseParensUptoCard : Claim7 := { stood := { row := parseParensUptoRow, standIns := [], harness := (true, "20cd4a66c206b6b6b682b5208a9556e986d11f088b9ed4c30609207a36056f51"), looks := true }, kinds := [], alts := [], laidByText := true, laidKinds := [.data, .pinned, .pinned], laidTests := true, laidLooks := .later }
def ParseParensUptoCardSaid : Prop := Claim7.holds Tryz.pinned (.plain (OpenSpec.upto parseParensSpec)) parseParensUptoCard
end Rows
end Go.Proofs.YtcogkenmdbaiiaaGreatDoor
