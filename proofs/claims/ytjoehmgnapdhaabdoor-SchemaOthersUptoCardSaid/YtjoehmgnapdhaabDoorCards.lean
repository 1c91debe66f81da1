/-
  DERIVED. GIVEN WITH THE SEED: THE CARDS: each row of YtjoehmgnapdhaabDoorRows.lean that lists a variable, with what it lists TIED to the program's text (the seventh form; the later family's looks); each row that meets fmt, with fmt's text TOLD by the authors' own Lean function (tested against real Go, not proved from fmt's source: count such statements apart). THE CARD IS WHAT COUNTS. Prove the row's statement (the work); the ties are given (YtjoehmgnapdhaabDoorTie.lean); close each card by the builder's one call (the guide's Derived/Test/ToyasCard.lean, 'card_holds'). Laid BY PROGRAM, IN A SANDBOX (cutbox-door.mjs). By AI agents, Wed Nov 11 2026. No macro, syntax, notation, axiom, sorry.
-/
import Derived.Test.YtjoehmgnapdhaabDoorRows
import GoSem.ClaimSeven
namespace Go.Proofs.YtjoehmgnapdhaabDoor
namespace Rows

/-- THE TIED CARD OF 'hasplaw15.SchemaThere'. -/
def schemaThereCard : Claim7 := { stood := { row := schemaThereRow, standIns := [], harness := (true, "36421241c1a6d93240a19ff5a1e7f632ca8c9d0d3f6bd770d8bfea56278133e6"), looks := false }, kinds := [], alts := [], laidByText := true, laidKinds := [.data, .pinned, .pinned], laidTests := true, laidLooks := .later }
def SchemaThereCardSaid : Prop := Claim7.holds Tryd.pinned (.plain (OpenSpec.ofChange schemaThereSpec)) schemaThereCard

/-- THE TIED CARD OF 'hasplaw15.SchemaOthers'. -/
def schemaOthersCard : Claim7 := { stood := { row := schemaOthersRow, standIns := [], harness := (true, "36421241c1a6d93240a19ff5a1e7f632ca8c9d0d3f6bd770d8bfea56278133e6"), looks := false }, kinds := [], alts := [], laidByText := true, laidKinds := [.data, .pinned, .pinned], laidTests := true, laidLooks := .later }
def SchemaOthersCardSaid : Prop := Claim7.holds Tryd.pinned (.plain (OpenSpec.ofChange schemaOthersSpec)) schemaOthersCard

/-- THE SECOND FORM's CARD OF 'hasplaw15.SchemaThere'. -/
def schemaThereUptoCard : Claim7 := { stood := { row := schemaThereUptoRow, standIns := [], harness := (true, "36421241c1a6d93240a19ff5a1e7f632ca8c9d0d3f6bd770d8bfea56278133e6"), looks := false }, kinds := [], alts := [], laidByText := true, laidKinds := [.data, .pinned, .pinned], laidTests := true, laidLooks := .later }
def SchemaThereUptoCardSaid : Prop := Claim7.holds Tryd.pinned (.plain (OpenSpec.upto schemaThereSpec)) schemaThereUptoCard

/-- THE SECOND FORM's CARD OF 'hasplaw15.SchemaOthers'. -/
def schemaOthersUptoCard : Claim7 := { stood := { row := schemaOthersUptoRow, standIns := [], harness := (true, "36421241c1a6d93240a19ff5a1e7f632ca8c9d0d3f6bd770d8bfea56278133e6"), looks := false }, kinds := [], alts := [], laidByText := true, laidKinds := [.data, .pinned, .pinned], laidTests := true, laidLooks := .later }
def SchemaOthersUptoCardSaid : Prop := Claim7.holds Tryd.pinned (.plain (OpenSpec.upto schemaOthersSpec)) schemaOthersUptoCard
end Rows
end Go.Proofs.YtjoehmgnapdhaabDoor
