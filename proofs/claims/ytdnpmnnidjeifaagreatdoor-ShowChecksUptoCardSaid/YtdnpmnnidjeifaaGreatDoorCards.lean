/-
  DERIVED. GIVEN WITH THE SEED: THE CARDS: each row of YtdnpmnnidjeifaaGreatDoorRows.lean that lists a variable, with what it lists TIED to the program's text (the seventh form; the later family's looks); each row that meets fmt, with fmt's text TOLD by the authors' own Lean function (tested against real Go, not proved from fmt's source: count such statements apart). THE CARD IS WHAT COUNTS. Prove the row's statement (the work); the ties are given (YtdnpmnnidjeifaaGreatDoorTie.lean); close each card by the builder's one call (the guide's Derived/Test/ToyasCard.lean, 'card_holds'). Laid BY PROGRAM, IN A SANDBOX (cutbox-door.mjs). By AI agents, Wed Nov 11 2026. No macro, syntax, notation, axiom, sorry.
-/
import Derived.Test.YtdnpmnnidjeifaaGreatDoorRows
import GoSem.ClaimSeven
namespace Go.Proofs.YtdnpmnnidjeifaaGreatDoor
namespace Rows

/-- THE TIED CARD OF 'hasplaw14.ShowChecks'. -/
def showChecksCard : Claim7 := { stood := { row := showChecksRow, standIns := [], harness := (true, "7eddd547239e58e3408fb71ceb6b8db31cda7c9af1f49b22b9db192d459b3a82"), looks := true }, kinds := [], alts := [], laidByText := true, laidKinds := [.data, .data, .data, .data, .pinned, .pinned], laidTests := true, laidLooks := .later }
def ShowChecksCardSaid : Prop := Claim7.holds Tryz.pinned (.plain (OpenSpec.ofChange showChecksSpec)) showChecksCard

/-- THE TIED CARD OF 'hasplaw14.ShowThere'. -/
def showThereCard : Claim7 := { stood := { row := showThereRow, standIns := [], harness := (true, "7eddd547239e58e3408fb71ceb6b8db31cda7c9af1f49b22b9db192d459b3a82"), looks := true }, kinds := [], alts := [], laidByText := true, laidKinds := [.data, .data, .data, .data, .pinned, .pinned], laidTests := true, laidLooks := .later }
def ShowThereCardSaid : Prop := Claim7.holds Tryz.pinned (.plain (OpenSpec.ofChange showThereSpec)) showThereCard

/-- THE TIED CARD OF 'hasplaw14.ShowBack'. -/
def showBackCard : Claim7 := { stood := { row := showBackRow, standIns := [], harness := (true, "7eddd547239e58e3408fb71ceb6b8db31cda7c9af1f49b22b9db192d459b3a82"), looks := true }, kinds := [], alts := [], laidByText := true, laidKinds := [.data, .data, .data, .data, .pinned, .pinned], laidTests := true, laidLooks := .later }
def ShowBackCardSaid : Prop := Claim7.holds Tryz.pinned (.plain (OpenSpec.ofChange showBackSpec)) showBackCard

/-- THE TIED CARD OF 'hasplaw14.ShowWhere'. -/
def showWhereCard : Claim7 := { stood := { row := showWhereRow, standIns := [], harness := (true, "7eddd547239e58e3408fb71ceb6b8db31cda7c9af1f49b22b9db192d459b3a82"), looks := true }, kinds := [], alts := [], laidByText := true, laidKinds := [.data, .data, .data, .data, .pinned, .pinned], laidTests := true, laidLooks := .later }
def ShowWhereCardSaid : Prop := Claim7.holds Tryz.pinned (.plain (OpenSpec.ofChange showWhereSpec)) showWhereCard

/-- THE SECOND FORM's CARD OF 'hasplaw14.ShowChecks'. -/
def showChecksUptoCard : Claim7 := { stood := { row := showChecksUptoRow, standIns := [], harness := (true, "7eddd547239e58e3408fb71ceb6b8db31cda7c9af1f49b22b9db192d459b3a82"), looks := true }, kinds := [], alts := [], laidByText := true, laidKinds := [.data, .data, .data, .data, .pinned, .pinned], laidTests := true, laidLooks := .later }
def ShowChecksUptoCardSaid : Prop := Claim7.holds Tryz.pinned (.plain (OpenSpec.upto showChecksSpec)) showChecksUptoCard

/-- THE SECOND FORM's CARD OF 'hasplaw14.ShowThere'. -/
def showThereUptoCard : Claim7 := { stood := { row := showThereUptoRow, standIns := [], harness := (true, "7eddd547239e58e3408fb71ceb6b8db31cda7c9af1f49b22b9db192d459b3a82"), looks := true }, kinds := [], alts := [], laidByText := true, laidKinds := [.data, .data, .data, .data, .pinned, .pinned], laidTests := true, laidLooks := .later }
def ShowThereUptoCardSaid : Prop := Claim7.holds Tryz.pinned (.plain (OpenSpec.upto showThereSpec)) showThereUptoCard

/-- THE SECOND FORM's CARD OF 'hasplaw14.ShowBack'. -/
def showBackUptoCard : Claim7 := { stood := { row := showBackUptoRow, standIns := [], harness := (true, "7eddd547239e58e3408fb71ceb6b8db31cda7c9af1f49b22b9db192d459b3a82"), looks := true }, kinds := [], alts := [], laidByText := true, laidKinds := [.data, .data, .data, .data, .pinned, .pinned], laidTests := true, laidLooks := .later }
def ShowBackUptoCardSaid : Prop := Claim7.holds Tryz.pinned (.plain (OpenSpec.upto showBackSpec)) showBackUptoCard

/-- THE SECOND FORM's CARD OF 'hasplaw14.ShowWhere'. -/
def showWhereUptoCard : Claim7 := { stood := { row := showWhereUptoRow, standIns := [], harness := (true, "7eddd547239e58e3408fb71ceb6b8db31cda7c9af1f49b22b9db192d459b3a82"), looks := true }, kinds := [], alts := [], laidByText := true, laidKinds := [.data, .data, .data, .data, .pinned, .pinned], laidTests := true, laidLooks := .later }
def ShowWhereUptoCardSaid : Prop := Claim7.holds Tryz.pinned (.plain (OpenSpec.upto showWhereSpec)) showWhereUptoCard
end Rows
end Go.Proofs.YtdnpmnnidjeifaaGreatDoor
