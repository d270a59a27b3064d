/-
  DERIVED. GIVEN WITH THE SEED: THE CARDS: each row of YtgfikaagoflbbaaGreatDoorRows.lean that lists a variable, with what it lists TIED to the program's text (the seventh form; the later family's looks); each row that meets fmt, with fmt's text TOLD by the authors' own Lean function (tested against real Go, not proved from fmt's source: count such statements apart). THE CARD IS WHAT COUNTS. Prove the row's statement (the work); the ties are given (YtgfikaagoflbbaaGreatDoorTie.lean); close each card by the builder's one call (the guide's Derived/Test/ToyasCard.lean, 'card_holds'). Laid BY PROGRAM, IN A SANDBOX (cutbox-door.mjs). By AI agents, Wed Nov 11 2026. No macro, syntax, notation, axiom, sorry.
-/
import Derived.Test.YtgfikaagoflbbaaGreatDoorRows
import GoSem.ClaimSeven
namespace Go.Proofs.YtgfikaagoflbbaaGreatDoor
namespace Rows

/-- THE TIED CARD OF 'tipstavelaw10.ExprScopes'. -/
def exprScopesCard : Claim7 := { stood := { row := exprScopesRow, standIns := [], harness := (true, "3c5101985356f6e3cccc6df5aa5aabced2a64b6858cd90ff5d804e4d732525d9"), looks := true }, kinds := [], alts := [], laidByText := true, laidKinds := [.data, .handle, .pinned], laidTests := true, laidLooks := .later }
def ExprScopesCardSaid : Prop := Claim7.holds Tryz.pinned (.plain (OpenSpec.ofChange exprScopesSpec)) exprScopesCard

/-- THE TIED CARD OF 'tipstavelaw10.ExprFree'. -/
def exprFreeCard : Claim7 := { stood := { row := exprFreeRow, standIns := [], harness := (true, "3c5101985356f6e3cccc6df5aa5aabced2a64b6858cd90ff5d804e4d732525d9"), looks := true }, kinds := [], alts := [], laidByText := true, laidKinds := [.data, .handle, .pinned], laidTests := true, laidLooks := .later }
def ExprFreeCardSaid : Prop := Claim7.holds Tryz.pinned (.plain (OpenSpec.ofChange exprFreeSpec)) exprFreeCard

/-- THE TIED CARD OF 'tipstavelaw10.ExprDeep'. -/
def exprDeepCard : Claim7 := { stood := { row := exprDeepRow, standIns := [], harness := (true, "3c5101985356f6e3cccc6df5aa5aabced2a64b6858cd90ff5d804e4d732525d9"), looks := true }, kinds := [], alts := [], laidByText := true, laidKinds := [.data, .handle, .pinned], laidTests := true, laidLooks := .later }
def ExprDeepCardSaid : Prop := Claim7.holds Tryz.pinned (.plain (OpenSpec.ofChange exprDeepSpec)) exprDeepCard

/-- THE TIED CARD OF 'tipstavelaw10.ExprParts'. -/
def exprPartsCard : Claim7 := { stood := { row := exprPartsRow, standIns := [], harness := (true, "3c5101985356f6e3cccc6df5aa5aabced2a64b6858cd90ff5d804e4d732525d9"), looks := true }, kinds := [], alts := [], laidByText := true, laidKinds := [.data, .handle, .pinned], laidTests := true, laidLooks := .later }
def ExprPartsCardSaid : Prop := Claim7.holds Tryz.pinned (.plain (OpenSpec.ofChange exprPartsSpec)) exprPartsCard

/-- THE TIED CARD OF 'tipstavelaw10.ExprTests'. -/
def exprTestsCard : Claim7 := { stood := { row := exprTestsRow, standIns := [], harness := (true, "3c5101985356f6e3cccc6df5aa5aabced2a64b6858cd90ff5d804e4d732525d9"), looks := true }, kinds := [], alts := [], laidByText := true, laidKinds := [.data, .handle, .pinned], laidTests := true, laidLooks := .later }
def ExprTestsCardSaid : Prop := Claim7.holds Tryz.pinned (.plain (OpenSpec.ofChange exprTestsSpec)) exprTestsCard

/-- THE TIED CARD OF 'tipstavelaw10.ExprSames'. -/
def exprSamesCard : Claim7 := { stood := { row := exprSamesRow, standIns := [], harness := (true, "3c5101985356f6e3cccc6df5aa5aabced2a64b6858cd90ff5d804e4d732525d9"), looks := true }, kinds := [], alts := [], laidByText := true, laidKinds := [.data, .handle, .pinned], laidTests := true, laidLooks := .later }
def ExprSamesCardSaid : Prop := Claim7.holds Tryz.pinned (.plain (OpenSpec.ofChange exprSamesSpec)) exprSamesCard

/-- THE SECOND FORM's CARD OF 'tipstavelaw10.ExprScopes'. -/
def exprScopesUptoCard : Claim7 := { stood := { row := exprScopesUptoRow, standIns := [], harness := (true, "3c5101985356f6e3cccc6df5aa5aabced2a64b6858cd90ff5d804e4d732525d9"), looks := true }, kinds := [], alts := [], laidByText := true, laidKinds := [.data, .handle, .pinned], laidTests := true, laidLooks := .later }
def ExprScopesUptoCardSaid : Prop := Claim7.holds Tryz.pinned (.plain (OpenSpec.upto exprScopesSpec)) exprScopesUptoCard

/-- THE SECOND FORM's CARD OF 'tipstavelaw10.ExprFree'. -/
def exprFreeUptoCard : Claim7 := { stood := { row := exprFreeUptoRow, standIns := [], harness := (true, "3c5101985356f6e3cccc6df5aa5aabced2a64b6858cd90ff5d804e4d732525d9"), looks := true }, kinds := [], alts := [], laidByText := true, laidKinds := [.data, .handle, .pinned], laidTests := true, laidLooks := .later }
def ExprFreeUptoCardSaid : Prop := Claim7.holds Tryz.pinned (.plain (OpenSpec.upto exprFreeSpec)) exprFreeUptoCard

/-- THE SECOND FORM's CARD OF 'tipstavelaw10.ExprDeep'. -/
def exprDeepUptoCard : Claim7 := { stood := { row := exprDeepUptoRow, standIns := [], harness := (true, "3c5101985356f6e3cccc6df5aa5aabced2a64b6858cd90ff5d804e4d732525d9"), looks := true }, kinds := [], alts := [], laidByText := true, laidKinds := [.data, .handle, .pinned], laidTests := true, laidLooks := .later }
def ExprDeepUptoCardSaid : Prop := Claim7.holds Tryz.pinned (.plain (OpenSpec.upto exprDeepSpec)) exprDeepUptoCard

/-- THE SECOND FORM's CARD OF 'tipstavelaw10.ExprParts'. -/
def exprPartsUptoCard : Claim7 := { stood := { row := exprPartsUptoRow, standIns := [], harness := (true, "3c5101985356f6e3cccc6df5aa5aabced2a64b6858cd90ff5d804e4d732525d9"), looks := true }, kinds := [], alts := [], laidByText := true, laidKinds := [.data, .handle, .pinned], laidTests := true, laidLooks := .later }
def ExprPartsUptoCardSaid : Prop := Claim7.holds Tryz.pinned (.plain (OpenSpec.upto exprPartsSpec)) exprPartsUptoCard

/-- THE SECOND FORM's CARD OF 'tipstavelaw10.ExprTests'. -/
def exprTestsUptoCard : Claim7 := { stood := { row := exprTestsUptoRow, standIns := [], harness := (true, "3c5101985356f6e3cccc6df5aa5aabced2a64b6858cd90ff5d804e4d732525d9"), looks := true }, kinds := [], alts := [], laidByText := true, laidKinds := [.data, .handle, .pinned], laidTests := true, laidLooks := .later }
def ExprTestsUptoCardSaid : Prop := Claim7.holds Tryz.pinned (.plain (OpenSpec.upto exprTestsSpec)) exprTestsUptoCard

/-- THE SECOND FORM's CARD OF 'tipstavelaw10.ExprSames'. -/
def exprSamesUptoCard : Claim7 := { stood := { row := exprSamesUptoRow, standIns := [], harness := (true, "3c5101985356f6e3cccc6df5aa5aabced2a64b6858cd90ff5d804e4d732525d9"), looks := true }, kinds := [], alts := [], laidByText := true, laidKinds := [.data, .handle, .pinned], laidTests := true, laidLooks := .later }
def ExprSamesUptoCardSaid : Prop := Claim7.holds Tryz.pinned (.plain (OpenSpec.upto exprSamesSpec)) exprSamesUptoCard
end Rows
end Go.Proofs.YtgfikaagoflbbaaGreatDoor
