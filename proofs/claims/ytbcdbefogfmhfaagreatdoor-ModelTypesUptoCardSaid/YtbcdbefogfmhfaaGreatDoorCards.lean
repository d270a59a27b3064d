/-
  DERIVED. GIVEN WITH THE SEED: THE CARDS: each row of YtbcdbefogfmhfaaGreatDoorRows.lean that lists a variable, with what it lists TIED to the program's text (the seventh form; the later family's looks); each row that meets fmt, with fmt's text TOLD by the authors' own Lean function (tested against real Go, not proved from fmt's source: count such statements apart). THE CARD IS WHAT COUNTS. Prove the row's statement (the work); the ties are given (YtbcdbefogfmhfaaGreatDoorTie.lean); close each card by the builder's one call (the guide's Derived/Test/ToyasCard.lean, 'card_holds'). Laid BY PROGRAM, IN A SANDBOX (cutbox-door.mjs). By AI agents, Wed Nov 11 2026. No macro, syntax, notation, axiom, sorry.
-/
import Derived.Test.YtbcdbefogfmhfaaGreatDoorRows
import GoSem.ClaimSeven
namespace Go.Proofs.YtbcdbefogfmhfaaGreatDoor
namespace Rows

/-- THE TIED CARD OF 'tipstavelaw16.ModelMore'. -/
def modelMoreCard : Claim7 := { stood := { row := modelMoreRow, standIns := [], harness := (true, "d2b087432d9cdb91e1224dc6d5f7d4f1b6af25d326c8535bdb6da6bb84def282"), looks := true }, kinds := [], alts := [], laidByText := true, laidKinds := [.data, .handle, .widerDeep, .widerDeep, .pinned], laidTests := true, laidLooks := .later }
def ModelMoreCardSaid : Prop := Claim7.holds Tryz.pinned (.plain (OpenSpec.ofChange modelMoreSpec)) modelMoreCard

/-- THE TIED CARD OF 'tipstavelaw16.ModelLess'. -/
def modelLessCard : Claim7 := { stood := { row := modelLessRow, standIns := [], harness := (true, "d2b087432d9cdb91e1224dc6d5f7d4f1b6af25d326c8535bdb6da6bb84def282"), looks := true }, kinds := [], alts := [], laidByText := true, laidKinds := [.data, .handle, .widerDeep, .widerDeep, .pinned], laidTests := true, laidLooks := .later }
def ModelLessCardSaid : Prop := Claim7.holds Tryz.pinned (.plain (OpenSpec.ofChange modelLessSpec)) modelLessCard

/-- THE TIED CARD OF 'tipstavelaw16.ModelTypes'. -/
def modelTypesCard : Claim7 := { stood := { row := modelTypesRow, standIns := [], harness := (true, "d2b087432d9cdb91e1224dc6d5f7d4f1b6af25d326c8535bdb6da6bb84def282"), looks := true }, kinds := [], alts := [], laidByText := true, laidKinds := [.data, .handle, .widerDeep, .widerDeep, .pinned], laidTests := true, laidLooks := .later }
def ModelTypesCardSaid : Prop := Claim7.holds Tryz.pinned (.plain (OpenSpec.ofChange modelTypesSpec)) modelTypesCard

/-- THE TIED CARD OF 'tipstavelaw16.ModelSames'. -/
def modelSamesCard : Claim7 := { stood := { row := modelSamesRow, standIns := [], harness := (true, "d2b087432d9cdb91e1224dc6d5f7d4f1b6af25d326c8535bdb6da6bb84def282"), looks := true }, kinds := [], alts := [], laidByText := true, laidKinds := [.data, .handle, .widerDeep, .widerDeep, .pinned], laidTests := true, laidLooks := .later }
def ModelSamesCardSaid : Prop := Claim7.holds Tryz.pinned (.plain (OpenSpec.ofChange modelSamesSpec)) modelSamesCard

/-- THE TIED CARD OF 'tipstavelaw16.ModelRight'. -/
def modelRightCard : Claim7 := { stood := { row := modelRightRow, standIns := [], harness := (true, "d2b087432d9cdb91e1224dc6d5f7d4f1b6af25d326c8535bdb6da6bb84def282"), looks := true }, kinds := [], alts := [], laidByText := true, laidKinds := [.data, .handle, .widerDeep, .widerDeep, .pinned], laidTests := true, laidLooks := .later }
def ModelRightCardSaid : Prop := Claim7.holds Tryz.pinned (.plain (OpenSpec.ofChange modelRightSpec)) modelRightCard

/-- THE SECOND FORM's CARD OF 'tipstavelaw16.ModelMore'. -/
def modelMoreUptoCard : Claim7 := { stood := { row := modelMoreUptoRow, standIns := [], harness := (true, "d2b087432d9cdb91e1224dc6d5f7d4f1b6af25d326c8535bdb6da6bb84def282"), looks := true }, kinds := [], alts := [], laidByText := true, laidKinds := [.data, .handle, .widerDeep, .widerDeep, .pinned], laidTests := true, laidLooks := .later }
def ModelMoreUptoCardSaid : Prop := Claim7.holds Tryz.pinned (.plain (OpenSpec.upto modelMoreSpec)) modelMoreUptoCard

/-- THE SECOND FORM's CARD OF 'tipstavelaw16.ModelLess'. -/
def modelLessUptoCard : Claim7 := { stood := { row := modelLessUptoRow, standIns := [], harness := (true, "d2b087432d9cdb91e1224dc6d5f7d4f1b6af25d326c8535bdb6da6bb84def282"), looks := true }, kinds := [], alts := [], laidByText := true, laidKinds := [.data, .handle, .widerDeep, .widerDeep, .pinned], laidTests := true, laidLooks := .later }
def ModelLessUptoCardSaid : Prop := Claim7.holds Tryz.pinned (.plain (OpenSpec.upto modelLessSpec)) modelLessUptoCard

/-- THE SECOND FORM's CARD OF 'tipstavelaw16.ModelTypes'. -/
def modelTypesUptoCard : Claim7 := { stood := { row := modelTypesUptoRow, standIns := [], harness := (true, "d2b087432d9cdb91e1224dc6d5f7d4f1b6af25d326c8535bdb6da6bb84def282"), looks := true }, kinds := [], alts := [], laidByText := true, laidKinds := [.data, .handle, .widerDeep, .widerDeep, .pinned], laidTests := true, laidLooks := .later }
def ModelTypesUptoCardSaid : Prop := Claim7.holds Tryz.pinned (.plain (OpenSpec.upto modelTypesSpec)) modelTypesUptoCard

/-- THE SECOND FORM's CARD OF 'tipstavelaw16.ModelSames'. -/
def modelSamesUptoCard : Claim7 := { stood := { row := modelSamesUptoRow, standIns := [], harness := (true, "d2b087432d9cdb91e1224dc6d5f7d4f1b6af25d326c8535bdb6da6bb84def282"), looks := true }, kinds := [], alts := [], laidByText := true, laidKinds := [.data, .handle, .widerDeep, .widerDeep, .pinned], laidTests := true, laidLooks := .later }
def ModelSamesUptoCardSaid : Prop := Claim7.holds Tryz.pinned (.plain (OpenSpec.upto modelSamesSpec)) modelSamesUptoCard

/-- THE SECOND FORM's CARD OF 'tipstavelaw16.ModelRight'. -/
def modelRightUptoCard : Claim7 := { stood := { row := modelRightUptoRow, standIns := [], harness := (true, "d2b087432d9cdb91e1224dc6d5f7d4f1b6af25d326c8535bdb6da6bb84def282"), looks := true }, kinds := [], alts := [], laidByText := true, laidKinds := [.data, .handle, .widerDeep, .widerDeep, .pinned], laidTests := true, laidLooks := .later }
def ModelRightUptoCardSaid : Prop := Claim7.holds Tryz.pinned (.plain (OpenSpec.upto modelRightSpec)) modelRightUptoCard
end Rows
end Go.Proofs.YtbcdbefogfmhfaaGreatDoor
