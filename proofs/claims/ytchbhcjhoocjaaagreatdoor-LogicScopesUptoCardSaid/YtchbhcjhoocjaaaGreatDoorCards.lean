/-
  DERIVED. GIVEN WITH THE SEED: THE CARDS: each row of YtchbhcjhoocjaaaGreatDoorRows.lean that lists a variable, with what it lists TIED to the program's text (the seventh form; the later family's looks); each row that meets fmt, with fmt's text TOLD by the authors' own Lean function (tested against real Go, not proved from fmt's source: count such statements apart). THE CARD IS WHAT COUNTS. Prove the row's statement (the work); the ties are given (YtchbhcjhoocjaaaGreatDoorTie.lean); close each card by the builder's one call (the guide's Derived/Test/ToyasCard.lean, 'card_holds'). Laid BY PROGRAM, IN A SANDBOX (cutbox-door.mjs). By AI agents, Wed Nov 11 2026. No macro, syntax, notation, axiom, sorry.
-/
import Derived.Test.YtchbhcjhoocjaaaGreatDoorRows
import GoSem.ClaimSeven
namespace Go.Proofs.YtchbhcjhoocjaaaGreatDoor
namespace Rows

/-- THE TIED CARD OF 'tipstavelaw15.LogicTables'. -/
def logicTablesCard : Claim7 := { stood := { row := logicTablesRow, standIns := [], harness := (true, "ae73519fddc374a83bd48a78c90614b870cfb7d28e551ba4e7a9441dafea70b2"), looks := true }, kinds := [], alts := [], laidByText := true, laidKinds := [.data, .handle, .widerDeep, .pinned], laidTests := true, laidLooks := .later }
def LogicTablesCardSaid : Prop := Claim7.holds Tryz.pinned (.plain (OpenSpec.ofChange logicTablesSpec)) logicTablesCard

/-- THE TIED CARD OF 'tipstavelaw15.LogicInside'. -/
def logicInsideCard : Claim7 := { stood := { row := logicInsideRow, standIns := [], harness := (true, "ae73519fddc374a83bd48a78c90614b870cfb7d28e551ba4e7a9441dafea70b2"), looks := true }, kinds := [], alts := [], laidByText := true, laidKinds := [.data, .handle, .widerDeep, .pinned], laidTests := true, laidLooks := .later }
def LogicInsideCardSaid : Prop := Claim7.holds Tryz.pinned (.plain (OpenSpec.ofChange logicInsideSpec)) logicInsideCard

/-- THE TIED CARD OF 'tipstavelaw15.LogicSames'. -/
def logicSamesCard : Claim7 := { stood := { row := logicSamesRow, standIns := [], harness := (true, "ae73519fddc374a83bd48a78c90614b870cfb7d28e551ba4e7a9441dafea70b2"), looks := true }, kinds := [], alts := [], laidByText := true, laidKinds := [.data, .handle, .widerDeep, .pinned], laidTests := true, laidLooks := .later }
def LogicSamesCardSaid : Prop := Claim7.holds Tryz.pinned (.plain (OpenSpec.ofChange logicSamesSpec)) logicSamesCard

/-- THE TIED CARD OF 'tipstavelaw15.LogicScopes'. -/
def logicScopesCard : Claim7 := { stood := { row := logicScopesRow, standIns := [], harness := (true, "ae73519fddc374a83bd48a78c90614b870cfb7d28e551ba4e7a9441dafea70b2"), looks := true }, kinds := [], alts := [], laidByText := true, laidKinds := [.data, .handle, .widerDeep, .pinned], laidTests := true, laidLooks := .later }
def LogicScopesCardSaid : Prop := Claim7.holds Tryz.pinned (.plain (OpenSpec.ofChange logicScopesSpec)) logicScopesCard

/-- THE TIED CARD OF 'tipstavelaw15.LogicFree'. -/
def logicFreeCard : Claim7 := { stood := { row := logicFreeRow, standIns := [], harness := (true, "ae73519fddc374a83bd48a78c90614b870cfb7d28e551ba4e7a9441dafea70b2"), looks := true }, kinds := [], alts := [], laidByText := true, laidKinds := [.data, .handle, .widerDeep, .pinned], laidTests := true, laidLooks := .later }
def LogicFreeCardSaid : Prop := Claim7.holds Tryz.pinned (.plain (OpenSpec.ofChange logicFreeSpec)) logicFreeCard

/-- THE SECOND FORM's CARD OF 'tipstavelaw15.LogicTables'. -/
def logicTablesUptoCard : Claim7 := { stood := { row := logicTablesUptoRow, standIns := [], harness := (true, "ae73519fddc374a83bd48a78c90614b870cfb7d28e551ba4e7a9441dafea70b2"), looks := true }, kinds := [], alts := [], laidByText := true, laidKinds := [.data, .handle, .widerDeep, .pinned], laidTests := true, laidLooks := .later }
def LogicTablesUptoCardSaid : Prop := Claim7.holds Tryz.pinned (.plain (OpenSpec.upto logicTablesSpec)) logicTablesUptoCard

/-- THE SECOND FORM's CARD OF 'tipstavelaw15.LogicInside'. -/
def logicInsideUptoCard : Claim7 := { stood := { row := logicInsideUptoRow, standIns := [], harness := (true, "ae73519fddc374a83bd48a78c90614b870cfb7d28e551ba4e7a9441dafea70b2"), looks := true }, kinds := [], alts := [], laidByText := true, laidKinds := [.data, .handle, .widerDeep, .pinned], laidTests := true, laidLooks := .later }
def LogicInsideUptoCardSaid : Prop := Claim7.holds Tryz.pinned (.plain (OpenSpec.upto logicInsideSpec)) logicInsideUptoCard

/-- THE SECOND FORM's CARD OF 'tipstavelaw15.LogicSames'. -/
def logicSamesUptoCard : Claim7 := { stood := { row := logicSamesUptoRow, standIns := [], harness := (true, "ae73519fddc374a83bd48a78c90614b870cfb7d28e551ba4e7a9441dafea70b2"), looks := true }, kinds := [], alts := [], laidByText := true, laidKinds := [.data, .handle, .widerDeep, .pinned], laidTests := true, laidLooks := .later }
def LogicSamesUptoCardSaid : Prop := Claim7.holds Tryz.pinned (.plain (OpenSpec.upto logicSamesSpec)) logicSamesUptoCard

/-- THE SECOND FORM's CARD OF 'tipstavelaw15.LogicScopes'. -/
def logicScopesUptoCard : Claim7 := { stood := { row := logicScopesUptoRow, standIns := [], harness := (true, "ae73519fddc374a83bd48a78c90614b870cfb7d28e551ba4e7a9441dafea70b2"), looks := true }, kinds := [], alts := [], laidByText := true, laidKinds := [.data, .handle, .widerDeep, .pinned], laidTests := true, laidLooks := .later }
def LogicScopesUptoCardSaid : Prop := Claim7.holds Tryz.pinned (.plain (OpenSpec.upto logicScopesSpec)) logicScopesUptoCard

/-- THE SECOND FORM's CARD OF 'tipstavelaw15.LogicFree'. -/
def logicFreeUptoCard : Claim7 := { stood := { row := logicFreeUptoRow, standIns := [], harness := (true, "ae73519fddc374a83bd48a78c90614b870cfb7d28e551ba4e7a9441dafea70b2"), looks := true }, kinds := [], alts := [], laidByText := true, laidKinds := [.data, .handle, .widerDeep, .pinned], laidTests := true, laidLooks := .later }
def LogicFreeUptoCardSaid : Prop := Claim7.holds Tryz.pinned (.plain (OpenSpec.upto logicFreeSpec)) logicFreeUptoCard
end Rows
end Go.Proofs.YtchbhcjhoocjaaaGreatDoor
