/-
  DERIVED. GIVEN WITH THE SEED: THE CARDS: each row of YtpenfnabeckboaaGreatDoorRows.lean that lists a variable, with what it lists TIED to the program's text (the seventh form; the later family's looks); each row that meets fmt, with fmt's text TOLD by the authors' own Lean function (tested against real Go, not proved from fmt's source: count such statements apart). THE CARD IS WHAT COUNTS. Prove the row's statement (the work); the ties are given (YtpenfnabeckboaaGreatDoorTie.lean); close each card by the builder's one call (the guide's Derived/Test/ToyasCard.lean, 'card_holds'). Laid BY PROGRAM, IN A SANDBOX (cutbox-door.mjs). By AI agents, Wed Nov 11 2026. No macro, syntax, notation, axiom, sorry.
-/
import Derived.Test.YtpenfnabeckboaaGreatDoorRows
import GoSem.ClaimSeven
namespace Go.Proofs.YtpenfnabeckboaaGreatDoor
namespace Rows

/-- THE TIED CARD OF 'tipstavelaw11.FeelprintParts'. -/
def feelprintPartsCard : Claim7 := { stood := { row := feelprintPartsRow, standIns := [], harness := (true, "546fe36bd82911dc82b2188fc994bcf94cf4eb872b506c2bc7df18165b7cfe6d"), looks := true }, kinds := [], alts := [], laidByText := true, laidKinds := [.data, .handle, .pinned], laidTests := true, laidLooks := .later }
def FeelprintPartsCardSaid : Prop := Claim7.holds Tryz.pinned (.plain (OpenSpec.ofChange feelprintPartsSpec)) feelprintPartsCard

/-- THE TIED CARD OF 'tipstavelaw11.FeelprintPrecedes'. -/
def feelprintPrecedesCard : Claim7 := { stood := { row := feelprintPrecedesRow, standIns := [], harness := (true, "546fe36bd82911dc82b2188fc994bcf94cf4eb872b506c2bc7df18165b7cfe6d"), looks := true }, kinds := [], alts := [], laidByText := true, laidKinds := [.data, .handle, .pinned], laidTests := true, laidLooks := .later }
def FeelprintPrecedesCardSaid : Prop := Claim7.holds Tryz.pinned (.plain (OpenSpec.ofChange feelprintPrecedesSpec)) feelprintPrecedesCard

/-- THE TIED CARD OF 'tipstavelaw11.FeelprintLexes'. -/
def feelprintLexesCard : Claim7 := { stood := { row := feelprintLexesRow, standIns := [], harness := (true, "546fe36bd82911dc82b2188fc994bcf94cf4eb872b506c2bc7df18165b7cfe6d"), looks := true }, kinds := [], alts := [], laidByText := true, laidKinds := [.data, .data, .data, .data, .handle, .sentinel, .sentinel, .data, .pinned], laidTests := true, laidLooks := .later }
def FeelprintLexesCardSaid : Prop := Claim7.holds Tryz.pinned (.plain (OpenSpec.ofChange feelprintLexesSpec)) feelprintLexesCard

/-- THE TIED CARD OF 'tipstavelaw11.FeelprintPairs'. -/
def feelprintPairsCard : Claim7 := { stood := { row := feelprintPairsRow, standIns := [], harness := (true, "546fe36bd82911dc82b2188fc994bcf94cf4eb872b506c2bc7df18165b7cfe6d"), looks := true }, kinds := [], alts := [], laidByText := true, laidKinds := [.data, .data, .data, .data, .handle, .sentinel, .sentinel, .data, .pinned], laidTests := true, laidLooks := .later }
def FeelprintPairsCardSaid : Prop := Claim7.holds Tryz.pinned (.plain (OpenSpec.ofChange feelprintPairsSpec)) feelprintPairsCard

/-- THE SECOND FORM's CARD OF 'tipstavelaw11.FeelprintParts'. -/
def feelprintPartsUptoCard : Claim7 := { stood := { row := feelprintPartsUptoRow, standIns := [], harness := (true, "546fe36bd82911dc82b2188fc994bcf94cf4eb872b506c2bc7df18165b7cfe6d"), looks := true }, kinds := [], alts := [], laidByText := true, laidKinds := [.data, .handle, .pinned], laidTests := true, laidLooks := .later }
def FeelprintPartsUptoCardSaid : Prop := Claim7.holds Tryz.pinned (.plain (OpenSpec.upto feelprintPartsSpec)) feelprintPartsUptoCard

/-- THE SECOND FORM's CARD OF 'tipstavelaw11.FeelprintPrecedes'. -/
def feelprintPrecedesUptoCard : Claim7 := { stood := { row := feelprintPrecedesUptoRow, standIns := [], harness := (true, "546fe36bd82911dc82b2188fc994bcf94cf4eb872b506c2bc7df18165b7cfe6d"), looks := true }, kinds := [], alts := [], laidByText := true, laidKinds := [.data, .handle, .pinned], laidTests := true, laidLooks := .later }
def FeelprintPrecedesUptoCardSaid : Prop := Claim7.holds Tryz.pinned (.plain (OpenSpec.upto feelprintPrecedesSpec)) feelprintPrecedesUptoCard

/-- THE SECOND FORM's CARD OF 'tipstavelaw11.FeelprintLexes'. -/
def feelprintLexesUptoCard : Claim7 := { stood := { row := feelprintLexesUptoRow, standIns := [], harness := (true, "546fe36bd82911dc82b2188fc994bcf94cf4eb872b506c2bc7df18165b7cfe6d"), looks := true }, kinds := [], alts := [], laidByText := true, laidKinds := [.data, .data, .data, .data, .handle, .sentinel, .sentinel, .data, .pinned], laidTests := true, laidLooks := .later }
def FeelprintLexesUptoCardSaid : Prop := Claim7.holds Tryz.pinned (.plain (OpenSpec.upto feelprintLexesSpec)) feelprintLexesUptoCard

/-- THE SECOND FORM's CARD OF 'tipstavelaw11.FeelprintPairs'. -/
def feelprintPairsUptoCard : Claim7 := { stood := { row := feelprintPairsUptoRow, standIns := [], harness := (true, "546fe36bd82911dc82b2188fc994bcf94cf4eb872b506c2bc7df18165b7cfe6d"), looks := true }, kinds := [], alts := [], laidByText := true, laidKinds := [.data, .data, .data, .data, .handle, .sentinel, .sentinel, .data, .pinned], laidTests := true, laidLooks := .later }
def FeelprintPairsUptoCardSaid : Prop := Claim7.holds Tryz.pinned (.plain (OpenSpec.upto feelprintPairsSpec)) feelprintPairsUptoCard
end Rows
end Go.Proofs.YtpenfnabeckboaaGreatDoor
