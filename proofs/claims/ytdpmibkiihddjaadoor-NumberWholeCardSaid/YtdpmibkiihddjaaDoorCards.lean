/-
  DERIVED. GIVEN WITH THE SEED: THE CARDS: each row of YtdpmibkiihddjaaDoorRows.lean that lists a variable, with what it lists TIED to the program's text (the seventh form; the later family's looks); each row that meets fmt, with fmt's text TOLD by the authors' own Lean function (tested against real Go, not proved from fmt's source: count such statements apart). THE CARD IS WHAT COUNTS. Prove the row's statement (the work); the ties are given (YtdpmibkiihddjaaDoorTie.lean); close each card by the builder's one call (the guide's Derived/Test/ToyasCard.lean, 'card_holds'). Laid BY PROGRAM, IN A SANDBOX (cutbox-door.mjs). By AI agents, Wed Nov 11 2026. No macro, syntax, notation, axiom, sorry.
-/
import Derived.Test.YtdpmibkiihddjaaDoorRows
import GoSem.ClaimSeven
namespace Go.Proofs.YtdpmibkiihddjaaDoor
namespace Rows

/-- THE TIED CARD OF 'tipstavelaw07.NumberReads'. -/
def numberReadsCard : Claim7 := { stood := { row := numberReadsRow, standIns := [], harness := (true, "670403704ceb58220ca864efa0c2442f62745f07f374172aa00a45afbbff17ce"), looks := true }, kinds := [], alts := [], laidByText := true, laidKinds := [.data, .handle, .pinned], laidTests := true, laidLooks := .later }
def NumberReadsCardSaid : Prop := Claim7.holds Tryd.pinned (.plain (OpenSpec.ofChange numberReadsSpec)) numberReadsCard

/-- THE TIED CARD OF 'tipstavelaw07.NumberForms'. -/
def numberFormsCard : Claim7 := { stood := { row := numberFormsRow, standIns := [], harness := (true, "670403704ceb58220ca864efa0c2442f62745f07f374172aa00a45afbbff17ce"), looks := true }, kinds := [], alts := [], laidByText := true, laidKinds := [.data, .handle, .pinned], laidTests := true, laidLooks := .later }
def NumberFormsCardSaid : Prop := Claim7.holds Tryd.pinned (.plain (OpenSpec.ofChange numberFormsSpec)) numberFormsCard

/-- THE TIED CARD OF 'tipstavelaw07.NumberSums'. -/
def numberSumsCard : Claim7 := { stood := { row := numberSumsRow, standIns := [], harness := (true, "670403704ceb58220ca864efa0c2442f62745f07f374172aa00a45afbbff17ce"), looks := true }, kinds := [], alts := [], laidByText := true, laidKinds := [.data, .handle, .pinned], laidTests := true, laidLooks := .later }
def NumberSumsCardSaid : Prop := Claim7.holds Tryd.pinned (.plain (OpenSpec.ofChange numberSumsSpec)) numberSumsCard

/-- THE TIED CARD OF 'tipstavelaw07.NumberOrder'. -/
def numberOrderCard : Claim7 := { stood := { row := numberOrderRow, standIns := [], harness := (true, "670403704ceb58220ca864efa0c2442f62745f07f374172aa00a45afbbff17ce"), looks := true }, kinds := [], alts := [], laidByText := true, laidKinds := [.data, .handle, .pinned], laidTests := true, laidLooks := .later }
def NumberOrderCardSaid : Prop := Claim7.holds Tryd.pinned (.plain (OpenSpec.ofChange numberOrderSpec)) numberOrderCard

/-- THE TIED CARD OF 'tipstavelaw07.NumberWhole'. -/
def numberWholeCard : Claim7 := { stood := { row := numberWholeRow, standIns := [], harness := (true, "670403704ceb58220ca864efa0c2442f62745f07f374172aa00a45afbbff17ce"), looks := true }, kinds := [], alts := [], laidByText := true, laidKinds := [.data, .handle, .pinned], laidTests := true, laidLooks := .later }
def NumberWholeCardSaid : Prop := Claim7.holds Tryd.pinned (.plain (OpenSpec.ofChange numberWholeSpec)) numberWholeCard

/-- THE SECOND FORM's CARD OF 'tipstavelaw07.NumberReads'. -/
def numberReadsUptoCard : Claim7 := { stood := { row := numberReadsUptoRow, standIns := [], harness := (true, "670403704ceb58220ca864efa0c2442f62745f07f374172aa00a45afbbff17ce"), looks := true }, kinds := [], alts := [], laidByText := true, laidKinds := [.data, .handle, .pinned], laidTests := true, laidLooks := .later }
def NumberReadsUptoCardSaid : Prop := Claim7.holds Tryd.pinned (.plain (OpenSpec.upto numberReadsSpec)) numberReadsUptoCard

/-- THE SECOND FORM's CARD OF 'tipstavelaw07.NumberForms'. -/
def numberFormsUptoCard : Claim7 := { stood := { row := numberFormsUptoRow, standIns := [], harness := (true, "670403704ceb58220ca864efa0c2442f62745f07f374172aa00a45afbbff17ce"), looks := true }, kinds := [], alts := [], laidByText := true, laidKinds := [.data, .handle, .pinned], laidTests := true, laidLooks := .later }
def NumberFormsUptoCardSaid : Prop := Claim7.holds Tryd.pinned (.plain (OpenSpec.upto numberFormsSpec)) numberFormsUptoCard

/-- THE SECOND FORM's CARD OF 'tipstavelaw07.NumberSums'. -/
def numberSumsUptoCard : Claim7 := { stood := { row := numberSumsUptoRow, standIns := [], harness := (true, "670403704ceb58220ca864efa0c2442f62745f07f374172aa00a45afbbff17ce"), looks := true }, kinds := [], alts := [], laidByText := true, laidKinds := [.data, .handle, .pinned], laidTests := true, laidLooks := .later }
def NumberSumsUptoCardSaid : Prop := Claim7.holds Tryd.pinned (.plain (OpenSpec.upto numberSumsSpec)) numberSumsUptoCard

/-- THE SECOND FORM's CARD OF 'tipstavelaw07.NumberOrder'. -/
def numberOrderUptoCard : Claim7 := { stood := { row := numberOrderUptoRow, standIns := [], harness := (true, "670403704ceb58220ca864efa0c2442f62745f07f374172aa00a45afbbff17ce"), looks := true }, kinds := [], alts := [], laidByText := true, laidKinds := [.data, .handle, .pinned], laidTests := true, laidLooks := .later }
def NumberOrderUptoCardSaid : Prop := Claim7.holds Tryd.pinned (.plain (OpenSpec.upto numberOrderSpec)) numberOrderUptoCard

/-- THE SECOND FORM's CARD OF 'tipstavelaw07.NumberWhole'. -/
def numberWholeUptoCard : Claim7 := { stood := { row := numberWholeUptoRow, standIns := [], harness := (true, "670403704ceb58220ca864efa0c2442f62745f07f374172aa00a45afbbff17ce"), looks := true }, kinds := [], alts := [], laidByText := true, laidKinds := [.data, .handle, .pinned], laidTests := true, laidLooks := .later }
def NumberWholeUptoCardSaid : Prop := Claim7.holds Tryd.pinned (.plain (OpenSpec.upto numberWholeSpec)) numberWholeUptoCard
end Rows
end Go.Proofs.YtdpmibkiihddjaaDoor
