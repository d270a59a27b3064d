/-
  DERIVED. GIVEN WITH THE SEED: THE CARDS: each row of YtojeclfcgnamoaaDoorRows.lean that lists a variable, with what it lists TIED to the program's text (the seventh form; the later family's looks); each row that meets fmt, with fmt's text TOLD by the authors' own Lean function (tested against real Go, not proved from fmt's source: count such statements apart). THE CARD IS WHAT COUNTS. Prove the row's statement (the work); the ties are given (YtojeclfcgnamoaaDoorTie.lean); close each card by the builder's one call (the guide's Derived/Test/ToyasCard.lean, 'card_holds'). Laid BY PROGRAM, IN A SANDBOX (cutbox-door.mjs). By AI agents, Wed Nov 11 2026. No macro, syntax, notation, axiom, sorry.
-/
import Derived.Test.YtojeclfcgnamoaaDoorRows
import GoSem.ClaimSeven
namespace Go.Proofs.YtojeclfcgnamoaaDoor
namespace Rows

/-- THE TIED CARD OF 'tipstavelaw06.XmloutWrites'. -/
def xmloutWritesCard : Claim7 := { stood := { row := xmloutWritesRow, standIns := [], harness := (true, "b434804299fbc1f4fde5c8f576b68115a521cb84e6837373338834f86fc9b295"), looks := false }, kinds := [], alts := [], laidByText := true, laidKinds := [.data, .data, .data, .data, .pinned], laidTests := true, laidLooks := .later }
def XmloutWritesCardSaid : Prop := Claim7.holds Tryd.pinned (.plain (OpenSpec.ofChange xmloutWritesSpec)) xmloutWritesCard

/-- THE TIED CARD OF 'tipstavelaw06.XmloutOne'. -/
def xmloutOneCard : Claim7 := { stood := { row := xmloutOneRow, standIns := [], harness := (true, "b434804299fbc1f4fde5c8f576b68115a521cb84e6837373338834f86fc9b295"), looks := false }, kinds := [], alts := [], laidByText := true, laidKinds := [.data, .data, .data, .data, .pinned], laidTests := true, laidLooks := .later }
def XmloutOneCardSaid : Prop := Claim7.holds Tryd.pinned (.plain (OpenSpec.ofChange xmloutOneSpec)) xmloutOneCard

/-- THE TIED CARD OF 'tipstavelaw06.XmloutSpaces'. -/
def xmloutSpacesCard : Claim7 := { stood := { row := xmloutSpacesRow, standIns := [], harness := (true, "b434804299fbc1f4fde5c8f576b68115a521cb84e6837373338834f86fc9b295"), looks := false }, kinds := [], alts := [], laidByText := true, laidKinds := [.data, .data, .data, .data, .pinned], laidTests := true, laidLooks := .later }
def XmloutSpacesCardSaid : Prop := Claim7.holds Tryd.pinned (.plain (OpenSpec.ofChange xmloutSpacesSpec)) xmloutSpacesCard

/-- THE SECOND FORM's CARD OF 'tipstavelaw06.XmloutWrites'. -/
def xmloutWritesUptoCard : Claim7 := { stood := { row := xmloutWritesUptoRow, standIns := [], harness := (true, "b434804299fbc1f4fde5c8f576b68115a521cb84e6837373338834f86fc9b295"), looks := false }, kinds := [], alts := [], laidByText := true, laidKinds := [.data, .data, .data, .data, .pinned], laidTests := true, laidLooks := .later }
def XmloutWritesUptoCardSaid : Prop := Claim7.holds Tryd.pinned (.plain (OpenSpec.upto xmloutWritesSpec)) xmloutWritesUptoCard

/-- THE SECOND FORM's CARD OF 'tipstavelaw06.XmloutOne'. -/
def xmloutOneUptoCard : Claim7 := { stood := { row := xmloutOneUptoRow, standIns := [], harness := (true, "b434804299fbc1f4fde5c8f576b68115a521cb84e6837373338834f86fc9b295"), looks := false }, kinds := [], alts := [], laidByText := true, laidKinds := [.data, .data, .data, .data, .pinned], laidTests := true, laidLooks := .later }
def XmloutOneUptoCardSaid : Prop := Claim7.holds Tryd.pinned (.plain (OpenSpec.upto xmloutOneSpec)) xmloutOneUptoCard

/-- THE SECOND FORM's CARD OF 'tipstavelaw06.XmloutSpaces'. -/
def xmloutSpacesUptoCard : Claim7 := { stood := { row := xmloutSpacesUptoRow, standIns := [], harness := (true, "b434804299fbc1f4fde5c8f576b68115a521cb84e6837373338834f86fc9b295"), looks := false }, kinds := [], alts := [], laidByText := true, laidKinds := [.data, .data, .data, .data, .pinned], laidTests := true, laidLooks := .later }
def XmloutSpacesUptoCardSaid : Prop := Claim7.holds Tryd.pinned (.plain (OpenSpec.upto xmloutSpacesSpec)) xmloutSpacesUptoCard
end Rows
end Go.Proofs.YtojeclfcgnamoaaDoor
