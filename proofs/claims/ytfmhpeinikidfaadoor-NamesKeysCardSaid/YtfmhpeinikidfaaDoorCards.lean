/-
  DERIVED. GIVEN WITH THE SEED: THE CARDS: each row of YtfmhpeinikidfaaDoorRows.lean that lists a variable, with what it lists TIED to the program's text (the seventh form; the later family's looks); each row that meets fmt, with fmt's text TOLD by the authors' own Lean function (tested against real Go, not proved from fmt's source: count such statements apart). THE CARD IS WHAT COUNTS. Prove the row's statement (the work); the ties are given (YtfmhpeinikidfaaDoorTie.lean); close each card by the builder's one call (the guide's Derived/Test/ToyasCard.lean, 'card_holds'). Laid BY PROGRAM, IN A SANDBOX (cutbox-door.mjs). By AI agents, Wed Nov 11 2026. No macro, syntax, notation, axiom, sorry.
-/
import Derived.Test.YtfmhpeinikidfaaDoorRows
import GoSem.ClaimSeven
namespace Go.Proofs.YtfmhpeinikidfaaDoor
namespace Rows

/-- THE TIED CARD OF 'tipstavelaw02.NamesSplits'. -/
def namesSplitsCard : Claim7 := { stood := { row := namesSplitsRow, standIns := [], harness := (true, "98e4b4c7ca4d3bb4eafa5c5904a51714ea9345c7cdfb1114252a906ff14c685c"), looks := false }, kinds := [], alts := [], laidByText := true, laidKinds := [.data, .pinned], laidTests := true, laidLooks := .later }
def NamesSplitsCardSaid : Prop := Claim7.holds Tryd.pinned (.plain (OpenSpec.ofChange namesSplitsSpec)) namesSplitsCard

/-- THE TIED CARD OF 'tipstavelaw02.NamesPrefix'. -/
def namesPrefixCard : Claim7 := { stood := { row := namesPrefixRow, standIns := [], harness := (true, "98e4b4c7ca4d3bb4eafa5c5904a51714ea9345c7cdfb1114252a906ff14c685c"), looks := false }, kinds := [], alts := [], laidByText := true, laidKinds := [.data, .pinned], laidTests := true, laidLooks := .later }
def NamesPrefixCardSaid : Prop := Claim7.holds Tryd.pinned (.plain (OpenSpec.ofChange namesPrefixSpec)) namesPrefixCard

/-- THE TIED CARD OF 'tipstavelaw02.NamesWords'. -/
def namesWordsCard : Claim7 := { stood := { row := namesWordsRow, standIns := [], harness := (true, "98e4b4c7ca4d3bb4eafa5c5904a51714ea9345c7cdfb1114252a906ff14c685c"), looks := false }, kinds := [], alts := [], laidByText := true, laidKinds := [.data, .pinned], laidTests := true, laidLooks := .later }
def NamesWordsCardSaid : Prop := Claim7.holds Tryd.pinned (.plain (OpenSpec.ofChange namesWordsSpec)) namesWordsCard

/-- THE TIED CARD OF 'tipstavelaw02.NamesKeys'. -/
def namesKeysCard : Claim7 := { stood := { row := namesKeysRow, standIns := [], harness := (true, "98e4b4c7ca4d3bb4eafa5c5904a51714ea9345c7cdfb1114252a906ff14c685c"), looks := false }, kinds := [], alts := [], laidByText := true, laidKinds := [.data, .pinned], laidTests := true, laidLooks := .later }
def NamesKeysCardSaid : Prop := Claim7.holds Tryd.pinned (.plain (OpenSpec.ofChange namesKeysSpec)) namesKeysCard

/-- THE TIED CARD OF 'tipstavelaw02.NamesJoins'. -/
def namesJoinsCard : Claim7 := { stood := { row := namesJoinsRow, standIns := [], harness := (true, "98e4b4c7ca4d3bb4eafa5c5904a51714ea9345c7cdfb1114252a906ff14c685c"), looks := false }, kinds := [], alts := [], laidByText := true, laidKinds := [.data, .pinned], laidTests := true, laidLooks := .later }
def NamesJoinsCardSaid : Prop := Claim7.holds Tryd.pinned (.plain (OpenSpec.ofChange namesJoinsSpec)) namesJoinsCard

/-- THE TIED CARD OF 'tipstavelaw02.NamesParts'. -/
def namesPartsCard : Claim7 := { stood := { row := namesPartsRow, standIns := [], harness := (true, "98e4b4c7ca4d3bb4eafa5c5904a51714ea9345c7cdfb1114252a906ff14c685c"), looks := false }, kinds := [], alts := [], laidByText := true, laidKinds := [.data, .pinned], laidTests := true, laidLooks := .later }
def NamesPartsCardSaid : Prop := Claim7.holds Tryd.pinned (.plain (OpenSpec.ofChange namesPartsSpec)) namesPartsCard

/-- THE SECOND FORM's CARD OF 'tipstavelaw02.NamesSplits'. -/
def namesSplitsUptoCard : Claim7 := { stood := { row := namesSplitsUptoRow, standIns := [], harness := (true, "98e4b4c7ca4d3bb4eafa5c5904a51714ea9345c7cdfb1114252a906ff14c685c"), looks := false }, kinds := [], alts := [], laidByText := true, laidKinds := [.data, .pinned], laidTests := true, laidLooks := .later }
def NamesSplitsUptoCardSaid : Prop := Claim7.holds Tryd.pinned (.plain (OpenSpec.upto namesSplitsSpec)) namesSplitsUptoCard

/-- THE SECOND FORM's CARD OF 'tipstavelaw02.NamesPrefix'. -/
def namesPrefixUptoCard : Claim7 := { stood := { row := namesPrefixUptoRow, standIns := [], harness := (true, "98e4b4c7ca4d3bb4eafa5c5904a51714ea9345c7cdfb1114252a906ff14c685c"), looks := false }, kinds := [], alts := [], laidByText := true, laidKinds := [.data, .pinned], laidTests := true, laidLooks := .later }
def NamesPrefixUptoCardSaid : Prop := Claim7.holds Tryd.pinned (.plain (OpenSpec.upto namesPrefixSpec)) namesPrefixUptoCard

/-- THE SECOND FORM's CARD OF 'tipstavelaw02.NamesWords'. -/
def namesWordsUptoCard : Claim7 := { stood := { row := namesWordsUptoRow, standIns := [], harness := (true, "98e4b4c7ca4d3bb4eafa5c5904a51714ea9345c7cdfb1114252a906ff14c685c"), looks := false }, kinds := [], alts := [], laidByText := true, laidKinds := [.data, .pinned], laidTests := true, laidLooks := .later }
def NamesWordsUptoCardSaid : Prop := Claim7.holds Tryd.pinned (.plain (OpenSpec.upto namesWordsSpec)) namesWordsUptoCard

/-- THE SECOND FORM's CARD OF 'tipstavelaw02.NamesKeys'. -/
def namesKeysUptoCard : Claim7 := { stood := { row := namesKeysUptoRow, standIns := [], harness := (true, "98e4b4c7ca4d3bb4eafa5c5904a51714ea9345c7cdfb1114252a906ff14c685c"), looks := false }, kinds := [], alts := [], laidByText := true, laidKinds := [.data, .pinned], laidTests := true, laidLooks := .later }
def NamesKeysUptoCardSaid : Prop := Claim7.holds Tryd.pinned (.plain (OpenSpec.upto namesKeysSpec)) namesKeysUptoCard

/-- THE SECOND FORM's CARD OF 'tipstavelaw02.NamesJoins'. -/
def namesJoinsUptoCard : Claim7 := { stood := { row := namesJoinsUptoRow, standIns := [], harness := (true, "98e4b4c7ca4d3bb4eafa5c5904a51714ea9345c7cdfb1114252a906ff14c685c"), looks := false }, kinds := [], alts := [], laidByText := true, laidKinds := [.data, .pinned], laidTests := true, laidLooks := .later }
def NamesJoinsUptoCardSaid : Prop := Claim7.holds Tryd.pinned (.plain (OpenSpec.upto namesJoinsSpec)) namesJoinsUptoCard

/-- THE SECOND FORM's CARD OF 'tipstavelaw02.NamesParts'. -/
def namesPartsUptoCard : Claim7 := { stood := { row := namesPartsUptoRow, standIns := [], harness := (true, "98e4b4c7ca4d3bb4eafa5c5904a51714ea9345c7cdfb1114252a906ff14c685c"), looks := false }, kinds := [], alts := [], laidByText := true, laidKinds := [.data, .pinned], laidTests := true, laidLooks := .later }
def NamesPartsUptoCardSaid : Prop := Claim7.holds Tryd.pinned (.plain (OpenSpec.upto namesPartsSpec)) namesPartsUptoCard
end Rows
end Go.Proofs.YtfmhpeinikidfaaDoor
