/-
  DERIVED. GIVEN WITH THE SEED: THE CARDS: each row of YtjnaikojoemkaaaGreatDoorRows.lean that lists a variable, with what it lists TIED to the program's text (the seventh form; the later family's looks); each row that meets fmt, with fmt's text TOLD by the authors' own Lean function (tested against real Go, not proved from fmt's source: count such statements apart). THE CARD IS WHAT COUNTS. Prove the row's statement (the work); the ties are given (YtjnaikojoemkaaaGreatDoorTie.lean); close each card by the builder's one call (the guide's Derived/Test/ToyasCard.lean, 'card_holds'). Laid BY PROGRAM, IN A SANDBOX (cutbox-door.mjs). By AI agents, Wed Nov 11 2026. No macro, syntax, notation, axiom, sorry.
-/
import Derived.Test.YtjnaikojoemkaaaGreatDoorRows
import GoSem.ClaimSeven
namespace Go.Proofs.YtjnaikojoemkaaaGreatDoor
namespace Rows

/-- THE TIED CARD OF 'tipstavelaw08.FeellexReads'. -/
def feellexReadsCard : Claim7 := { stood := { row := feellexReadsRow, standIns := [], harness := (true, "39bfd802edf689371720ef309e78412bef06caff197e69eb0ccd1c3bb5a0960b"), looks := true }, kinds := [], alts := [], laidByText := true, laidKinds := [.data, .data, .data, .data, .sentinel, .sentinel, .data, .pinned], laidTests := true, laidLooks := .later }
def FeellexReadsCardSaid : Prop := Claim7.holds Tryz.pinned (.plain (OpenSpec.ofChange feellexReadsSpec)) feellexReadsCard

/-- THE TIED CARD OF 'tipstavelaw08.FeellexTexts'. -/
def feellexTextsCard : Claim7 := { stood := { row := feellexTextsRow, standIns := [], harness := (true, "39bfd802edf689371720ef309e78412bef06caff197e69eb0ccd1c3bb5a0960b"), looks := true }, kinds := [], alts := [], laidByText := true, laidKinds := [.data, .data, .data, .data, .sentinel, .sentinel, .data, .pinned], laidTests := true, laidLooks := .later }
def FeellexTextsCardSaid : Prop := Claim7.holds Tryz.pinned (.plain (OpenSpec.ofChange feellexTextsSpec)) feellexTextsCard

/-- THE SECOND FORM's CARD OF 'tipstavelaw08.FeellexReads'. -/
def feellexReadsUptoCard : Claim7 := { stood := { row := feellexReadsUptoRow, standIns := [], harness := (true, "39bfd802edf689371720ef309e78412bef06caff197e69eb0ccd1c3bb5a0960b"), looks := true }, kinds := [], alts := [], laidByText := true, laidKinds := [.data, .data, .data, .data, .sentinel, .sentinel, .data, .pinned], laidTests := true, laidLooks := .later }
def FeellexReadsUptoCardSaid : Prop := Claim7.holds Tryz.pinned (.plain (OpenSpec.upto feellexReadsSpec)) feellexReadsUptoCard

/-- THE SECOND FORM's CARD OF 'tipstavelaw08.FeellexTexts'. -/
def feellexTextsUptoCard : Claim7 := { stood := { row := feellexTextsUptoRow, standIns := [], harness := (true, "39bfd802edf689371720ef309e78412bef06caff197e69eb0ccd1c3bb5a0960b"), looks := true }, kinds := [], alts := [], laidByText := true, laidKinds := [.data, .data, .data, .data, .sentinel, .sentinel, .data, .pinned], laidTests := true, laidLooks := .later }
def FeellexTextsUptoCardSaid : Prop := Claim7.holds Tryz.pinned (.plain (OpenSpec.upto feellexTextsSpec)) feellexTextsUptoCard
end Rows
end Go.Proofs.YtjnaikojoemkaaaGreatDoor
