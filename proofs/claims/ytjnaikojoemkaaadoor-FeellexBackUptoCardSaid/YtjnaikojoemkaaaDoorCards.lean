/-
  DERIVED. GIVEN WITH THE SEED: THE CARDS: each row of YtjnaikojoemkaaaDoorRows.lean that lists a variable, with what it lists TIED to the program's text (the seventh form; the later family's looks); each row that meets fmt, with fmt's text TOLD by the authors' own Lean function (tested against real Go, not proved from fmt's source: count such statements apart). THE CARD IS WHAT COUNTS. Prove the row's statement (the work); the ties are given (YtjnaikojoemkaaaDoorTie.lean); close each card by the builder's one call (the guide's Derived/Test/ToyasCard.lean, 'card_holds'). Laid BY PROGRAM, IN A SANDBOX (cutbox-door.mjs). By AI agents, Wed Nov 11 2026. No macro, syntax, notation, axiom, sorry.
-/
import Derived.Test.YtjnaikojoemkaaaDoorRows
import GoSem.ClaimSeven
namespace Go.Proofs.YtjnaikojoemkaaaDoor
namespace Rows

/-- THE TIED CARD OF 'tipstavelaw08.FeellexJoins'. -/
def feellexJoinsCard : Claim7 := { stood := { row := feellexJoinsRow, standIns := [], harness := (true, "702b0eca1acf7e23bd41bac8c0556d7f19493631360e5d251944b5fafa171202"), looks := true }, kinds := [], alts := [], laidByText := true, laidKinds := [.data, .data, .data, .data, .sentinel, .sentinel, .data, .pinned], laidTests := true, laidLooks := .later }
def FeellexJoinsCardSaid : Prop := Claim7.holds Tryd.pinned (.plain (OpenSpec.ofChange feellexJoinsSpec)) feellexJoinsCard

/-- THE TIED CARD OF 'tipstavelaw08.FeellexSigns'. -/
def feellexSignsCard : Claim7 := { stood := { row := feellexSignsRow, standIns := [], harness := (true, "702b0eca1acf7e23bd41bac8c0556d7f19493631360e5d251944b5fafa171202"), looks := true }, kinds := [], alts := [], laidByText := true, laidKinds := [.data, .data, .data, .data, .sentinel, .sentinel, .data, .pinned], laidTests := true, laidLooks := .later }
def FeellexSignsCardSaid : Prop := Claim7.holds Tryd.pinned (.plain (OpenSpec.ofChange feellexSignsSpec)) feellexSignsCard

/-- THE TIED CARD OF 'tipstavelaw08.FeellexQuotes'. -/
def feellexQuotesCard : Claim7 := { stood := { row := feellexQuotesRow, standIns := [], harness := (true, "702b0eca1acf7e23bd41bac8c0556d7f19493631360e5d251944b5fafa171202"), looks := true }, kinds := [], alts := [], laidByText := true, laidKinds := [.data, .data, .data, .data, .sentinel, .sentinel, .data, .pinned], laidTests := true, laidLooks := .later }
def FeellexQuotesCardSaid : Prop := Claim7.holds Tryd.pinned (.plain (OpenSpec.ofChange feellexQuotesSpec)) feellexQuotesCard

/-- THE TIED CARD OF 'tipstavelaw08.FeellexBack'. -/
def feellexBackCard : Claim7 := { stood := { row := feellexBackRow, standIns := [], harness := (true, "702b0eca1acf7e23bd41bac8c0556d7f19493631360e5d251944b5fafa171202"), looks := true }, kinds := [], alts := [], laidByText := true, laidKinds := [.data, .data, .data, .data, .sentinel, .sentinel, .data, .pinned], laidTests := true, laidLooks := .later }
def FeellexBackCardSaid : Prop := Claim7.holds Tryd.pinned (.plain (OpenSpec.ofChange feellexBackSpec)) feellexBackCard

/-- THE SECOND FORM's CARD OF 'tipstavelaw08.FeellexJoins'. -/
def feellexJoinsUptoCard : Claim7 := { stood := { row := feellexJoinsUptoRow, standIns := [], harness := (true, "702b0eca1acf7e23bd41bac8c0556d7f19493631360e5d251944b5fafa171202"), looks := true }, kinds := [], alts := [], laidByText := true, laidKinds := [.data, .data, .data, .data, .sentinel, .sentinel, .data, .pinned], laidTests := true, laidLooks := .later }
def FeellexJoinsUptoCardSaid : Prop := Claim7.holds Tryd.pinned (.plain (OpenSpec.upto feellexJoinsSpec)) feellexJoinsUptoCard

/-- THE SECOND FORM's CARD OF 'tipstavelaw08.FeellexSigns'. -/
def feellexSignsUptoCard : Claim7 := { stood := { row := feellexSignsUptoRow, standIns := [], harness := (true, "702b0eca1acf7e23bd41bac8c0556d7f19493631360e5d251944b5fafa171202"), looks := true }, kinds := [], alts := [], laidByText := true, laidKinds := [.data, .data, .data, .data, .sentinel, .sentinel, .data, .pinned], laidTests := true, laidLooks := .later }
def FeellexSignsUptoCardSaid : Prop := Claim7.holds Tryd.pinned (.plain (OpenSpec.upto feellexSignsSpec)) feellexSignsUptoCard

/-- THE SECOND FORM's CARD OF 'tipstavelaw08.FeellexQuotes'. -/
def feellexQuotesUptoCard : Claim7 := { stood := { row := feellexQuotesUptoRow, standIns := [], harness := (true, "702b0eca1acf7e23bd41bac8c0556d7f19493631360e5d251944b5fafa171202"), looks := true }, kinds := [], alts := [], laidByText := true, laidKinds := [.data, .data, .data, .data, .sentinel, .sentinel, .data, .pinned], laidTests := true, laidLooks := .later }
def FeellexQuotesUptoCardSaid : Prop := Claim7.holds Tryd.pinned (.plain (OpenSpec.upto feellexQuotesSpec)) feellexQuotesUptoCard

/-- THE SECOND FORM's CARD OF 'tipstavelaw08.FeellexBack'. -/
def feellexBackUptoCard : Claim7 := { stood := { row := feellexBackUptoRow, standIns := [], harness := (true, "702b0eca1acf7e23bd41bac8c0556d7f19493631360e5d251944b5fafa171202"), looks := true }, kinds := [], alts := [], laidByText := true, laidKinds := [.data, .data, .data, .data, .sentinel, .sentinel, .data, .pinned], laidTests := true, laidLooks := .later }
def FeellexBackUptoCardSaid : Prop := Claim7.holds Tryd.pinned (.plain (OpenSpec.upto feellexBackSpec)) feellexBackUptoCard
end Rows
end Go.Proofs.YtjnaikojoemkaaaDoor
