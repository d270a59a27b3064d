/-
  DERIVED. GIVEN WITH THE SEED: THE CARDS: each row of YtaaedmipcffjoaaDoorRows.lean that lists a variable, with what it lists TIED to the program's text (the seventh form; the later family's looks); each row that meets fmt, with fmt's text TOLD by the authors' own Lean function (tested against real Go, not proved from fmt's source: count such statements apart). THE CARD IS WHAT COUNTS. Prove the row's statement (the work); the ties are given (YtaaedmipcffjoaaDoorTie.lean); close each card by the builder's one call (the guide's Derived/Test/ToyasCard.lean, 'card_holds'). Laid BY PROGRAM, IN A SANDBOX (cutbox-door.mjs). By AI agents, Wed Nov 11 2026. No macro, syntax, notation, axiom, sorry.
-/
import Derived.Test.YtaaedmipcffjoaaDoorRows
import GoSem.ClaimSeven
namespace Go.Proofs.YtaaedmipcffjoaaDoor
namespace Rows

/-- THE TIED CARD OF 'tipstavelaw09.ScopeAsks'. -/
def scopeAsksCard : Claim7 := { stood := { row := scopeAsksRow, standIns := [], harness := (true, "5fa11b0c4583de0ee9339f16099a76659b48189d408d7f40453b00ec550bc1c6"), looks := true }, kinds := [], alts := [], laidByText := true, laidKinds := [.data, .pinned], laidTests := true, laidLooks := .later }
def ScopeAsksCardSaid : Prop := Claim7.holds Tryd.pinned (.plain (OpenSpec.ofChange scopeAsksSpec)) scopeAsksCard

/-- THE TIED CARD OF 'tipstavelaw09.ScopeGrows'. -/
def scopeGrowsCard : Claim7 := { stood := { row := scopeGrowsRow, standIns := [], harness := (true, "5fa11b0c4583de0ee9339f16099a76659b48189d408d7f40453b00ec550bc1c6"), looks := true }, kinds := [], alts := [], laidByText := true, laidKinds := [.data, .pinned], laidTests := true, laidLooks := .later }
def ScopeGrowsCardSaid : Prop := Claim7.holds Tryd.pinned (.plain (OpenSpec.ofChange scopeGrowsSpec)) scopeGrowsCard

/-- THE TIED CARD OF 'tipstavelaw09.ScopeWords'. -/
def scopeWordsCard : Claim7 := { stood := { row := scopeWordsRow, standIns := [], harness := (true, "5fa11b0c4583de0ee9339f16099a76659b48189d408d7f40453b00ec550bc1c6"), looks := true }, kinds := [], alts := [], laidByText := true, laidKinds := [.data, .pinned], laidTests := true, laidLooks := .later }
def ScopeWordsCardSaid : Prop := Claim7.holds Tryd.pinned (.plain (OpenSpec.ofChange scopeWordsSpec)) scopeWordsCard

/-- THE TIED CARD OF 'tipstavelaw09.ScopeFull'. -/
def scopeFullCard : Claim7 := { stood := { row := scopeFullRow, standIns := [], harness := (true, "5fa11b0c4583de0ee9339f16099a76659b48189d408d7f40453b00ec550bc1c6"), looks := true }, kinds := [], alts := [], laidByText := true, laidKinds := [.data, .pinned], laidTests := true, laidLooks := .later }
def ScopeFullCardSaid : Prop := Claim7.holds Tryd.pinned (.plain (OpenSpec.ofChange scopeFullSpec)) scopeFullCard

/-- THE TIED CARD OF 'tipstavelaw08.FeellexJoins'. -/
def feellexJoinsCard : Claim7 := { stood := { row := feellexJoinsRow, standIns := [], harness := (true, "5fa11b0c4583de0ee9339f16099a76659b48189d408d7f40453b00ec550bc1c6"), looks := true }, kinds := [], alts := [], laidByText := true, laidKinds := [.data, .data, .data, .data, .sentinel, .sentinel, .data, .pinned], laidTests := true, laidLooks := .later }
def FeellexJoinsCardSaid : Prop := Claim7.holds Tryd.pinned (.plain (OpenSpec.ofChange feellexJoinsSpec)) feellexJoinsCard

/-- THE TIED CARD OF 'tipstavelaw08.FeellexSigns'. -/
def feellexSignsCard : Claim7 := { stood := { row := feellexSignsRow, standIns := [], harness := (true, "5fa11b0c4583de0ee9339f16099a76659b48189d408d7f40453b00ec550bc1c6"), looks := true }, kinds := [], alts := [], laidByText := true, laidKinds := [.data, .data, .data, .data, .sentinel, .sentinel, .data, .pinned], laidTests := true, laidLooks := .later }
def FeellexSignsCardSaid : Prop := Claim7.holds Tryd.pinned (.plain (OpenSpec.ofChange feellexSignsSpec)) feellexSignsCard

/-- THE TIED CARD OF 'tipstavelaw09.ScopeMakes'. -/
def scopeMakesCard : Claim7 := { stood := { row := scopeMakesRow, standIns := [], harness := (true, "5fa11b0c4583de0ee9339f16099a76659b48189d408d7f40453b00ec550bc1c6"), looks := true }, kinds := [], alts := [], laidByText := true, laidKinds := [.data, .pinned], laidTests := true, laidLooks := .later }
def ScopeMakesCardSaid : Prop := Claim7.holds Tryd.pinned (.plain (OpenSpec.ofChange scopeMakesSpec)) scopeMakesCard

/-- THE TIED CARD OF 'tipstavelaw09.ScopeNone'. -/
def scopeNoneCard : Claim7 := { stood := { row := scopeNoneRow, standIns := [], harness := (true, "5fa11b0c4583de0ee9339f16099a76659b48189d408d7f40453b00ec550bc1c6"), looks := true }, kinds := [], alts := [], laidByText := true, laidKinds := [.data, .pinned], laidTests := true, laidLooks := .later }
def ScopeNoneCardSaid : Prop := Claim7.holds Tryd.pinned (.plain (OpenSpec.ofChange scopeNoneSpec)) scopeNoneCard

/-- THE TIED CARD OF 'tipstavelaw09.ScopeOrder'. -/
def scopeOrderCard : Claim7 := { stood := { row := scopeOrderRow, standIns := [], harness := (true, "5fa11b0c4583de0ee9339f16099a76659b48189d408d7f40453b00ec550bc1c6"), looks := true }, kinds := [], alts := [], laidByText := true, laidKinds := [.data, .pinned], laidTests := true, laidLooks := .later }
def ScopeOrderCardSaid : Prop := Claim7.holds Tryd.pinned (.plain (OpenSpec.ofChange scopeOrderSpec)) scopeOrderCard

/-- THE TIED CARD OF 'tipstavelaw08.FeellexQuotes'. -/
def feellexQuotesCard : Claim7 := { stood := { row := feellexQuotesRow, standIns := [], harness := (true, "5fa11b0c4583de0ee9339f16099a76659b48189d408d7f40453b00ec550bc1c6"), looks := true }, kinds := [], alts := [], laidByText := true, laidKinds := [.data, .data, .data, .data, .sentinel, .sentinel, .data, .pinned], laidTests := true, laidLooks := .later }
def FeellexQuotesCardSaid : Prop := Claim7.holds Tryd.pinned (.plain (OpenSpec.ofChange feellexQuotesSpec)) feellexQuotesCard

/-- THE TIED CARD OF 'tipstavelaw08.FeellexBack'. -/
def feellexBackCard : Claim7 := { stood := { row := feellexBackRow, standIns := [], harness := (true, "5fa11b0c4583de0ee9339f16099a76659b48189d408d7f40453b00ec550bc1c6"), looks := true }, kinds := [], alts := [], laidByText := true, laidKinds := [.data, .data, .data, .data, .sentinel, .sentinel, .data, .pinned], laidTests := true, laidLooks := .later }
def FeellexBackCardSaid : Prop := Claim7.holds Tryd.pinned (.plain (OpenSpec.ofChange feellexBackSpec)) feellexBackCard

/-- THE SECOND FORM's CARD OF 'tipstavelaw09.ScopeAsks'. -/
def scopeAsksUptoCard : Claim7 := { stood := { row := scopeAsksUptoRow, standIns := [], harness := (true, "5fa11b0c4583de0ee9339f16099a76659b48189d408d7f40453b00ec550bc1c6"), looks := true }, kinds := [], alts := [], laidByText := true, laidKinds := [.data, .pinned], laidTests := true, laidLooks := .later }
def ScopeAsksUptoCardSaid : Prop := Claim7.holds Tryd.pinned (.plain (OpenSpec.upto scopeAsksSpec)) scopeAsksUptoCard

/-- THE SECOND FORM's CARD OF 'tipstavelaw09.ScopeGrows'. -/
def scopeGrowsUptoCard : Claim7 := { stood := { row := scopeGrowsUptoRow, standIns := [], harness := (true, "5fa11b0c4583de0ee9339f16099a76659b48189d408d7f40453b00ec550bc1c6"), looks := true }, kinds := [], alts := [], laidByText := true, laidKinds := [.data, .pinned], laidTests := true, laidLooks := .later }
def ScopeGrowsUptoCardSaid : Prop := Claim7.holds Tryd.pinned (.plain (OpenSpec.upto scopeGrowsSpec)) scopeGrowsUptoCard

/-- THE SECOND FORM's CARD OF 'tipstavelaw09.ScopeWords'. -/
def scopeWordsUptoCard : Claim7 := { stood := { row := scopeWordsUptoRow, standIns := [], harness := (true, "5fa11b0c4583de0ee9339f16099a76659b48189d408d7f40453b00ec550bc1c6"), looks := true }, kinds := [], alts := [], laidByText := true, laidKinds := [.data, .pinned], laidTests := true, laidLooks := .later }
def ScopeWordsUptoCardSaid : Prop := Claim7.holds Tryd.pinned (.plain (OpenSpec.upto scopeWordsSpec)) scopeWordsUptoCard

/-- THE SECOND FORM's CARD OF 'tipstavelaw09.ScopeFull'. -/
def scopeFullUptoCard : Claim7 := { stood := { row := scopeFullUptoRow, standIns := [], harness := (true, "5fa11b0c4583de0ee9339f16099a76659b48189d408d7f40453b00ec550bc1c6"), looks := true }, kinds := [], alts := [], laidByText := true, laidKinds := [.data, .pinned], laidTests := true, laidLooks := .later }
def ScopeFullUptoCardSaid : Prop := Claim7.holds Tryd.pinned (.plain (OpenSpec.upto scopeFullSpec)) scopeFullUptoCard

/-- THE SECOND FORM's CARD OF 'tipstavelaw08.FeellexJoins'. -/
def feellexJoinsUptoCard : Claim7 := { stood := { row := feellexJoinsUptoRow, standIns := [], harness := (true, "5fa11b0c4583de0ee9339f16099a76659b48189d408d7f40453b00ec550bc1c6"), looks := true }, kinds := [], alts := [], laidByText := true, laidKinds := [.data, .data, .data, .data, .sentinel, .sentinel, .data, .pinned], laidTests := true, laidLooks := .later }
def FeellexJoinsUptoCardSaid : Prop := Claim7.holds Tryd.pinned (.plain (OpenSpec.upto feellexJoinsSpec)) feellexJoinsUptoCard

/-- THE SECOND FORM's CARD OF 'tipstavelaw08.FeellexSigns'. -/
def feellexSignsUptoCard : Claim7 := { stood := { row := feellexSignsUptoRow, standIns := [], harness := (true, "5fa11b0c4583de0ee9339f16099a76659b48189d408d7f40453b00ec550bc1c6"), looks := true }, kinds := [], alts := [], laidByText := true, laidKinds := [.data, .data, .data, .data, .sentinel, .sentinel, .data, .pinned], laidTests := true, laidLooks := .later }
def FeellexSignsUptoCardSaid : Prop := Claim7.holds Tryd.pinned (.plain (OpenSpec.upto feellexSignsSpec)) feellexSignsUptoCard

/-- THE SECOND FORM's CARD OF 'tipstavelaw09.ScopeMakes'. -/
def scopeMakesUptoCard : Claim7 := { stood := { row := scopeMakesUptoRow, standIns := [], harness := (true, "5fa11b0c4583de0ee9339f16099a76659b48189d408d7f40453b00ec550bc1c6"), looks := true }, kinds := [], alts := [], laidByText := true, laidKinds := [.data, .pinned], laidTests := true, laidLooks := .later }
def ScopeMakesUptoCardSaid : Prop := Claim7.holds Tryd.pinned (.plain (OpenSpec.upto scopeMakesSpec)) scopeMakesUptoCard

/-- THE SECOND FORM's CARD OF 'tipstavelaw09.ScopeNone'. -/
def scopeNoneUptoCard : Claim7 := { stood := { row := scopeNoneUptoRow, standIns := [], harness := (true, "5fa11b0c4583de0ee9339f16099a76659b48189d408d7f40453b00ec550bc1c6"), looks := true }, kinds := [], alts := [], laidByText := true, laidKinds := [.data, .pinned], laidTests := true, laidLooks := .later }
def ScopeNoneUptoCardSaid : Prop := Claim7.holds Tryd.pinned (.plain (OpenSpec.upto scopeNoneSpec)) scopeNoneUptoCard

/-- THE SECOND FORM's CARD OF 'tipstavelaw09.ScopeOrder'. -/
def scopeOrderUptoCard : Claim7 := { stood := { row := scopeOrderUptoRow, standIns := [], harness := (true, "5fa11b0c4583de0ee9339f16099a76659b48189d408d7f40453b00ec550bc1c6"), looks := true }, kinds := [], alts := [], laidByText := true, laidKinds := [.data, .pinned], laidTests := true, laidLooks := .later }
def ScopeOrderUptoCardSaid : Prop := Claim7.holds Tryd.pinned (.plain (OpenSpec.upto scopeOrderSpec)) scopeOrderUptoCard

/-- THE SECOND FORM's CARD OF 'tipstavelaw08.FeellexQuotes'. -/
def feellexQuotesUptoCard : Claim7 := { stood := { row := feellexQuotesUptoRow, standIns := [], harness := (true, "5fa11b0c4583de0ee9339f16099a76659b48189d408d7f40453b00ec550bc1c6"), looks := true }, kinds := [], alts := [], laidByText := true, laidKinds := [.data, .data, .data, .data, .sentinel, .sentinel, .data, .pinned], laidTests := true, laidLooks := .later }
def FeellexQuotesUptoCardSaid : Prop := Claim7.holds Tryd.pinned (.plain (OpenSpec.upto feellexQuotesSpec)) feellexQuotesUptoCard

/-- THE SECOND FORM's CARD OF 'tipstavelaw08.FeellexBack'. -/
def feellexBackUptoCard : Claim7 := { stood := { row := feellexBackUptoRow, standIns := [], harness := (true, "5fa11b0c4583de0ee9339f16099a76659b48189d408d7f40453b00ec550bc1c6"), looks := true }, kinds := [], alts := [], laidByText := true, laidKinds := [.data, .data, .data, .data, .sentinel, .sentinel, .data, .pinned], laidTests := true, laidLooks := .later }
def FeellexBackUptoCardSaid : Prop := Claim7.holds Tryd.pinned (.plain (OpenSpec.upto feellexBackSpec)) feellexBackUptoCard
end Rows
end Go.Proofs.YtaaedmipcffjoaaDoor
