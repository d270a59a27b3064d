/-
  NARROWER THAN 'FOR EVERY INPUT', by the rows' own cells (each row's printed sentence says how): NamesSplits: laid · NamesPrefix: laid · NamesWords: laid · NamesKeys: laid · NamesJoins: laid · NamesParts: laid.
  DERIVED. THE GIVEN ROWS OF THIS SEAT. 6 by the template 'for every input the law returns true; each argument reads behind the call as it read before'; 0 by the template 'total and deterministic' (their statements: YtfmhpeinikidfaaDoorTotals.lean).
  GIVEN WITH THE SEED: the statements are not yours to turn. If you find one false, say at which input.
  Laid BY PROGRAM, IN A SANDBOX (cutbox-rows.mjs): the forced cells as the released guide's own fill.sh prints them over the translation 9652d23f18f6dc7c… (all of the seat's roots in one cut). By AI agents, Wed Nov 11 2026. No macro, syntax, notation, axiom, sorry.
-/
import Derived.Test.YtfmhpeinikidfaaDoorChecked
import GoSem.PinnedTables
import GoSem.Claim
import GoSem.ClaimJoined
import GoSem.ClaimMapViews
import Derived.JoinedTies
import Derived.KernelRfl
namespace Go.Proofs.YtfmhpeinikidfaaDoor
/- THE CELL 'sum', in the pinned program and in every row, IS THE sha256 OF THE DUMP (.gsa) THAT YtfmhpeinikidfaaDoorProg.lean LOADS. Nothing in Lean hashes anything: it is a label: what it is worth is what the hold of that sum in a sandbox is worth. -/
noncomputable def Tryd.pinned : Pinned := { name := "ytfmhpeinikidfaadoor", sum := "9652d23f18f6dc7cfa683aea47a75263c424bfe91f5437026b0e68bf6f1899b7", checked := Tryd.checked }
namespace Rows
def none {H : Type} : Left H := { results := [], args := [] }

/- WHAT THE LISTED PACKAGE-LEVEL VARIABLES READ AS WHEN THE CALL BEGINS. Each datum BY PROGRAM (the guide's laid-datum.mjs) off the statement by which the dump's own 'gosem.cut.vars' lays the variable. In a bare row this is a premise. The card (YtfmhpeinikidfaaDoorCards.lean) ties it to the program's text. -/
def laid_unicode_utf8_acceptRanges {H : Type} : DataW H := .agg [.agg [.lit (.int .u8 128), .lit (.int .u8 191)], .agg [.lit (.int .u8 160), .lit (.int .u8 191)], .agg [.lit (.int .u8 128), .lit (.int .u8 159)], .agg [.lit (.int .u8 144), .lit (.int .u8 191)], .agg [.lit (.int .u8 128), .lit (.int .u8 143)], .agg [.lit (.int .u8 0), .lit (.int .u8 0)], .agg [.lit (.int .u8 0), .lit (.int .u8 0)], .agg [.lit (.int .u8 0), .lit (.int .u8 0)], .agg [.lit (.int .u8 0), .lit (.int .u8 0)], .agg [.lit (.int .u8 0), .lit (.int .u8 0)], .agg [.lit (.int .u8 0), .lit (.int .u8 0)], .agg [.lit (.int .u8 0), .lit (.int .u8 0)], .agg [.lit (.int .u8 0), .lit (.int .u8 0)], .agg [.lit (.int .u8 0), .lit (.int .u8 0)], .agg [.lit (.int .u8 0), .lit (.int .u8 0)], .agg [.lit (.int .u8 0), .lit (.int .u8 0)]]
/-- One of Go's own tables, pinned by name: the form's constant. -/
def laid_unicode_utf8_first : DataW Unit := Go.Pinned.utf8First

/-- 'tipstavelaw02.NamesSplits': WHATEVER THE INPUT: true; the input reads as it did. -/
def namesSplitsSpec : ChangeSpec := { name := "namesSplits", fn := fun _ => fun
  | [d] => { results := [.lit (.bool true)], args := [d] }
  | _ => none }
def namesSplitsRow : OpenClaim := { program := "ytfmhpeinikidfaadoor", sum := "9652d23f18f6dc7cfa683aea47a75263c424bfe91f5437026b0e68bf6f1899b7", func := "tipstave/tipstavelaw02.NamesSplits", spec := "namesSplits", inPlace := ["internal/bytealg.IndexByteString", "internal/bytealg.IndexString", "internal/bytealg.CountString"], unfollowed := true, recurses := true, named := ["internal/bytealg.MaxLen", "unicode/utf8.first", "unicode/utf8.acceptRanges"], apart := false, laid := [("unicode/utf8.acceptRanges", laid_unicode_utf8_acceptRanges), ("unicode/utf8.first", laid_unicode_utf8_first)] }
def NamesSplitsSaid : Prop := namesSplitsRow.holds Tryd.pinned (OpenSpec.ofChange namesSplitsSpec)

/-- ITS FALSE NEIGHBOUR: 'it returns false'. Refute it at one input. -/
def namesSplitsWrong : ChangeSpec := { name := "namesSplits", fn := fun _ => fun
  | [d] => { results := [.lit (.bool false)], args := [d] }
  | _ => none }
def NamesSplitsWrongFalsely : Prop := namesSplitsRow.holds Tryd.pinned (OpenSpec.ofChange namesSplitsWrong)

/-- 'tipstavelaw02.NamesPrefix': WHATEVER THE INPUT: true; the input reads as it did. -/
def namesPrefixSpec : ChangeSpec := { name := "namesPrefix", fn := fun _ => fun
  | [d1, d2] => { results := [.lit (.bool true)], args := [d1, d2] }
  | _ => none }
def namesPrefixRow : OpenClaim := { program := "ytfmhpeinikidfaadoor", sum := "9652d23f18f6dc7cfa683aea47a75263c424bfe91f5437026b0e68bf6f1899b7", func := "tipstave/tipstavelaw02.NamesPrefix", spec := "namesPrefix", inPlace := ["internal/bytealg.IndexByteString", "internal/bytealg.IndexString", "internal/bytealg.CountString"], unfollowed := true, recurses := true, named := ["internal/bytealg.MaxLen", "unicode/utf8.first", "unicode/utf8.acceptRanges"], apart := false, laid := [("unicode/utf8.acceptRanges", laid_unicode_utf8_acceptRanges), ("unicode/utf8.first", laid_unicode_utf8_first)] }
def NamesPrefixSaid : Prop := namesPrefixRow.holds Tryd.pinned (OpenSpec.ofChange namesPrefixSpec)

/-- ITS FALSE NEIGHBOUR: 'it returns false'. Refute it at one input. -/
def namesPrefixWrong : ChangeSpec := { name := "namesPrefix", fn := fun _ => fun
  | [d1, d2] => { results := [.lit (.bool false)], args := [d1, d2] }
  | _ => none }
def NamesPrefixWrongFalsely : Prop := namesPrefixRow.holds Tryd.pinned (OpenSpec.ofChange namesPrefixWrong)

/-- 'tipstavelaw02.NamesWords': WHATEVER THE INPUT: true; the input reads as it did. -/
def namesWordsSpec : ChangeSpec := { name := "namesWords", fn := fun _ => fun
  | [d] => { results := [.lit (.bool true)], args := [d] }
  | _ => none }
def namesWordsRow : OpenClaim := { program := "ytfmhpeinikidfaadoor", sum := "9652d23f18f6dc7cfa683aea47a75263c424bfe91f5437026b0e68bf6f1899b7", func := "tipstave/tipstavelaw02.NamesWords", spec := "namesWords", inPlace := ["internal/bytealg.IndexByteString", "internal/bytealg.IndexString", "internal/bytealg.CountString"], unfollowed := true, recurses := true, named := ["internal/bytealg.MaxLen", "unicode/utf8.first", "unicode/utf8.acceptRanges"], apart := false, laid := [("unicode/utf8.acceptRanges", laid_unicode_utf8_acceptRanges), ("unicode/utf8.first", laid_unicode_utf8_first)] }
def NamesWordsSaid : Prop := namesWordsRow.holds Tryd.pinned (OpenSpec.ofChange namesWordsSpec)

/-- ITS FALSE NEIGHBOUR: 'it returns false'. Refute it at one input. -/
def namesWordsWrong : ChangeSpec := { name := "namesWords", fn := fun _ => fun
  | [d] => { results := [.lit (.bool false)], args := [d] }
  | _ => none }
def NamesWordsWrongFalsely : Prop := namesWordsRow.holds Tryd.pinned (OpenSpec.ofChange namesWordsWrong)

/-- 'tipstavelaw02.NamesKeys': WHATEVER THE INPUT: true; the input reads as it did. -/
def namesKeysSpec : ChangeSpec := { name := "namesKeys", fn := fun _ => fun
  | [d] => { results := [.lit (.bool true)], args := [d] }
  | _ => none }
def namesKeysRow : OpenClaim := { program := "ytfmhpeinikidfaadoor", sum := "9652d23f18f6dc7cfa683aea47a75263c424bfe91f5437026b0e68bf6f1899b7", func := "tipstave/tipstavelaw02.NamesKeys", spec := "namesKeys", inPlace := ["internal/bytealg.IndexByteString", "internal/bytealg.IndexString", "internal/bytealg.CountString"], unfollowed := true, recurses := true, named := ["internal/bytealg.MaxLen", "unicode/utf8.first", "unicode/utf8.acceptRanges"], apart := false, laid := [("unicode/utf8.acceptRanges", laid_unicode_utf8_acceptRanges), ("unicode/utf8.first", laid_unicode_utf8_first)] }
def NamesKeysSaid : Prop := namesKeysRow.holds Tryd.pinned (OpenSpec.ofChange namesKeysSpec)

/-- ITS FALSE NEIGHBOUR: 'it returns false'. Refute it at one input. -/
def namesKeysWrong : ChangeSpec := { name := "namesKeys", fn := fun _ => fun
  | [d] => { results := [.lit (.bool false)], args := [d] }
  | _ => none }
def NamesKeysWrongFalsely : Prop := namesKeysRow.holds Tryd.pinned (OpenSpec.ofChange namesKeysWrong)

/-- 'tipstavelaw02.NamesJoins': WHATEVER THE INPUT: true; the input reads as it did. -/
def namesJoinsSpec : ChangeSpec := { name := "namesJoins", fn := fun _ => fun
  | [d1, d2] => { results := [.lit (.bool true)], args := [d1, d2] }
  | _ => none }
def namesJoinsRow : OpenClaim := { program := "ytfmhpeinikidfaadoor", sum := "9652d23f18f6dc7cfa683aea47a75263c424bfe91f5437026b0e68bf6f1899b7", func := "tipstave/tipstavelaw02.NamesJoins", spec := "namesJoins", inPlace := ["internal/bytealg.IndexByteString", "internal/bytealg.IndexString", "internal/bytealg.CountString"], unfollowed := true, recurses := true, named := ["internal/bytealg.MaxLen", "unicode/utf8.first", "unicode/utf8.acceptRanges"], apart := false, laid := [("unicode/utf8.acceptRanges", laid_unicode_utf8_acceptRanges), ("unicode/utf8.first", laid_unicode_utf8_first)] }
def NamesJoinsSaid : Prop := namesJoinsRow.holds Tryd.pinned (OpenSpec.ofChange namesJoinsSpec)

/-- ITS FALSE NEIGHBOUR: 'it returns false'. Refute it at one input. -/
def namesJoinsWrong : ChangeSpec := { name := "namesJoins", fn := fun _ => fun
  | [d1, d2] => { results := [.lit (.bool false)], args := [d1, d2] }
  | _ => none }
def NamesJoinsWrongFalsely : Prop := namesJoinsRow.holds Tryd.pinned (OpenSpec.ofChange namesJoinsWrong)

/-- 'tipstavelaw02.NamesParts': WHATEVER THE INPUT: true; the input reads as it did. -/
def namesPartsSpec : ChangeSpec := { name := "namesParts", fn := fun _ => fun
  | [d] => { results := [.lit (.bool true)], args := [d] }
  | _ => none }
def namesPartsRow : OpenClaim := { program := "ytfmhpeinikidfaadoor", sum := "9652d23f18f6dc7cfa683aea47a75263c424bfe91f5437026b0e68bf6f1899b7", func := "tipstave/tipstavelaw02.NamesParts", spec := "namesParts", inPlace := ["internal/bytealg.IndexByteString", "internal/bytealg.IndexString", "internal/bytealg.CountString"], unfollowed := true, recurses := true, named := ["internal/bytealg.MaxLen", "unicode/utf8.first", "unicode/utf8.acceptRanges"], apart := false, laid := [("unicode/utf8.acceptRanges", laid_unicode_utf8_acceptRanges), ("unicode/utf8.first", laid_unicode_utf8_first)] }
def NamesPartsSaid : Prop := namesPartsRow.holds Tryd.pinned (OpenSpec.ofChange namesPartsSpec)

/-- ITS FALSE NEIGHBOUR: 'it returns false'. Refute it at one input. -/
def namesPartsWrong : ChangeSpec := { name := "namesParts", fn := fun _ => fun
  | [d] => { results := [.lit (.bool false)], args := [d] }
  | _ => none }
def NamesPartsWrongFalsely : Prop := namesPartsRow.holds Tryd.pinned (OpenSpec.ofChange namesPartsWrong)

/- THE SECOND FORM. 'bulk': how many values and letters a reading holds, each counted each time it is reached (what is shared counts as often as it is met; a slice's spare places count too). A statement '..UptoSaid' is the law's where the arguments, and the package variables that the reading takes, are together of bulk at most 1048576: NARROWER than '..Said'. Prove '..Said' where nothing that the law and all that it calls make is longer than what came in: it says more and counts as full. Else prove '..UptoSaid'. A law counts once. -/
mutual
def uptoBulk {H : Type} : DataW H → Nat
  | .lit (.string bytes) => bytes.length + 1
  | .lit _ => 1
  | .nil => 1
  | .ptr d => uptoBulk d + 1
  | .slice elems spare => uptoBulkAll elems + uptoBulkAll spare + 1
  | .agg parts => uptoBulkAll parts + 1
  | .iface _ d => uptoBulk d + 1
  | .map entries => uptoBulkEntries entries + 1
  | .held _ => 1
def uptoBulkAll {H : Type} : List (DataW H) → Nat
  | [] => 0
  | d :: r => uptoBulk d + uptoBulkAll r
def uptoBulkEntries {H : Type} : List (Lit × DataW H) → Nat
  | [] => 0
  | x :: r => uptoBulkEntry x + uptoBulkEntries r
def uptoBulkEntry {H : Type} : Lit × DataW H → Nat
  | (.string bytes, d) => bytes.length + uptoBulk d + 1
  | (_, d) => uptoBulk d + 1
 end
def uptoSmall : (H : Type) → List (DataW H) → Bool := fun _ ds => decide (uptoBulkAll ds ≤ 1048576)
def OpenSpec.upto (s : _root_.Go.ChangeSpec) : _root_.Go.OpenSpec := { _root_.Go.OpenSpec.ofChange s with cond := some uptoSmall }

/-- 'tipstavelaw02.NamesSplits', WHERE WHAT IT READS IS OF BULK AT MOST 1048576: true; the input reads as it did. -/
def namesSplitsUptoRow : OpenClaim := { program := "ytfmhpeinikidfaadoor", sum := "9652d23f18f6dc7cfa683aea47a75263c424bfe91f5437026b0e68bf6f1899b7", func := "tipstave/tipstavelaw02.NamesSplits", spec := "namesSplits", inPlace := ["internal/bytealg.IndexByteString", "internal/bytealg.IndexString", "internal/bytealg.CountString"], unfollowed := true, recurses := true, named := ["internal/bytealg.MaxLen", "unicode/utf8.first", "unicode/utf8.acceptRanges"], apart := false, laid := [("unicode/utf8.acceptRanges", laid_unicode_utf8_acceptRanges), ("unicode/utf8.first", laid_unicode_utf8_first)], narrowed := true }
def NamesSplitsUptoSaid : Prop := namesSplitsUptoRow.holds Tryd.pinned (OpenSpec.upto namesSplitsSpec)

/-- 'tipstavelaw02.NamesPrefix', WHERE WHAT IT READS IS OF BULK AT MOST 1048576: true; the input reads as it did. -/
def namesPrefixUptoRow : OpenClaim := { program := "ytfmhpeinikidfaadoor", sum := "9652d23f18f6dc7cfa683aea47a75263c424bfe91f5437026b0e68bf6f1899b7", func := "tipstave/tipstavelaw02.NamesPrefix", spec := "namesPrefix", inPlace := ["internal/bytealg.IndexByteString", "internal/bytealg.IndexString", "internal/bytealg.CountString"], unfollowed := true, recurses := true, named := ["internal/bytealg.MaxLen", "unicode/utf8.first", "unicode/utf8.acceptRanges"], apart := false, laid := [("unicode/utf8.acceptRanges", laid_unicode_utf8_acceptRanges), ("unicode/utf8.first", laid_unicode_utf8_first)], narrowed := true }
def NamesPrefixUptoSaid : Prop := namesPrefixUptoRow.holds Tryd.pinned (OpenSpec.upto namesPrefixSpec)

/-- 'tipstavelaw02.NamesWords', WHERE WHAT IT READS IS OF BULK AT MOST 1048576: true; the input reads as it did. -/
def namesWordsUptoRow : OpenClaim := { program := "ytfmhpeinikidfaadoor", sum := "9652d23f18f6dc7cfa683aea47a75263c424bfe91f5437026b0e68bf6f1899b7", func := "tipstave/tipstavelaw02.NamesWords", spec := "namesWords", inPlace := ["internal/bytealg.IndexByteString", "internal/bytealg.IndexString", "internal/bytealg.CountString"], unfollowed := true, recurses := true, named := ["internal/bytealg.MaxLen", "unicode/utf8.first", "unicode/utf8.acceptRanges"], apart := false, laid := [("unicode/utf8.acceptRanges", laid_unicode_utf8_acceptRanges), ("unicode/utf8.first", laid_unicode_utf8_first)], narrowed := true }
def NamesWordsUptoSaid : Prop := namesWordsUptoRow.holds Tryd.pinned (OpenSpec.upto namesWordsSpec)

/-- 'tipstavelaw02.NamesKeys', WHERE WHAT IT READS IS OF BULK AT MOST 1048576: true; the input reads as it did. -/
def namesKeysUptoRow : OpenClaim := { program := "ytfmhpeinikidfaadoor", sum := "9652d23f18f6dc7cfa683aea47a75263c424bfe91f5437026b0e68bf6f1899b7", func := "tipstave/tipstavelaw02.NamesKeys", spec := "namesKeys", inPlace := ["internal/bytealg.IndexByteString", "internal/bytealg.IndexString", "internal/bytealg.CountString"], unfollowed := true, recurses := true, named := ["internal/bytealg.MaxLen", "unicode/utf8.first", "unicode/utf8.acceptRanges"], apart := false, laid := [("unicode/utf8.acceptRanges", laid_unicode_utf8_acceptRanges), ("unicode/utf8.first", laid_unicode_utf8_first)], narrowed := true }
def NamesKeysUptoSaid : Prop := namesKeysUptoRow.holds Tryd.pinned (OpenSpec.upto namesKeysSpec)

/-- 'tipstavelaw02.NamesJoins', WHERE WHAT IT READS IS OF BULK AT MOST 1048576: true; the input reads as it did. -/
def namesJoinsUptoRow : OpenClaim := { program := "ytfmhpeinikidfaadoor", sum := "9652d23f18f6dc7cfa683aea47a75263c424bfe91f5437026b0e68bf6f1899b7", func := "tipstave/tipstavelaw02.NamesJoins", spec := "namesJoins", inPlace := ["internal/bytealg.IndexByteString", "internal/bytealg.IndexString", "internal/bytealg.CountString"], unfollowed := true, recurses := true, named := ["internal/bytealg.MaxLen", "unicode/utf8.first", "unicode/utf8.acceptRanges"], apart := false, laid := [("unicode/utf8.acceptRanges", laid_unicode_utf8_acceptRanges), ("unicode/utf8.first", laid_unicode_utf8_first)], narrowed := true }
def NamesJoinsUptoSaid : Prop := namesJoinsUptoRow.holds Tryd.pinned (OpenSpec.upto namesJoinsSpec)

/-- 'tipstavelaw02.NamesParts', WHERE WHAT IT READS IS OF BULK AT MOST 1048576: true; the input reads as it did. -/
def namesPartsUptoRow : OpenClaim := { program := "ytfmhpeinikidfaadoor", sum := "9652d23f18f6dc7cfa683aea47a75263c424bfe91f5437026b0e68bf6f1899b7", func := "tipstave/tipstavelaw02.NamesParts", spec := "namesParts", inPlace := ["internal/bytealg.IndexByteString", "internal/bytealg.IndexString", "internal/bytealg.CountString"], unfollowed := true, recurses := true, named := ["internal/bytealg.MaxLen", "unicode/utf8.first", "unicode/utf8.acceptRanges"], apart := false, laid := [("unicode/utf8.acceptRanges", laid_unicode_utf8_acceptRanges), ("unicode/utf8.first", laid_unicode_utf8_first)], narrowed := true }
def NamesPartsUptoSaid : Prop := namesPartsUptoRow.holds Tryd.pinned (OpenSpec.upto namesPartsSpec)

end Rows
end Go.Proofs.YtfmhpeinikidfaaDoor
