/-
  NARROWER THAN 'FOR EVERY INPUT', by the rows' own cells (each row's printed sentence says how): LogicTables: laid · LogicInside: loops, laid · LogicSames: loops, laid · LogicScopes: loops, laid · LogicFree: loops, laid.
  DERIVED. THE GIVEN ROWS OF THIS SEAT. 5 by the template 'for every input the law returns true; each argument reads behind the call as it read before'; 0 by the template 'total and deterministic' (their statements: YtchbhcjhoocjaaaGreatDoorTotals.lean).
  GIVEN WITH THE SEED: the statements are not yours to turn. If you find one false, say at which input.
  Laid BY PROGRAM, IN A SANDBOX (cutbox-rows.mjs): the forced cells as the released guide's own fill.sh prints them over the translation b72dcd8fac829870… (all of the seat's roots in one cut). By AI agents, Wed Nov 11 2026. No macro, syntax, notation, axiom, sorry.
-/
import Derived.Test.YtchbhcjhoocjaaaGreatDoorChecked
import GoSem.PinnedTables
import GoSem.Claim
import GoSem.ClaimJoined
import GoSem.ClaimMapViews
import Derived.JoinedTies
import Derived.KernelRfl
namespace Go.Proofs.YtchbhcjhoocjaaaGreatDoor
/- THE CELL 'sum', in the pinned program and in every row, IS THE sha256 OF THE DUMP (.gsa) THAT YtchbhcjhoocjaaaGreatDoorProg.lean LOADS. Nothing in Lean hashes anything: it is a label: what it is worth is what the hold of that sum in a sandbox is worth. -/
noncomputable def Tryz.pinned : Pinned := { name := "ytchbhcjhoocjaaagreatdoor", sum := "b72dcd8fac8298701fea57ac23c1766d8ad9f2949002923d229d3fc5fcb91d09", checked := Tryz.checked }
namespace Rows
def none {H : Type} : Left H := { results := [], args := [] }

/- WHAT THE LISTED PACKAGE-LEVEL VARIABLES READ AS WHEN THE CALL BEGINS. Each datum BY PROGRAM (the guide's laid-datum.mjs) off the statement by which the dump's own 'gosem.cut.vars' lays the variable. In a bare row this is a premise. The card (YtchbhcjhoocjaaaGreatDoorCards.lean) ties it to the program's text. -/
def laid_unicode_utf8_acceptRanges {H : Type} : DataW H := .agg [.agg [.lit (.int .u8 128), .lit (.int .u8 191)], .agg [.lit (.int .u8 160), .lit (.int .u8 191)], .agg [.lit (.int .u8 128), .lit (.int .u8 159)], .agg [.lit (.int .u8 144), .lit (.int .u8 191)], .agg [.lit (.int .u8 128), .lit (.int .u8 143)], .agg [.lit (.int .u8 0), .lit (.int .u8 0)], .agg [.lit (.int .u8 0), .lit (.int .u8 0)], .agg [.lit (.int .u8 0), .lit (.int .u8 0)], .agg [.lit (.int .u8 0), .lit (.int .u8 0)], .agg [.lit (.int .u8 0), .lit (.int .u8 0)], .agg [.lit (.int .u8 0), .lit (.int .u8 0)], .agg [.lit (.int .u8 0), .lit (.int .u8 0)], .agg [.lit (.int .u8 0), .lit (.int .u8 0)], .agg [.lit (.int .u8 0), .lit (.int .u8 0)], .agg [.lit (.int .u8 0), .lit (.int .u8 0)], .agg [.lit (.int .u8 0), .lit (.int .u8 0)]]
def laid_errors_errorType {H : Type} : DataW H := .iface "internal/reflectlite.rtype" (.agg [.ptr (.lit (.string [101, 114, 114, 111, 114]))])
def laid_tipstave_logic_policies {H : Type} : DataW H := .agg [.lit (.string [65, 78, 89]), .lit (.string [67, 79, 76, 76, 69, 67, 84]), .lit (.string [70, 73, 82, 83, 84]), .lit (.string [79, 85, 84, 80, 85, 84, 32, 79, 82, 68, 69, 82]), .lit (.string [80, 82, 73, 79, 82, 73, 84, 89]), .lit (.string [82, 85, 76, 69, 32, 79, 82, 68, 69, 82]), .lit (.string [85, 78, 73, 81, 85, 69])]
/-- One of Go's own tables, pinned by name: the form's constant. -/
def laid_unicode_utf8_first : DataW Unit := Go.Pinned.utf8First

/-- 'tipstavelaw15.LogicTables': WHATEVER THE INPUT: true; the input reads as it did. -/
def logicTablesSpec : ChangeSpec := { name := "logicTables", fn := fun _ => fun
  | [d1, d2] => { results := [.lit (.bool true)], args := [d1, d2] }
  | _ => none }
def logicTablesRow : OpenClaim := { program := "ytchbhcjhoocjaaagreatdoor", sum := "b72dcd8fac8298701fea57ac23c1766d8ad9f2949002923d229d3fc5fcb91d09", func := "tipstave/tipstavelaw15.LogicTables", spec := "logicTables", inPlace := ["internal/bytealg.CountString", "internal/bytealg.IndexByteString", "internal/bytealg.IndexString", "internal/reflectlite.ValueOf", "(internal/reflectlite.Value).Type", "(internal/reflectlite.Value).IsNil", "internal/reflectlite.TypeOf", "(internal/reflectlite.Value).Elem", "(internal/reflectlite.Value).Set", "internal/abi.NoEscape", "internal/bytealg.MakeNoZero"], unfollowed := true, recurses := true, named := ["tipstave/logic.policies", "unicode/utf8.first", "unicode/utf8.acceptRanges", "internal/bytealg.MaxLen", "errors.errorType"], apart := false, laid := [("unicode/utf8.acceptRanges", laid_unicode_utf8_acceptRanges), ("errors.errorType", laid_errors_errorType), ("tipstave/logic.policies", laid_tipstave_logic_policies), ("unicode/utf8.first", laid_unicode_utf8_first)] }
def LogicTablesSaid : Prop := logicTablesRow.holds Tryz.pinned (OpenSpec.ofChange logicTablesSpec)

/-- ITS FALSE NEIGHBOUR: 'it returns false'. Refute it at one input. -/
def logicTablesWrong : ChangeSpec := { name := "logicTables", fn := fun _ => fun
  | [d1, d2] => { results := [.lit (.bool false)], args := [d1, d2] }
  | _ => none }
def LogicTablesWrongFalsely : Prop := logicTablesRow.holds Tryz.pinned (OpenSpec.ofChange logicTablesWrong)

/-- 'tipstavelaw15.LogicInside': WHATEVER THE INPUT: true; the input reads as it did. -/
def logicInsideSpec : ChangeSpec := { name := "logicInside", fn := fun _ => fun
  | [d] => { results := [.lit (.bool true)], args := [d] }
  | _ => none }
def logicInsideRow : OpenClaim := { program := "ytchbhcjhoocjaaagreatdoor", sum := "b72dcd8fac8298701fea57ac23c1766d8ad9f2949002923d229d3fc5fcb91d09", func := "tipstave/tipstavelaw15.LogicInside", spec := "logicInside", inPlace := ["internal/bytealg.CountString", "internal/bytealg.IndexByteString", "internal/bytealg.IndexString", "internal/reflectlite.ValueOf", "(internal/reflectlite.Value).Type", "(internal/reflectlite.Value).IsNil", "internal/reflectlite.TypeOf", "(internal/reflectlite.Value).Elem", "(internal/reflectlite.Value).Set", "internal/abi.NoEscape", "internal/bytealg.MakeNoZero"], unfollowed := true, recurses := true, named := ["tipstave/logic.policies", "unicode/utf8.first", "unicode/utf8.acceptRanges", "internal/bytealg.MaxLen", "errors.errorType"], loops := true, apart := false, laid := [("unicode/utf8.acceptRanges", laid_unicode_utf8_acceptRanges), ("errors.errorType", laid_errors_errorType), ("tipstave/logic.policies", laid_tipstave_logic_policies), ("unicode/utf8.first", laid_unicode_utf8_first)] }
def LogicInsideSaid : Prop := logicInsideRow.holds Tryz.pinned (OpenSpec.ofChange logicInsideSpec)

/-- ITS FALSE NEIGHBOUR: 'it returns false'. Refute it at one input. -/
def logicInsideWrong : ChangeSpec := { name := "logicInside", fn := fun _ => fun
  | [d] => { results := [.lit (.bool false)], args := [d] }
  | _ => none }
def LogicInsideWrongFalsely : Prop := logicInsideRow.holds Tryz.pinned (OpenSpec.ofChange logicInsideWrong)

/-- 'tipstavelaw15.LogicSames': WHATEVER THE INPUT: true; the input reads as it did. -/
def logicSamesSpec : ChangeSpec := { name := "logicSames", fn := fun _ => fun
  | [d1, d2] => { results := [.lit (.bool true)], args := [d1, d2] }
  | _ => none }
def logicSamesRow : OpenClaim := { program := "ytchbhcjhoocjaaagreatdoor", sum := "b72dcd8fac8298701fea57ac23c1766d8ad9f2949002923d229d3fc5fcb91d09", func := "tipstave/tipstavelaw15.LogicSames", spec := "logicSames", inPlace := ["internal/bytealg.CountString", "internal/bytealg.IndexByteString", "internal/bytealg.IndexString", "internal/reflectlite.ValueOf", "(internal/reflectlite.Value).Type", "(internal/reflectlite.Value).IsNil", "internal/reflectlite.TypeOf", "(internal/reflectlite.Value).Elem", "(internal/reflectlite.Value).Set", "internal/abi.NoEscape", "internal/bytealg.MakeNoZero"], unfollowed := true, recurses := true, named := ["tipstave/logic.policies", "unicode/utf8.first", "unicode/utf8.acceptRanges", "internal/bytealg.MaxLen", "errors.errorType"], loops := true, apart := false, laid := [("unicode/utf8.acceptRanges", laid_unicode_utf8_acceptRanges), ("errors.errorType", laid_errors_errorType), ("tipstave/logic.policies", laid_tipstave_logic_policies), ("unicode/utf8.first", laid_unicode_utf8_first)] }
def LogicSamesSaid : Prop := logicSamesRow.holds Tryz.pinned (OpenSpec.ofChange logicSamesSpec)

/-- ITS FALSE NEIGHBOUR: 'it returns false'. Refute it at one input. -/
def logicSamesWrong : ChangeSpec := { name := "logicSames", fn := fun _ => fun
  | [d1, d2] => { results := [.lit (.bool false)], args := [d1, d2] }
  | _ => none }
def LogicSamesWrongFalsely : Prop := logicSamesRow.holds Tryz.pinned (OpenSpec.ofChange logicSamesWrong)

/-- 'tipstavelaw15.LogicScopes': WHATEVER THE INPUT: true; the input reads as it did. -/
def logicScopesSpec : ChangeSpec := { name := "logicScopes", fn := fun _ => fun
  | [d1, d2] => { results := [.lit (.bool true)], args := [d1, d2] }
  | _ => none }
def logicScopesRow : OpenClaim := { program := "ytchbhcjhoocjaaagreatdoor", sum := "b72dcd8fac8298701fea57ac23c1766d8ad9f2949002923d229d3fc5fcb91d09", func := "tipstave/tipstavelaw15.LogicScopes", spec := "logicScopes", inPlace := ["internal/bytealg.CountString", "internal/bytealg.IndexByteString", "internal/bytealg.IndexString", "internal/reflectlite.ValueOf", "(internal/reflectlite.Value).Type", "(internal/reflectlite.Value).IsNil", "internal/reflectlite.TypeOf", "(internal/reflectlite.Value).Elem", "(internal/reflectlite.Value).Set", "internal/abi.NoEscape", "internal/bytealg.MakeNoZero"], unfollowed := true, recurses := true, named := ["tipstave/logic.policies", "unicode/utf8.first", "unicode/utf8.acceptRanges", "internal/bytealg.MaxLen", "errors.errorType"], loops := true, apart := false, laid := [("unicode/utf8.acceptRanges", laid_unicode_utf8_acceptRanges), ("errors.errorType", laid_errors_errorType), ("tipstave/logic.policies", laid_tipstave_logic_policies), ("unicode/utf8.first", laid_unicode_utf8_first)] }
def LogicScopesSaid : Prop := logicScopesRow.holds Tryz.pinned (OpenSpec.ofChange logicScopesSpec)

/-- ITS FALSE NEIGHBOUR: 'it returns false'. Refute it at one input. -/
def logicScopesWrong : ChangeSpec := { name := "logicScopes", fn := fun _ => fun
  | [d1, d2] => { results := [.lit (.bool false)], args := [d1, d2] }
  | _ => none }
def LogicScopesWrongFalsely : Prop := logicScopesRow.holds Tryz.pinned (OpenSpec.ofChange logicScopesWrong)

/-- 'tipstavelaw15.LogicFree': WHATEVER THE INPUT: true; the input reads as it did. -/
def logicFreeSpec : ChangeSpec := { name := "logicFree", fn := fun _ => fun
  | [d1, d2] => { results := [.lit (.bool true)], args := [d1, d2] }
  | _ => none }
def logicFreeRow : OpenClaim := { program := "ytchbhcjhoocjaaagreatdoor", sum := "b72dcd8fac8298701fea57ac23c1766d8ad9f2949002923d229d3fc5fcb91d09", func := "tipstave/tipstavelaw15.LogicFree", spec := "logicFree", inPlace := ["internal/bytealg.CountString", "internal/bytealg.IndexByteString", "internal/bytealg.IndexString", "internal/reflectlite.ValueOf", "(internal/reflectlite.Value).Type", "(internal/reflectlite.Value).IsNil", "internal/reflectlite.TypeOf", "(internal/reflectlite.Value).Elem", "(internal/reflectlite.Value).Set", "internal/abi.NoEscape", "internal/bytealg.MakeNoZero"], unfollowed := true, recurses := true, named := ["tipstave/logic.policies", "unicode/utf8.first", "unicode/utf8.acceptRanges", "internal/bytealg.MaxLen", "errors.errorType"], loops := true, apart := false, laid := [("unicode/utf8.acceptRanges", laid_unicode_utf8_acceptRanges), ("errors.errorType", laid_errors_errorType), ("tipstave/logic.policies", laid_tipstave_logic_policies), ("unicode/utf8.first", laid_unicode_utf8_first)] }
def LogicFreeSaid : Prop := logicFreeRow.holds Tryz.pinned (OpenSpec.ofChange logicFreeSpec)

/-- ITS FALSE NEIGHBOUR: 'it returns false'. Refute it at one input. -/
def logicFreeWrong : ChangeSpec := { name := "logicFree", fn := fun _ => fun
  | [d1, d2] => { results := [.lit (.bool false)], args := [d1, d2] }
  | _ => none }
def LogicFreeWrongFalsely : Prop := logicFreeRow.holds Tryz.pinned (OpenSpec.ofChange logicFreeWrong)

/- THE SECOND FORM. 'bulk': how many values and letters a reading holds, each counted each time it is reached (what is shared counts as often as it is met; a slice's spare places count too). A statement '..UptoSaid' is the law's where the arguments, and the package variables that the reading takes, are together of bulk at most 1048576: NARROWER than '..Said'. Prove '..Said' where nothing that the law and all that it calls make is longer than what came in: it says more and counts as full. Else prove '..UptoSaid'. A law counts once. -/
mutual
def uptoBulk {H : Type} : DataW H → Nat
  | .lit (.string bytes) => bytes.length + 1
  | .lit _ => 1
  | .nil => 1
  | .ptr d => uptoBulk d + 1
  | .slice elems spare => uptoBulkAll elems + uptoBulkAll spare + 1
  | .agg parts => uptoBulkAll parts + 1
  | .iface _ d => uptoBulk d + 1
  | .map entries => uptoBulkEntries entries + 1
  | .held _ => 1
def uptoBulkAll {H : Type} : List (DataW H) → Nat
  | [] => 0
  | d :: r => uptoBulk d + uptoBulkAll r
def uptoBulkEntries {H : Type} : List (Lit × DataW H) → Nat
  | [] => 0
  | x :: r => uptoBulkEntry x + uptoBulkEntries r
def uptoBulkEntry {H : Type} : Lit × DataW H → Nat
  | (.string bytes, d) => bytes.length + uptoBulk d + 1
  | (_, d) => uptoBulk d + 1
 end
def uptoSmall : (H : Type) → List (DataW H) → Bool := fun _ ds => decide (uptoBulkAll ds ≤ 1048576)
def OpenSpec.upto (s : _root_.Go.ChangeSpec) : _root_.Go.OpenSpec := { _root_.Go.OpenSpec.ofChange s with cond := some uptoSmall }

/-- 'tipstavelaw15.LogicTables', WHERE WHAT IT READS IS OF BULK AT MOST 1048576: true; the input reads as it did. -/
def logicTablesUptoRow : OpenClaim := { program := "ytchbhcjhoocjaaagreatdoor", sum := "b72dcd8fac8298701fea57ac23c1766d8ad9f2949002923d229d3fc5fcb91d09", func := "tipstave/tipstavelaw15.LogicTables", spec := "logicTables", inPlace := ["internal/bytealg.CountString", "internal/bytealg.IndexByteString", "internal/bytealg.IndexString", "internal/reflectlite.ValueOf", "(internal/reflectlite.Value).Type", "(internal/reflectlite.Value).IsNil", "internal/reflectlite.TypeOf", "(internal/reflectlite.Value).Elem", "(internal/reflectlite.Value).Set", "internal/abi.NoEscape", "internal/bytealg.MakeNoZero"], unfollowed := true, recurses := true, named := ["tipstave/logic.policies", "unicode/utf8.first", "unicode/utf8.acceptRanges", "internal/bytealg.MaxLen", "errors.errorType"], apart := false, laid := [("unicode/utf8.acceptRanges", laid_unicode_utf8_acceptRanges), ("errors.errorType", laid_errors_errorType), ("tipstave/logic.policies", laid_tipstave_logic_policies), ("unicode/utf8.first", laid_unicode_utf8_first)], narrowed := true }
def LogicTablesUptoSaid : Prop := logicTablesUptoRow.holds Tryz.pinned (OpenSpec.upto logicTablesSpec)

/-- 'tipstavelaw15.LogicInside', WHERE WHAT IT READS IS OF BULK AT MOST 1048576: true; the input reads as it did. -/
def logicInsideUptoRow : OpenClaim := { program := "ytchbhcjhoocjaaagreatdoor", sum := "b72dcd8fac8298701fea57ac23c1766d8ad9f2949002923d229d3fc5fcb91d09", func := "tipstave/tipstavelaw15.LogicInside", spec := "logicInside", inPlace := ["internal/bytealg.CountString", "internal/bytealg.IndexByteString", "internal/bytealg.IndexString", "internal/reflectlite.ValueOf", "(internal/reflectlite.Value).Type", "(internal/reflectlite.Value).IsNil", "internal/reflectlite.TypeOf", "(internal/reflectlite.Value).Elem", "(internal/reflectlite.Value).Set", "internal/abi.NoEscape", "internal/bytealg.MakeNoZero"], unfollowed := true, recurses := true, named := ["tipstave/logic.policies", "unicode/utf8.first", "unicode/utf8.acceptRanges", "internal/bytealg.MaxLen", "errors.errorType"], loops := true, apart := false, laid := [("unicode/utf8.acceptRanges", laid_unicode_utf8_acceptRanges), ("errors.errorType", laid_errors_errorType), ("tipstave/logic.policies", laid_tipstave_logic_policies), ("unicode/utf8.first", laid_unicode_utf8_first)], narrowed := true }
def LogicInsideUptoSaid : Prop := logicInsideUptoRow.holds Tryz.pinned (OpenSpec.upto logicInsideSpec)

/-- 'tipstavelaw15.LogicSames', WHERE WHAT IT READS IS OF BULK AT MOST 1048576: true; the input reads as it did. -/
def logicSamesUptoRow : OpenClaim := { program := "ytchbhcjhoocjaaagreatdoor", sum := "b72dcd8fac8298701fea57ac23c1766d8ad9f2949002923d229d3fc5fcb91d09", func := "tipstave/tipstavelaw15.LogicSames", spec := "logicSames", inPlace := ["internal/bytealg.CountString", "internal/bytealg.IndexByteString", "internal/bytealg.IndexString", "internal/reflectlite.ValueOf", "(internal/reflectlite.Value).Type", "(internal/reflectlite.Value).IsNil", "internal/reflectlite.TypeOf", "(internal/reflectlite.Value).Elem", "(internal/reflectlite.Value).Set", "internal/abi.NoEscape", "internal/bytealg.MakeNoZero"], unfollowed := true, recurses := true, named := ["tipstave/logic.policies", "unicode/utf8.first", "unicode/utf8.acceptRanges", "internal/bytealg.MaxLen", "errors.errorType"], loops := true, apart := false, laid := [("unicode/utf8.acceptRanges", laid_unicode_utf8_acceptRanges), ("errors.errorType", laid_errors_errorType), ("tipstave/logic.policies", laid_tipstave_logic_policies), ("unicode/utf8.first", laid_unicode_utf8_first)], narrowed := true }
def LogicSamesUptoSaid : Prop := logicSamesUptoRow.holds Tryz.pinned (OpenSpec.upto logicSamesSpec)

/-- 'tipstavelaw15.LogicScopes', WHERE WHAT IT READS IS OF BULK AT MOST 1048576: true; the input reads as it did. -/
def logicScopesUptoRow : OpenClaim := { program := "ytchbhcjhoocjaaagreatdoor", sum := "b72dcd8fac8298701fea57ac23c1766d8ad9f2949002923d229d3fc5fcb91d09", func := "tipstave/tipstavelaw15.LogicScopes", spec := "logicScopes", inPlace := ["internal/bytealg.CountString", "internal/bytealg.IndexByteString", "internal/bytealg.IndexString", "internal/reflectlite.ValueOf", "(internal/reflectlite.Value).Type", "(internal/reflectlite.Value).IsNil", "internal/reflectlite.TypeOf", "(internal/reflectlite.Value).Elem", "(internal/reflectlite.Value).Set", "internal/abi.NoEscape", "internal/bytealg.MakeNoZero"], unfollowed := true, recurses := true, named := ["tipstave/logic.policies", "unicode/utf8.first", "unicode/utf8.acceptRanges", "internal/bytealg.MaxLen", "errors.errorType"], loops := true, apart := false, laid := [("unicode/utf8.acceptRanges", laid_unicode_utf8_acceptRanges), ("errors.errorType", laid_errors_errorType), ("tipstave/logic.policies", laid_tipstave_logic_policies), ("unicode/utf8.first", laid_unicode_utf8_first)], narrowed := true }
def LogicScopesUptoSaid : Prop := logicScopesUptoRow.holds Tryz.pinned (OpenSpec.upto logicScopesSpec)

/-- 'tipstavelaw15.LogicFree', WHERE WHAT IT READS IS OF BULK AT MOST 1048576: true; the input reads as it did. -/
def logicFreeUptoRow : OpenClaim := { program := "ytchbhcjhoocjaaagreatdoor", sum := "b72dcd8fac8298701fea57ac23c1766d8ad9f2949002923d229d3fc5fcb91d09", func := "tipstave/tipstavelaw15.LogicFree", spec := "logicFree", inPlace := ["internal/bytealg.CountString", "internal/bytealg.IndexByteString", "internal/bytealg.IndexString", "internal/reflectlite.ValueOf", "(internal/reflectlite.Value).Type", "(internal/reflectlite.Value).IsNil", "internal/reflectlite.TypeOf", "(internal/reflectlite.Value).Elem", "(internal/reflectlite.Value).Set", "internal/abi.NoEscape", "internal/bytealg.MakeNoZero"], unfollowed := true, recurses := true, named := ["tipstave/logic.policies", "unicode/utf8.first", "unicode/utf8.acceptRanges", "internal/bytealg.MaxLen", "errors.errorType"], loops := true, apart := false, laid := [("unicode/utf8.acceptRanges", laid_unicode_utf8_acceptRanges), ("errors.errorType", laid_errors_errorType), ("tipstave/logic.policies", laid_tipstave_logic_policies), ("unicode/utf8.first", laid_unicode_utf8_first)], narrowed := true }
def LogicFreeUptoSaid : Prop := logicFreeUptoRow.holds Tryz.pinned (OpenSpec.upto logicFreeSpec)

end Rows
end Go.Proofs.YtchbhcjhoocjaaaGreatDoor
