/-
  NARROWER THAN 'FOR EVERY INPUT', by the rows' own cells (each row's printed sentence says how): ModelMore: loops, laid · ModelLess: loops, laid · ModelTypes: laid · ModelSames: loops, laid · ModelRight: loops, laid.
  DERIVED. THE GIVEN ROWS OF THIS SEAT. 5 by the template 'for every input the law returns true; each argument reads behind the call as it read before'; 0 by the template 'total and deterministic' (their statements: YtbcdbefogfmhfaaGreatDoorTotals.lean).
  GIVEN WITH THE SEED: the statements are not yours to turn. If you find one false, say at which input.
  Laid BY PROGRAM, IN A SANDBOX (cutbox-rows.mjs): the forced cells as the released guide's own fill.sh prints them over the translation c5efacb4b9a865cf… (all of the seat's roots in one cut). By AI agents, Wed Nov 11 2026. No macro, syntax, notation, axiom, sorry.
-/
import Derived.Test.YtbcdbefogfmhfaaGreatDoorChecked
import GoSem.PinnedTables
import GoSem.Claim
import GoSem.ClaimJoined
import GoSem.ClaimMapViews
import Derived.JoinedTies
import Derived.KernelRfl
namespace Go.Proofs.YtbcdbefogfmhfaaGreatDoor
/- THE CELL 'sum', in the pinned program and in every row, IS THE sha256 OF THE DUMP (.gsa) THAT YtbcdbefogfmhfaaGreatDoorProg.lean LOADS. Nothing in Lean hashes anything: it is a label: what it is worth is what the hold of that sum in a sandbox is worth. -/
noncomputable def Tryz.pinned : Pinned := { name := "ytbcdbefogfmhfaagreatdoor", sum := "c5efacb4b9a865cff5887bcc738e50c2b0710fc4913353d8fc5b117486f6b276", checked := Tryz.checked }
namespace Rows
def none {H : Type} : Left H := { results := [], args := [] }

/- WHAT THE LISTED PACKAGE-LEVEL VARIABLES READ AS WHEN THE CALL BEGINS. Each datum BY PROGRAM (the guide's laid-datum.mjs) off the statement by which the dump's own 'gosem.cut.vars' lays the variable. In a bare row this is a premise. The card (YtbcdbefogfmhfaaGreatDoorCards.lean) ties it to the program's text. -/
def laid_unicode_utf8_acceptRanges {H : Type} : DataW H := .agg [.agg [.lit (.int .u8 128), .lit (.int .u8 191)], .agg [.lit (.int .u8 160), .lit (.int .u8 191)], .agg [.lit (.int .u8 128), .lit (.int .u8 159)], .agg [.lit (.int .u8 144), .lit (.int .u8 191)], .agg [.lit (.int .u8 128), .lit (.int .u8 143)], .agg [.lit (.int .u8 0), .lit (.int .u8 0)], .agg [.lit (.int .u8 0), .lit (.int .u8 0)], .agg [.lit (.int .u8 0), .lit (.int .u8 0)], .agg [.lit (.int .u8 0), .lit (.int .u8 0)], .agg [.lit (.int .u8 0), .lit (.int .u8 0)], .agg [.lit (.int .u8 0), .lit (.int .u8 0)], .agg [.lit (.int .u8 0), .lit (.int .u8 0)], .agg [.lit (.int .u8 0), .lit (.int .u8 0)], .agg [.lit (.int .u8 0), .lit (.int .u8 0)], .agg [.lit (.int .u8 0), .lit (.int .u8 0)], .agg [.lit (.int .u8 0), .lit (.int .u8 0)]]
def laid_errors_errorType {H : Type} : DataW H := .iface "internal/reflectlite.rtype" (.agg [.ptr (.lit (.string [101, 114, 114, 111, 114]))])
def laid_tipstave_logic_policies {H : Type} : DataW H := .agg [.lit (.string [65, 78, 89]), .lit (.string [67, 79, 76, 76, 69, 67, 84]), .lit (.string [70, 73, 82, 83, 84]), .lit (.string [79, 85, 84, 80, 85, 84, 32, 79, 82, 68, 69, 82]), .lit (.string [80, 82, 73, 79, 82, 73, 84, 89]), .lit (.string [82, 85, 76, 69, 32, 79, 82, 68, 69, 82]), .lit (.string [85, 78, 73, 81, 85, 69])]
def laid_tipstave_model_basics {H : Type} : DataW H := .agg [.lit (.string [97, 110, 121]), .lit (.string [98, 111, 111, 108, 101, 97, 110]), .lit (.string [99, 111, 110, 116, 101, 120, 116]), .lit (.string [100, 97, 116, 101]), .lit (.string [110, 117, 109, 98, 101, 114]), .lit (.string [115, 116, 114, 105, 110, 103])]
/-- One of Go's own tables, pinned by name: the form's constant. -/
def laid_unicode_utf8_first : DataW Unit := Go.Pinned.utf8First

/-- 'tipstavelaw16.ModelMore': WHATEVER THE INPUT: true; the input reads as it did. -/
def modelMoreSpec : ChangeSpec := { name := "modelMore", fn := fun _ => fun
  | [d1, d2] => { results := [.lit (.bool true)], args := [d1, d2] }
  | _ => none }
def modelMoreRow : OpenClaim := { program := "ytbcdbefogfmhfaagreatdoor", sum := "c5efacb4b9a865cff5887bcc738e50c2b0710fc4913353d8fc5b117486f6b276", func := "tipstave/tipstavelaw16.ModelMore", spec := "modelMore", inPlace := ["internal/bytealg.CountString", "internal/bytealg.IndexByteString", "internal/bytealg.IndexString", "internal/reflectlite.ValueOf", "(internal/reflectlite.Value).Type", "(internal/reflectlite.Value).IsNil", "internal/reflectlite.TypeOf", "(internal/reflectlite.Value).Elem", "(internal/reflectlite.Value).Set", "internal/abi.NoEscape", "internal/bytealg.MakeNoZero"], unfollowed := true, recurses := true, named := ["unicode/utf8.first", "unicode/utf8.acceptRanges", "internal/bytealg.MaxLen", "tipstave/model.basics", "errors.errorType", "tipstave/logic.policies"], loops := true, apart := false, laid := [("unicode/utf8.acceptRanges", laid_unicode_utf8_acceptRanges), ("errors.errorType", laid_errors_errorType), ("tipstave/logic.policies", laid_tipstave_logic_policies), ("tipstave/model.basics", laid_tipstave_model_basics), ("unicode/utf8.first", laid_unicode_utf8_first)] }
def ModelMoreSaid : Prop := modelMoreRow.holds Tryz.pinned (OpenSpec.ofChange modelMoreSpec)

/-- ITS FALSE NEIGHBOUR: 'it returns false'. Refute it at one input. -/
def modelMoreWrong : ChangeSpec := { name := "modelMore", fn := fun _ => fun
  | [d1, d2] => { results := [.lit (.bool false)], args := [d1, d2] }
  | _ => none }
def ModelMoreWrongFalsely : Prop := modelMoreRow.holds Tryz.pinned (OpenSpec.ofChange modelMoreWrong)

/-- 'tipstavelaw16.ModelLess': WHATEVER THE INPUT: true; the input reads as it did. -/
def modelLessSpec : ChangeSpec := { name := "modelLess", fn := fun _ => fun
  | [d1, d2] => { results := [.lit (.bool true)], args := [d1, d2] }
  | _ => none }
def modelLessRow : OpenClaim := { program := "ytbcdbefogfmhfaagreatdoor", sum := "c5efacb4b9a865cff5887bcc738e50c2b0710fc4913353d8fc5b117486f6b276", func := "tipstave/tipstavelaw16.ModelLess", spec := "modelLess", inPlace := ["internal/bytealg.CountString", "internal/bytealg.IndexByteString", "internal/bytealg.IndexString", "internal/reflectlite.ValueOf", "(internal/reflectlite.Value).Type", "(internal/reflectlite.Value).IsNil", "internal/reflectlite.TypeOf", "(internal/reflectlite.Value).Elem", "(internal/reflectlite.Value).Set", "internal/abi.NoEscape", "internal/bytealg.MakeNoZero"], unfollowed := true, recurses := true, named := ["unicode/utf8.first", "unicode/utf8.acceptRanges", "internal/bytealg.MaxLen", "tipstave/model.basics", "errors.errorType", "tipstave/logic.policies"], loops := true, apart := false, laid := [("unicode/utf8.acceptRanges", laid_unicode_utf8_acceptRanges), ("errors.errorType", laid_errors_errorType), ("tipstave/logic.policies", laid_tipstave_logic_policies), ("tipstave/model.basics", laid_tipstave_model_basics), ("unicode/utf8.first", laid_unicode_utf8_first)] }
def ModelLessSaid : Prop := modelLessRow.holds Tryz.pinned (OpenSpec.ofChange modelLessSpec)

/-- ITS FALSE NEIGHBOUR: 'it returns false'. Refute it at one input. -/
def modelLessWrong : ChangeSpec := { name := "modelLess", fn := fun _ => fun
  | [d1, d2] => { results := [.lit (.bool false)], args := [d1, d2] }
  | _ => none }
def ModelLessWrongFalsely : Prop := modelLessRow.holds Tryz.pinned (OpenSpec.ofChange modelLessWrong)

/-- 'tipstavelaw16.ModelTypes': WHATEVER THE INPUT: true; the input reads as it did. -/
def modelTypesSpec : ChangeSpec := { name := "modelTypes", fn := fun _ => fun
  | [d1, d2] => { results := [.lit (.bool true)], args := [d1, d2] }
  | _ => none }
def modelTypesRow : OpenClaim := { program := "ytbcdbefogfmhfaagreatdoor", sum := "c5efacb4b9a865cff5887bcc738e50c2b0710fc4913353d8fc5b117486f6b276", func := "tipstave/tipstavelaw16.ModelTypes", spec := "modelTypes", inPlace := ["internal/bytealg.CountString", "internal/bytealg.IndexByteString", "internal/bytealg.IndexString", "internal/reflectlite.ValueOf", "(internal/reflectlite.Value).Type", "(internal/reflectlite.Value).IsNil", "internal/reflectlite.TypeOf", "(internal/reflectlite.Value).Elem", "(internal/reflectlite.Value).Set", "internal/abi.NoEscape", "internal/bytealg.MakeNoZero"], unfollowed := true, recurses := true, named := ["unicode/utf8.first", "unicode/utf8.acceptRanges", "internal/bytealg.MaxLen", "tipstave/model.basics", "errors.errorType", "tipstave/logic.policies"], apart := false, laid := [("unicode/utf8.acceptRanges", laid_unicode_utf8_acceptRanges), ("errors.errorType", laid_errors_errorType), ("tipstave/logic.policies", laid_tipstave_logic_policies), ("tipstave/model.basics", laid_tipstave_model_basics), ("unicode/utf8.first", laid_unicode_utf8_first)] }
def ModelTypesSaid : Prop := modelTypesRow.holds Tryz.pinned (OpenSpec.ofChange modelTypesSpec)

/-- ITS FALSE NEIGHBOUR: 'it returns false'. Refute it at one input. -/
def modelTypesWrong : ChangeSpec := { name := "modelTypes", fn := fun _ => fun
  | [d1, d2] => { results := [.lit (.bool false)], args := [d1, d2] }
  | _ => none }
def ModelTypesWrongFalsely : Prop := modelTypesRow.holds Tryz.pinned (OpenSpec.ofChange modelTypesWrong)

/-- 'tipstavelaw16.ModelSames': WHATEVER THE INPUT: true; the input reads as it did. -/
def modelSamesSpec : ChangeSpec := { name := "modelSames", fn := fun _ => fun
  | [d1, d2] => { results := [.lit (.bool true)], args := [d1, d2] }
  | _ => none }
def modelSamesRow : OpenClaim := { program := "ytbcdbefogfmhfaagreatdoor", sum := "c5efacb4b9a865cff5887bcc738e50c2b0710fc4913353d8fc5b117486f6b276", func := "tipstave/tipstavelaw16.ModelSames", spec := "modelSames", inPlace := ["internal/bytealg.CountString", "internal/bytealg.IndexByteString", "internal/bytealg.IndexString", "internal/reflectlite.ValueOf", "(internal/reflectlite.Value).Type", "(internal/reflectlite.Value).IsNil", "internal/reflectlite.TypeOf", "(internal/reflectlite.Value).Elem", "(internal/reflectlite.Value).Set", "internal/abi.NoEscape", "internal/bytealg.MakeNoZero"], unfollowed := true, recurses := true, named := ["unicode/utf8.first", "unicode/utf8.acceptRanges", "internal/bytealg.MaxLen", "tipstave/model.basics", "errors.errorType", "tipstave/logic.policies"], loops := true, apart := false, laid := [("unicode/utf8.acceptRanges", laid_unicode_utf8_acceptRanges), ("errors.errorType", laid_errors_errorType), ("tipstave/logic.policies", laid_tipstave_logic_policies), ("tipstave/model.basics", laid_tipstave_model_basics), ("unicode/utf8.first", laid_unicode_utf8_first)] }
def ModelSamesSaid : Prop := modelSamesRow.holds Tryz.pinned (OpenSpec.ofChange modelSamesSpec)

/-- ITS FALSE NEIGHBOUR: 'it returns false'. Refute it at one input. -/
def modelSamesWrong : ChangeSpec := { name := "modelSames", fn := fun _ => fun
  | [d1, d2] => { results := [.lit (.bool false)], args := [d1, d2] }
  | _ => none }
def ModelSamesWrongFalsely : Prop := modelSamesRow.holds Tryz.pinned (OpenSpec.ofChange modelSamesWrong)

/-- 'tipstavelaw16.ModelRight': WHATEVER THE INPUT: true; the input reads as it did. -/
def modelRightSpec : ChangeSpec := { name := "modelRight", fn := fun _ => fun
  | [d] => { results := [.lit (.bool true)], args := [d] }
  | _ => none }
def modelRightRow : OpenClaim := { program := "ytbcdbefogfmhfaagreatdoor", sum := "c5efacb4b9a865cff5887bcc738e50c2b0710fc4913353d8fc5b117486f6b276", func := "tipstave/tipstavelaw16.ModelRight", spec := "modelRight", inPlace := ["internal/bytealg.CountString", "internal/bytealg.IndexByteString", "internal/bytealg.IndexString", "internal/reflectlite.ValueOf", "(internal/reflectlite.Value).Type", "(internal/reflectlite.Value).IsNil", "internal/reflectlite.TypeOf", "(internal/reflectlite.Value).Elem", "(internal/reflectlite.Value).Set", "internal/abi.NoEscape", "internal/bytealg.MakeNoZero"], unfollowed := true, recurses := true, named := ["unicode/utf8.first", "unicode/utf8.acceptRanges", "internal/bytealg.MaxLen", "tipstave/model.basics", "errors.errorType", "tipstave/logic.policies"], loops := true, apart := false, laid := [("unicode/utf8.acceptRanges", laid_unicode_utf8_acceptRanges), ("errors.errorType", laid_errors_errorType), ("tipstave/logic.policies", laid_tipstave_logic_policies), ("tipstave/model.basics", laid_tipstave_model_basics), ("unicode/utf8.first", laid_unicode_utf8_first)] }
def ModelRightSaid : Prop := modelRightRow.holds Tryz.pinned (OpenSpec.ofChange modelRightSpec)

/-- ITS FALSE NEIGHBOUR: 'it returns false'. Refute it at one input. -/
def modelRightWrong : ChangeSpec := { name := "modelRight", fn := fun _ => fun
  | [d] => { results := [.lit (.bool false)], args := [d] }
  | _ => none }
def ModelRightWrongFalsely : Prop := modelRightRow.holds Tryz.pinned (OpenSpec.ofChange modelRightWrong)

/- THE SECOND FORM. 'bulk': how many values and letters a reading holds, each counted each time it is reached (what is shared counts as often as it is met; a slice's spare places count too). A statement '..UptoSaid' is the law's where the arguments, and the package variables that the reading takes, are together of bulk at most 1048576: NARROWER than '..Said'. Prove '..Said' where nothing that the law and all that it calls make is longer than what came in: it says more and counts as full. Else prove '..UptoSaid'. A law counts once. -/
mutual
def uptoBulk {H : Type} : DataW H → Nat
  | .lit (.string bytes) => bytes.length + 1
  | .lit _ => 1
  | .nil => 1
  | .ptr d => uptoBulk d + 1
  | .slice elems spare => uptoBulkAll elems + uptoBulkAll spare + 1
  | .agg parts => uptoBulkAll parts + 1
  | .iface _ d => uptoBulk d + 1
  | .map entries => uptoBulkEntries entries + 1
  | .held _ => 1
def uptoBulkAll {H : Type} : List (DataW H) → Nat
  | [] => 0
  | d :: r => uptoBulk d + uptoBulkAll r
def uptoBulkEntries {H : Type} : List (Lit × DataW H) → Nat
  | [] => 0
  | x :: r => uptoBulkEntry x + uptoBulkEntries r
def uptoBulkEntry {H : Type} : Lit × DataW H → Nat
  | (.string bytes, d) => bytes.length + uptoBulk d + 1
  | (_, d) => uptoBulk d + 1
 end
def uptoSmall : (H : Type) → List (DataW H) → Bool := fun _ ds => decide (uptoBulkAll ds ≤ 1048576)
def OpenSpec.upto (s : _root_.Go.ChangeSpec) : _root_.Go.OpenSpec := { _root_.Go.OpenSpec.ofChange s with cond := some uptoSmall }

/-- 'tipstavelaw16.ModelMore', WHERE WHAT IT READS IS OF BULK AT MOST 1048576: true; the input reads as it did. -/
def modelMoreUptoRow : OpenClaim := { program := "ytbcdbefogfmhfaagreatdoor", sum := "c5efacb4b9a865cff5887bcc738e50c2b0710fc4913353d8fc5b117486f6b276", func := "tipstave/tipstavelaw16.ModelMore", spec := "modelMore", inPlace := ["internal/bytealg.CountString", "internal/bytealg.IndexByteString", "internal/bytealg.IndexString", "internal/reflectlite.ValueOf", "(internal/reflectlite.Value).Type", "(internal/reflectlite.Value).IsNil", "internal/reflectlite.TypeOf", "(internal/reflectlite.Value).Elem", "(internal/reflectlite.Value).Set", "internal/abi.NoEscape", "internal/bytealg.MakeNoZero"], unfollowed := true, recurses := true, named := ["unicode/utf8.first", "unicode/utf8.acceptRanges", "internal/bytealg.MaxLen", "tipstave/model.basics", "errors.errorType", "tipstave/logic.policies"], loops := true, apart := false, laid := [("unicode/utf8.acceptRanges", laid_unicode_utf8_acceptRanges), ("errors.errorType", laid_errors_errorType), ("tipstave/logic.policies", laid_tipstave_logic_policies), ("tipstave/model.basics", laid_tipstave_model_basics), ("unicode/utf8.first", laid_unicode_utf8_first)], narrowed := true }
def ModelMoreUptoSaid : Prop := modelMoreUptoRow.holds Tryz.pinned (OpenSpec.upto modelMoreSpec)

/-- 'tipstavelaw16.ModelLess', WHERE WHAT IT READS IS OF BULK AT MOST 1048576: true; the input reads as it did. -/
def modelLessUptoRow : OpenClaim := { program := "ytbcdbefogfmhfaagreatdoor", sum := "c5efacb4b9a865cff5887bcc738e50c2b0710fc4913353d8fc5b117486f6b276", func := "tipstave/tipstavelaw16.ModelLess", spec := "modelLess", inPlace := ["internal/bytealg.CountString", "internal/bytealg.IndexByteString", "internal/bytealg.IndexString", "internal/reflectlite.ValueOf", "(internal/reflectlite.Value).Type", "(internal/reflectlite.Value).IsNil", "internal/reflectlite.TypeOf", "(internal/reflectlite.Value).Elem", "(internal/reflectlite.Value).Set", "internal/abi.NoEscape", "internal/bytealg.MakeNoZero"], unfollowed := true, recurses := true, named := ["unicode/utf8.first", "unicode/utf8.acceptRanges", "internal/bytealg.MaxLen", "tipstave/model.basics", "errors.errorType", "tipstave/logic.policies"], loops := true, apart := false, laid := [("unicode/utf8.acceptRanges", laid_unicode_utf8_acceptRanges), ("errors.errorType", laid_errors_errorType), ("tipstave/logic.policies", laid_tipstave_logic_policies), ("tipstave/model.basics", laid_tipstave_model_basics), ("unicode/utf8.first", laid_unicode_utf8_first)], narrowed := true }
def ModelLessUptoSaid : Prop := modelLessUptoRow.holds Tryz.pinned (OpenSpec.upto modelLessSpec)

/-- 'tipstavelaw16.ModelTypes', WHERE WHAT IT READS IS OF BULK AT MOST 1048576: true; the input reads as it did. -/
def modelTypesUptoRow : OpenClaim := { program := "ytbcdbefogfmhfaagreatdoor", sum := "c5efacb4b9a865cff5887bcc738e50c2b0710fc4913353d8fc5b117486f6b276", func := "tipstave/tipstavelaw16.ModelTypes", spec := "modelTypes", inPlace := ["internal/bytealg.CountString", "internal/bytealg.IndexByteString", "internal/bytealg.IndexString", "internal/reflectlite.ValueOf", "(internal/reflectlite.Value).Type", "(internal/reflectlite.Value).IsNil", "internal/reflectlite.TypeOf", "(internal/reflectlite.Value).Elem", "(internal/reflectlite.Value).Set", "internal/abi.NoEscape", "internal/bytealg.MakeNoZero"], unfollowed := true, recurses := true, named := ["unicode/utf8.first", "unicode/utf8.acceptRanges", "internal/bytealg.MaxLen", "tipstave/model.basics", "errors.errorType", "tipstave/logic.policies"], apart := false, laid := [("unicode/utf8.acceptRanges", laid_unicode_utf8_acceptRanges), ("errors.errorType", laid_errors_errorType), ("tipstave/logic.policies", laid_tipstave_logic_policies), ("tipstave/model.basics", laid_tipstave_model_basics), ("unicode/utf8.first", laid_unicode_utf8_first)], narrowed := true }
def ModelTypesUptoSaid : Prop := modelTypesUptoRow.holds Tryz.pinned (OpenSpec.upto modelTypesSpec)

/-- 'tipstavelaw16.ModelSames', WHERE WHAT IT READS IS OF BULK AT MOST 1048576: true; the input reads as it did. -/
def modelSamesUptoRow : OpenClaim := { program := "ytbcdbefogfmhfaagreatdoor", sum := "c5efacb4b9a865cff5887bcc738e50c2b0710fc4913353d8fc5b117486f6b276", func := "tipstave/tipstavelaw16.ModelSames", spec := "modelSames", inPlace := ["internal/bytealg.CountString", "internal/bytealg.IndexByteString", "internal/bytealg.IndexString", "internal/reflectlite.ValueOf", "(internal/reflectlite.Value).Type", "(internal/reflectlite.Value).IsNil", "internal/reflectlite.TypeOf", "(internal/reflectlite.Value).Elem", "(internal/reflectlite.Value).Set", "internal/abi.NoEscape", "internal/bytealg.MakeNoZero"], unfollowed := true, recurses := true, named := ["unicode/utf8.first", "unicode/utf8.acceptRanges", "internal/bytealg.MaxLen", "tipstave/model.basics", "errors.errorType", "tipstave/logic.policies"], loops := true, apart := false, laid := [("unicode/utf8.acceptRanges", laid_unicode_utf8_acceptRanges), ("errors.errorType", laid_errors_errorType), ("tipstave/logic.policies", laid_tipstave_logic_policies), ("tipstave/model.basics", laid_tipstave_model_basics), ("unicode/utf8.first", laid_unicode_utf8_first)], narrowed := true }
def ModelSamesUptoSaid : Prop := modelSamesUptoRow.holds Tryz.pinned (OpenSpec.upto modelSamesSpec)

/-- 'tipstavelaw16.ModelRight', WHERE WHAT IT READS IS OF BULK AT MOST 1048576: true; the input reads as it did. -/
def modelRightUptoRow : OpenClaim := { program := "ytbcdbefogfmhfaagreatdoor", sum := "c5efacb4b9a865cff5887bcc738e50c2b0710fc4913353d8fc5b117486f6b276", func := "tipstave/tipstavelaw16.ModelRight", spec := "modelRight", inPlace := ["internal/bytealg.CountString", "internal/bytealg.IndexByteString", "internal/bytealg.IndexString", "internal/reflectlite.ValueOf", "(internal/reflectlite.Value).Type", "(internal/reflectlite.Value).IsNil", "internal/reflectlite.TypeOf", "(internal/reflectlite.Value).Elem", "(internal/reflectlite.Value).Set", "internal/abi.NoEscape", "internal/bytealg.MakeNoZero"], unfollowed := true, recurses := true, named := ["unicode/utf8.first", "unicode/utf8.acceptRanges", "internal/bytealg.MaxLen", "tipstave/model.basics", "errors.errorType", "tipstave/logic.policies"], loops := true, apart := false, laid := [("unicode/utf8.acceptRanges", laid_unicode_utf8_acceptRanges), ("errors.errorType", laid_errors_errorType), ("tipstave/logic.policies", laid_tipstave_logic_policies), ("tipstave/model.basics", laid_tipstave_model_basics), ("unicode/utf8.first", laid_unicode_utf8_first)], narrowed := true }
def ModelRightUptoSaid : Prop := modelRightUptoRow.holds Tryz.pinned (OpenSpec.upto modelRightSpec)

end Rows
end Go.Proofs.YtbcdbefogfmhfaaGreatDoor
