/-
  What the rows' lists of variables give the walks, and a world for the witnesses (printed by wip/zgen.py).
-/
import Derived.Shelf.Vars
import Derived.Test.YtpenfnabeckboaaGreatDoorCards
import Derived.Test.YtpenfnabeckboaaGreatDoorTie
import Derived.Test.YtpenfnabeckboaaGreatDoorZB
import Derived.Test.YtpenfnabeckboaaGreatDoorEXE
import Derived.Test.YtpenfnabeckboaaGreatDoorZE
import Derived.Test.YtpenfnabeckboaaGreatDoorMF
namespace Go.Proofs.YtpenfnabeckboaaGreatDoor
open Go.ChangeShapes Go.WideShapes Go.ChangeAt Go.RowKit Go.Shelf Go.Lib

set_option maxRecDepth 100000
theorem u8extra : U8Extra Tryz.prog Tryz.lays260_ren where
  n3 := by kernel_rfl
  n4 := by kernel_rfl
  y3 := by kernel_rfl
  y4 := by kernel_rfl
  c5 := by kernel_rfl
  c119 := by kernel_rfl
  c138 := by kernel_rfl

def rowLaid : List (String × DataW Unit) := [("math/bits.deBruijn32tab", Rows.laid_math_bits_deBruijn32tab), ("math/bits.deBruijn64tab", Rows.laid_math_bits_deBruijn64tab), ("internal/strconv.uint64pow10", Rows.laid_internal_strconv_uint64pow10), ("unicode/utf8.acceptRanges", Rows.laid_unicode_utf8_acceptRanges), ("errors.errorType", Rows.laid_errors_errorType), ("strconv.ErrRange", Rows.laid_strconv_ErrRange), ("strconv.ErrSyntax", Rows.laid_strconv_ErrSyntax), ("tipstave/feellex.signs", Rows.laid_tipstave_feellex_signs), ("unicode/utf8.first", Rows.laid_unicode_utf8_first)]
theorem first_eq : Rows.laid_unicode_utf8_first = Lib.firstData := by kernel_rfl
theorem accept_eq : (Rows.laid_unicode_utf8_acceptRanges : DataW Unit) = Lib.acceptData := by kernel_rfl
def firstCells : Array Value := (Lib.firstTab.map (Value.int .u8)).toArray
def acceptCells : Array Value := ((List.range 16).flatMap fun i => [Value.int .u8 (accLo i), Value.int .u8 (accHi i)]).toArray
noncomputable def low : Nat := (World.holding Tryz.prog default ⟨#[], #[], []⟩).heap.size
/-- The list's variables hold what is laid. -/
noncomputable def layTabs (h : Array Obj) : Array Obj :=
  (((((((((h.modify 8 fun | .cells _ t frozen => .cells #[.int .u8 0, .int .u8 1, .int .u8 28, .int .u8 2, .int .u8 29, .int .u8 14, .int .u8 24, .int .u8 3, .int .u8 30, .int .u8 22, .int .u8 20, .int .u8 15, .int .u8 25, .int .u8 17, .int .u8 4, .int .u8 8, .int .u8 31, .int .u8 27, .int .u8 13, .int .u8 23, .int .u8 21, .int .u8 19, .int .u8 16, .int .u8 7, .int .u8 26, .int .u8 12, .int .u8 18, .int .u8 6, .int .u8 11, .int .u8 5, .int .u8 10, .int .u8 9] t frozen | o => o).modify 9 fun | .cells _ t frozen => .cells #[.int .u8 0, .int .u8 1, .int .u8 56, .int .u8 2, .int .u8 57, .int .u8 49, .int .u8 28, .int .u8 3, .int .u8 61, .int .u8 58, .int .u8 42, .int .u8 50, .int .u8 38, .int .u8 29, .int .u8 17, .int .u8 4, .int .u8 62, .int .u8 47, .int .u8 59, .int .u8 36, .int .u8 45, .int .u8 43, .int .u8 51, .int .u8 22, .int .u8 53, .int .u8 39, .int .u8 33, .int .u8 30, .int .u8 24, .int .u8 18, .int .u8 12, .int .u8 5, .int .u8 63, .int .u8 55, .int .u8 48, .int .u8 27, .int .u8 60, .int .u8 41, .int .u8 37, .int .u8 16, .int .u8 46, .int .u8 35, .int .u8 44, .int .u8 21, .int .u8 52, .int .u8 32, .int .u8 23, .int .u8 11, .int .u8 54, .int .u8 26, .int .u8 40, .int .u8 15, .int .u8 34, .int .u8 20, .int .u8 31, .int .u8 10, .int .u8 25, .int .u8 14, .int .u8 19, .int .u8 9, .int .u8 13, .int .u8 8, .int .u8 7, .int .u8 6] t frozen | o => o).modify 7 fun | .cells _ t frozen => .cells #[.int .u64 1, .int .u64 10, .int .u64 100, .int .u64 1000, .int .u64 10000, .int .u64 100000, .int .u64 1000000, .int .u64 10000000, .int .u64 100000000, .int .u64 1000000000, .int .u64 10000000000, .int .u64 100000000000, .int .u64 1000000000000, .int .u64 10000000000000, .int .u64 100000000000000, .int .u64 1000000000000000, .int .u64 10000000000000000, .int .u64 100000000000000000, .int .u64 1000000000000000000, .int .u64 10000000000000000000] t frozen | o => o).modify 2 fun | .cells _ t frozen => .cells acceptCells t frozen | o => o).modify 5 fun | .cells _ t frozen => .cells #[.iface 238 (.agg #[.pointer (some ⟨10, 97, none⟩)])] t frozen | o => o).modify 4 fun | .cells _ t frozen => .cells #[.iface 225 (.pointer (some ⟨low + 0, 0, none⟩))] t frozen | o => o).modify 3 fun | .cells _ t frozen => .cells #[.iface 225 (.pointer (some ⟨low + 1, 0, none⟩))] t frozen | o => o).modify 0 fun | .cells _ t frozen => .cells #[.string ⟨#[42, 42]⟩, .string ⟨#[60, 61]⟩, .string ⟨#[62, 61]⟩, .string ⟨#[33, 61]⟩, .string ⟨#[46, 46]⟩, .string ⟨#[43]⟩, .string ⟨#[45]⟩, .string ⟨#[42]⟩, .string ⟨#[47]⟩, .string ⟨#[60]⟩, .string ⟨#[62]⟩, .string ⟨#[61]⟩, .string ⟨#[40]⟩, .string ⟨#[41]⟩, .string ⟨#[91]⟩, .string ⟨#[93]⟩, .string ⟨#[123]⟩, .string ⟨#[125]⟩, .string ⟨#[44]⟩, .string ⟨#[58]⟩, .string ⟨#[46]⟩] t frozen | o => o).modify 1 fun | .cells _ t frozen => .cells firstCells t frozen | o => o)
/-- A world for the witness: the settled one, the listed variables holding what their initialisers lay. -/
noncomputable def laidWorld (os : Os) : World :=
  { World.holding Tryz.prog os ⟨#[.cells #[.string ⟨#[118, 97, 108, 117, 101, 32, 111, 117, 116, 32, 111, 102, 32, 114, 97, 110, 103, 101]⟩] 227, .cells #[.string ⟨#[105, 110, 118, 97, 108, 105, 100, 32, 115, 121, 110, 116, 97, 120]⟩] 227], #[], []⟩ with heap := layTabs (World.holding Tryz.prog os ⟨#[.cells #[.string ⟨#[118, 97, 108, 117, 101, 32, 111, 117, 116, 32, 111, 102, 32, 114, 97, 110, 103, 101]⟩] 227, .cells #[.string ⟨#[105, 110, 118, 97, 108, 105, 100, 32, 115, 121, 110, 116, 97, 120]⟩] 227], #[], []⟩).heap }
theorem laid_met_at (os : Os) (args : Array Value) : laidMetH Tryz.prog rowLaid ((laidWorld os).forCall (fun _ _ => 0) ⟨#[], args, []⟩).memory :=
  laidMetH_of_parts (laidMet_of_run' 8 (by kernel_rfl) (by kernel_rfl)) (by kernel_rfl)

theorem signs_eq : (Rows.laid_tipstave_feellex_signs : DataW Unit) = .agg (signsL.map fun l => .lit (.string l)) := by kernel_rfl
theorem signs_of {W : World} (h : laidMetH Tryz.prog rowLaid W) : SignsAt W := by
  obtain ⟨ps, hv, _⟩ := (laidMetH_iff.1 h).1
  have h3 := Lib.LaidVars_reads hv "tipstave/feellex.signs" Rows.laid_tipstave_feellex_signs (List.mem_filter.2 ⟨by simp [rowLaid], rfl⟩)
  rw [signs_eq] at h3
  obtain ⟨g, t, cs, fuel, p, hg, hty, hvar, hd⟩ := h3
  obtain rfl := Option.some.inj ((show Tryz.prog.globalNamed "tipstave/feellex.signs" = some 0 by kernel_rfl).symm.trans hg)
  obtain rfl := Option.some.inj ((show (Tryz.prog.globals[0]?).map (·.type) = some 101 by kernel_rfl).symm.trans hty)
  intro j v hj
  have hj2 : j < 21 := by
    have := (List.getElem?_eq_some_iff.1 hj).1
    simpa [signsV, signsL] using this
  obtain ⟨fuel', d, q, hdi, he⟩ := array_elem Tryz.underlying101 hd j hj2
  rw [show Tryz.prog.cellsOf 9 = 1 from by kernel_rfl, Nat.mul_one] at he
  obtain ⟨x, hx, hxd, _⟩ := DataW.trod_string Tryz.underlying9 he
  obtain ⟨hd1, _⟩ := Prod.mk.inj hxd
  subst hd1
  unfold signsV at hj
  rw [List.getElem?_map] at hj hdi
  obtain ⟨l, hl, rfl⟩ := Option.map_eq_some_iff.1 hj
  rw [hl] at hdi
  simp only [Option.map_some, Option.some.injEq, DataW.lit.injEq, Lit.string.injEq] at hdi
  subst hdi
  have hc := World.var?_cell hg hvar j
  rw [Nat.zero_add, hc, ← Array.getElem?_toList]
  have h0 := congrArg (·[0]?) hx
  simpa [List.getElem?_take, List.getElem?_drop] using h0

theorem gErr : Tryz.prog.globalNamed "errors.errorType" = some 5 := by kernel_rfl
theorem rtErr : (Tryz.prog.cutTypes.find? (·.1 == "internal/reflectlite.rtype")).map (·.2) = some 238 := by kernel_rfl
theorem oneErr : ((List.range 292).filter fun t => Tryz.prog.rowNamed t [101, 114, 114, 111, 114]) = [97] := by kernel_rfl
theorem sizeErr : Tryz.prog.types.size = 292 := by kernel_rfl
theorem errt_of {W : World} (h : laidMetH Tryz.prog rowLaid W) : ErrT W := by
  have h' := (laidMetH_iff.1 h).2
  have hmem : ("errors.errorType", (Rows.laid_errors_errorType : DataW Unit)) ∈ rowLaid.filter fun x => x.2.handleName?.isSome :=
    List.mem_filter.2 ⟨by simp [rowLaid], rfl⟩
  obtain ⟨name, u, ty, e1, e2, e3, e4, e5⟩ := h' _ hmem
  have en : name = [101, 114, 114, 111, 114] := (Option.some.inj e1).symm
  subst en
  obtain rfl := Option.some.inj (rtErr.symm.trans e2)
  have hm : ty ∈ (List.range 292).filter fun t => Tryz.prog.rowNamed t [101, 114, 114, 111, 114] := List.mem_filter.2 ⟨List.mem_range.2 (by rw [← sizeErr]; exact e3), e4⟩
  rw [oneErr] at hm
  obtain rfl := List.mem_singleton.1 hm
  have hh : typeHandle Tryz.prog 97 = .pointer (some ⟨10, 97, none⟩) := by kernel_rfl
  rw [hh] at e5
  unfold ErrT
  simpa using World.var?_cell gErr e5 0

theorem env_of0 {W : World} (h : laidMetH Tryz.prog rowLaid W) (hS : W.ShapedOpen Tryz.prog) : Env W := by
  obtain ⟨ps, hv, _⟩ := (laidMetH_iff.1 h).1
  have h3 := Lib.LaidVars_reads hv "unicode/utf8.first" Rows.laid_unicode_utf8_first (List.mem_filter.2 ⟨by simp [rowLaid], rfl⟩)
  have h4 := Lib.LaidVars_reads hv "unicode/utf8.acceptRanges" Rows.laid_unicode_utf8_acceptRanges (List.mem_filter.2 ⟨by simp [rowLaid], rfl⟩)
  rw [first_eq] at h3
  rw [accept_eq] at h4
  refine ⟨utf8Tabs_of_reads Tryz.lays260 u8extra h3 h4, ?_⟩
  exact cell_of_shapedOpen_int (zero := #[.int .i64 0]) (t := 3) hS (of_decide_eq_true (by kernel_rfl)) (by kernel_rfl) rfl (by kernel_rfl) (by kernel_rfl) Tryz.underlying3

theorem env_of {W : World} (h : laidMetH Tryz.prog rowLaid W) (hS : W.ShapedOpen Tryz.prog) : EnvX W := ⟨env_of0 h hS, errt_of h, (env_of0 h hS).2⟩
section
variable {H : Type} {enc : TypeId × Value → H} {w : World} {base : Nat} {held : Bool}
/-- An expression that came in. -/
theorem open_exv {r : Reach} {b0 : Nat} {v : Value} {d : DataW H} {p : List MemPlace} (hv : Value.okWide Tryz.prog w r b0 25 v) (h : DataW.Trod enc Tryz.prog w base (fun _ => true) held 25 v d p) :
    ∃ (e : Ex) (vn vl : Value), v = exV e vn vl ∧ ExAt w e vn vl ∧ e.bulk ≤ Rows.uptoBulk d := by
  obtain ⟨cs, rfl, hsz⟩ := okWide_struct Tryz.underlying25 hv
  obtain ⟨fuel, hf⟩ := h
  obtain ⟨e, vn, vl, hcs, he, hb⟩ := open_ex fuel _ _ hf
  have hc : cs.toList = [.int .i64 e.k, .string e.s, vn, vl] := hcs
  refine ⟨e, vn, vl, ?_, he, hb⟩
  unfold exV
  rw [← Array.toArray_toList (xs := cs), hc]
end
theorem envS_of {W : World} (h : laidMetH Tryz.prog rowLaid W) (hS : W.ShapedOpen Tryz.prog) : EnvX W ∧ SignsAt W := ⟨env_of h hS, signs_of h⟩
end Go.Proofs.YtpenfnabeckboaaGreatDoor
