/-
  What the rows' lists of variables give the walks, and a world for the witnesses (printed by wip/zgen.py).
-/
import Derived.Shelf.Vars
import Derived.Test.YtchbhcjhoocjaaaGreatDoorCards
import Derived.Test.YtchbhcjhoocjaaaGreatDoorTie
import Derived.Test.YtchbhcjhoocjaaaGreatDoorZB
import Derived.Test.YtchbhcjhoocjaaaGreatDoorRLD
import Derived.Test.YtchbhcjhoocjaaaGreatDoorZG
namespace Go.Proofs.YtchbhcjhoocjaaaGreatDoor
open Go.ChangeShapes Go.WideShapes Go.ChangeAt Go.RowKit Go.Shelf Go.Lib

set_option maxRecDepth 100000
theorem u8extra : U8Extra Tryz.prog Tryz.lays260_ren where
  n3 := by kernel_rfl
  n4 := by kernel_rfl
  y3 := by kernel_rfl
  y4 := by kernel_rfl
  c5 := by kernel_rfl
  c119 := by kernel_rfl
  c138 := by kernel_rfl

def rowLaid : List (String × DataW Unit) := [("unicode/utf8.acceptRanges", Rows.laid_unicode_utf8_acceptRanges), ("errors.errorType", Rows.laid_errors_errorType), ("tipstave/logic.policies", Rows.laid_tipstave_logic_policies), ("unicode/utf8.first", Rows.laid_unicode_utf8_first)]
theorem first_eq : Rows.laid_unicode_utf8_first = Lib.firstData := by kernel_rfl
theorem accept_eq : (Rows.laid_unicode_utf8_acceptRanges : DataW Unit) = Lib.acceptData := by kernel_rfl
def firstCells : Array Value := (Lib.firstTab.map (Value.int .u8)).toArray
def acceptCells : Array Value := ((List.range 16).flatMap fun i => [Value.int .u8 (accLo i), Value.int .u8 (accHi i)]).toArray
/-- The list's variables hold what is laid. -/
def layTabs (h : Array Obj) : Array Obj :=
  ((((h.modify 3 fun | .cells _ t frozen => .cells acceptCells t frozen | o => o).modify 4 fun | .cells _ t frozen => .cells #[.iface 250 (.agg #[.pointer (some ⟨5, 195, none⟩)])] t frozen | o => o).modify 0 fun | .cells _ t frozen => .cells #[.string ⟨#[65, 78, 89]⟩, .string ⟨#[67, 79, 76, 76, 69, 67, 84]⟩, .string ⟨#[70, 73, 82, 83, 84]⟩, .string ⟨#[79, 85, 84, 80, 85, 84, 32, 79, 82, 68, 69, 82]⟩, .string ⟨#[80, 82, 73, 79, 82, 73, 84, 89]⟩, .string ⟨#[82, 85, 76, 69, 32, 79, 82, 68, 69, 82]⟩, .string ⟨#[85, 78, 73, 81, 85, 69]⟩] t frozen | o => o).modify 2 fun | .cells _ t frozen => .cells firstCells t frozen | o => o)
/-- A world for the witness: the settled one, the listed variables holding what their initialisers lay. -/
noncomputable def laidWorld (os : Os) : World :=
  { World.holding Tryz.prog os ⟨#[], #[], []⟩ with heap := layTabs (World.holding Tryz.prog os ⟨#[], #[], []⟩).heap }
theorem laid_met_at (os : Os) (args : Array Value) : laidMetH Tryz.prog rowLaid ((laidWorld os).forCall (fun _ _ => 0) ⟨#[], args, []⟩).memory :=
  laidMetH_of_parts (laidMet_of_run' 8 (by kernel_rfl) (by kernel_rfl)) (by kernel_rfl)

theorem gErr : Tryz.prog.globalNamed "errors.errorType" = some 4 := by kernel_rfl
theorem rtErr : (Tryz.prog.cutTypes.find? (·.1 == "internal/reflectlite.rtype")).map (·.2) = some 250 := by kernel_rfl
theorem oneErr : ((List.range 291).filter fun t => Tryz.prog.rowNamed t [101, 114, 114, 111, 114]) = [195] := by kernel_rfl
theorem sizeErr : Tryz.prog.types.size = 291 := by kernel_rfl
theorem errt_of {W : World} (h : laidMetH Tryz.prog rowLaid W) : ErrT W := by
  have h' := (laidMetH_iff.1 h).2
  have hmem : ("errors.errorType", (Rows.laid_errors_errorType : DataW Unit)) ∈ rowLaid.filter fun x => x.2.handleName?.isSome :=
    List.mem_filter.2 ⟨by simp [rowLaid], rfl⟩
  obtain ⟨name, u, ty, e1, e2, e3, e4, e5⟩ := h' _ hmem
  have en : name = [101, 114, 114, 111, 114] := (Option.some.inj e1).symm
  subst en
  obtain rfl := Option.some.inj (rtErr.symm.trans e2)
  have hm : ty ∈ (List.range 291).filter fun t => Tryz.prog.rowNamed t [101, 114, 114, 111, 114] := List.mem_filter.2 ⟨List.mem_range.2 (by rw [← sizeErr]; exact e3), e4⟩
  rw [oneErr] at hm
  obtain rfl := List.mem_singleton.1 hm
  have hh : typeHandle Tryz.prog 195 = .pointer (some ⟨5, 195, none⟩) := by kernel_rfl
  rw [hh] at e5
  unfold ErrT
  simpa using World.var?_cell gErr e5 0

theorem env_of0 {W : World} (h : laidMetH Tryz.prog rowLaid W) (hS : W.ShapedOpen Tryz.prog) : Env W := by
  obtain ⟨ps, hv, _⟩ := (laidMetH_iff.1 h).1
  have h3 := Lib.LaidVars_reads hv "unicode/utf8.first" Rows.laid_unicode_utf8_first (List.mem_filter.2 ⟨by simp [rowLaid], rfl⟩)
  have h4 := Lib.LaidVars_reads hv "unicode/utf8.acceptRanges" Rows.laid_unicode_utf8_acceptRanges (List.mem_filter.2 ⟨by simp [rowLaid], rfl⟩)
  rw [first_eq] at h3
  rw [accept_eq] at h4
  refine ⟨utf8Tabs_of_reads Tryz.lays260 u8extra h3 h4, ?_⟩
  exact cell_of_shapedOpen_int (zero := #[.int .i64 0]) (t := 3) hS (of_decide_eq_true (by kernel_rfl)) (by kernel_rfl) rfl (by kernel_rfl) (by kernel_rfl) Tryz.underlying3

theorem env_of {W : World} (h : laidMetH Tryz.prog rowLaid W) (hS : W.ShapedOpen Tryz.prog) : EnvX W := ⟨env_of0 h hS, errt_of h, (env_of0 h hS).2⟩
theorem pol_eq : (Rows.laid_tipstave_logic_policies : DataW Unit) = .agg (polS.map fun s => .lit (.string s.data.toList)) := by kernel_rfl
theorem pol_of {W : World} (h : laidMetH Tryz.prog rowLaid W) : PolAt W := by
  obtain ⟨ps, hv, _⟩ := (laidMetH_iff.1 h).1
  have h3 := Lib.LaidVars_reads hv "tipstave/logic.policies" Rows.laid_tipstave_logic_policies (List.mem_filter.2 ⟨by simp [rowLaid], rfl⟩)
  rw [pol_eq] at h3
  obtain ⟨g, t, cs, fuel, p, hg, hty, hvar, hd⟩ := h3
  obtain rfl := Option.some.inj ((show Tryz.prog.globalNamed "tipstave/logic.policies" = some 0 by kernel_rfl).symm.trans hg)
  obtain rfl := Option.some.inj ((show (Tryz.prog.globals[0]?).map (·.type) = some 94 by kernel_rfl).symm.trans hty)
  intro j x hj
  have hj2 : j < 7 := by
    have := (List.getElem?_eq_some_iff.1 hj).1
    simpa [polS] using this
  obtain ⟨fuel', d, q, hdi, he⟩ := array_elem Tryz.underlying94 hd j hj2
  rw [show Tryz.prog.cellsOf 9 = 1 from by kernel_rfl, Nat.mul_one] at he
  obtain ⟨y, hy, hyd, _⟩ := DataW.trod_string Tryz.underlying9 he
  obtain ⟨hd1, _⟩ := Prod.mk.inj hyd
  subst hd1
  rw [List.getElem?_map, hj] at hdi
  simp only [Option.map_some, Option.some.injEq, DataW.lit.injEq, Lit.string.injEq] at hdi
  have hxy : x = y := data_ext hdi
  subst hxy
  refine ⟨0, 0, rfl, ?_⟩
  have hc := World.var?_cell hg hvar j
  rw [Nat.zero_add, hc, ← Array.getElem?_toList]
  have h0 := congrArg (·[0]?) hy
  simpa [List.getElem?_take, List.getElem?_drop] using h0
/-- What a walk of the laws asks of the world. -/
theorem envL_of {W : World} (h : laidMetH Tryz.prog rowLaid W) (hS : W.ShapedOpen Tryz.prog) : EnvX W ∧ PolAt W := ⟨env_of h hS, pol_of h⟩
section
variable {H : Type} {enc : TypeId × Value → H} {w : World} {base : Nat} {held : Bool}
/-- A logic that came in. -/
theorem open_lgv {r : Reach} {b0 : Nat} {v : Value} {d : DataW H} {p : List MemPlace} (hv : Value.okWide Tryz.prog w r b0 30 v) (h : DataW.Trod enc Tryz.prog w base (fun _ => true) held 30 v d p) :
    ∃ (l : Lg) (q : LgQ), v = lgV l q ∧ LgAt w l q ∧ l.bulk ≤ Rows.uptoBulk d := by
  obtain ⟨cs, rfl, hsz⟩ := okWide_struct Tryz.underlying30 hv
  obtain ⟨fuel, hf⟩ := h
  obtain ⟨l, q, hcs, he, hb⟩ := open_lg fuel _ _ hf
  have hc : cs.toList = lgC l q := hcs
  refine ⟨l, q, ?_, he, hb⟩
  unfold lgV
  rw [← Array.toArray_toList (xs := cs), hc]
  rfl
end
theorem bulk_strs2 {H : Type} : ∀ l : List ByteArray, Rows.uptoBulkAll (strs (H := H) l) = sumS l
  | [] => rfl
  | x :: l => by
    rw [show strs (H := H) (x :: l) = .lit (.string x.data.toList) :: strs l from rfl, bulk_cons, bulk_strs2 l, sumS_cons]
    simp [Rows.uptoBulk]
section
variable {H : Type} {enc : TypeId × Value → H} {w : World} {base : Nat} {spare : Nat → Bool} {held : Bool}
theorem open_strs {r : Reach} {b0 : Nat} {v : Value} {d : DataW H} {p : List MemPlace} (hv : Value.okWide Tryz.prog w r b0 23 v) (h : DataW.Trod enc Tryz.prog w base (fun _ => true) held 23 v d p) :
    ∃ l : List ByteArray, RowAt0 w v (strsV l) ∧ sumS l ≤ Rows.uptoBulk d := by
  obtain ⟨fuel, hf⟩ := h
  rcases okWide_slice2 Tryz.underlying23 hv with rfl | ⟨b, off, len, cap, rfl, hlt⟩
  · rcases open_strings Tryz.underlying23 Tryz.underlying9 (by kernel_rfl) hf with ⟨hcs, hx⟩ | ⟨a, len', cap', ss, hcs, _⟩
    · exact ⟨[], .inl ⟨rfl, rfl⟩, Nat.zero_le _⟩
    · simp [Value.cells] at hcs
  · rcases open_strings Tryz.underlying23 Tryz.underlying9 (by kernel_rfl) hf with ⟨hcs, hx⟩ | ⟨a, len', cap', ss, hcs, _, hl, hm, hz, hx, hcell, hsz⟩
    · simp [Value.cells] at hcs
    · simp [Value.cells] at hcs
      obtain ⟨rfl, rfl, rfl⟩ := hcs
      simp at hz
      obtain ⟨hd, hpl⟩ := Prod.mk.inj hx
      subst hd hpl
      have hlen : (strsV (ss.take len)).length = len := by rw [strsV_length, List.length_take]; omega
      refine ⟨ss.take len, .inr ⟨b, off, cap, by rw [hlen], by rw [hlen]; exact hl, hlt, fun j hj => ?_⟩, ?_⟩
      · rw [hlen] at hj
        have := hcell j (by omega)
        rw [show ((⟨b, off, none⟩ : Addr).add j) = ⟨b, off + j, none⟩ from by simp [Addr.add]] at this
        rw [this]
        have hj2 : j < ss.length := by omega
        simp [strsV, List.getElem?_eq_getElem hj2]
      · simp only [Rows.uptoBulk, bulk_strs2]
        omega
end
end Go.Proofs.YtchbhcjhoocjaaaGreatDoor
