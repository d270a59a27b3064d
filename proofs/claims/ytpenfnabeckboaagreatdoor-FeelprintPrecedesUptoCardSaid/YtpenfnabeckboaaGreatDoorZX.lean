/-
  What the rows' lists of variables give the walks, and a world for the witnesses (printed by wip/zgen.py).
-/
import Derived.Shelf.Vars
import Derived.Test.YtpenfnabeckboaaGreatDoorCards
import Derived.Test.YtpenfnabeckboaaGreatDoorTie
import Derived.Test.YtpenfnabeckboaaGreatDoorZB
import Derived.Test.YtpenfnabeckboaaGreatDoorEXE
import Derived.Test.YtpenfnabeckboaaGreatDoorZE
namespace Go.Proofs.YtpenfnabeckboaaGreatDoor
open Go.ChangeShapes Go.WideShapes Go.ChangeAt Go.RowKit Go.Shelf Go.Lib

set_option maxRecDepth 100000
theorem u8extra : U8Extra Tryz.prog Tryz.lays260_ren where
  n3 := by kernel_rfl
  n4 := by kernel_rfl
  y3 := by kernel_rfl
  y4 := by kernel_rfl
  c5 := by kernel_rfl
  c119 := by kernel_rfl
  c138 := by kernel_rfl

def rowLaid : List (String × DataW Unit) := [("unicode/utf8.acceptRanges", Rows.laid_unicode_utf8_acceptRanges), ("errors.errorType", Rows.laid_errors_errorType), ("unicode/utf8.first", Rows.laid_unicode_utf8_first)]
theorem first_eq : Rows.laid_unicode_utf8_first = Lib.firstData := by kernel_rfl
theorem accept_eq : (Rows.laid_unicode_utf8_acceptRanges : DataW Unit) = Lib.acceptData := by kernel_rfl
def firstCells : Array Value := (Lib.firstTab.map (Value.int .u8)).toArray
def acceptCells : Array Value := ((List.range 16).flatMap fun i => [Value.int .u8 (accLo i), Value.int .u8 (accHi i)]).toArray
/-- The list's variables hold what is laid. -/
def layTabs (h : Array Obj) : Array Obj :=
  (((h.modify 2 fun | .cells _ t frozen => .cells acceptCells t frozen | o => o).modify 5 fun | .cells _ t frozen => .cells #[.iface 238 (.agg #[.pointer (some ⟨10, 97, none⟩)])] t frozen | o => o).modify 1 fun | .cells _ t frozen => .cells firstCells t frozen | o => o)
/-- A world for the witness: the settled one, the listed variables holding what their initialisers lay. -/
noncomputable def laidWorld (os : Os) : World :=
  { World.holding Tryz.prog os ⟨#[], #[], []⟩ with heap := layTabs (World.holding Tryz.prog os ⟨#[], #[], []⟩).heap }
theorem laid_met_at (os : Os) (args : Array Value) : laidMetH Tryz.prog rowLaid ((laidWorld os).forCall (fun _ _ => 0) ⟨#[], args, []⟩).memory :=
  laidMetH_of_parts (laidMet_of_run' 8 (by kernel_rfl) (by kernel_rfl)) (by kernel_rfl)

theorem gErr : Tryz.prog.globalNamed "errors.errorType" = some 5 := by kernel_rfl
theorem rtErr : (Tryz.prog.cutTypes.find? (·.1 == "internal/reflectlite.rtype")).map (·.2) = some 238 := by kernel_rfl
theorem oneErr : ((List.range 292).filter fun t => Tryz.prog.rowNamed t [101, 114, 114, 111, 114]) = [97] := by kernel_rfl
theorem sizeErr : Tryz.prog.types.size = 292 := by kernel_rfl
theorem errt_of {W : World} (h : laidMetH Tryz.prog rowLaid W) : ErrT W := by
  have h' := (laidMetH_iff.1 h).2
  have hmem : ("errors.errorType", (Rows.laid_errors_errorType : DataW Unit)) ∈ rowLaid.filter fun x => x.2.handleName?.isSome :=
    List.mem_filter.2 ⟨by simp [rowLaid], rfl⟩
  obtain ⟨name, u, ty, e1, e2, e3, e4, e5⟩ := h' _ hmem
  have en : name = [101, 114, 114, 111, 114] := (Option.some.inj e1).symm
  subst en
  obtain rfl := Option.some.inj (rtErr.symm.trans e2)
  have hm : ty ∈ (List.range 292).filter fun t => Tryz.prog.rowNamed t [101, 114, 114, 111, 114] := List.mem_filter.2 ⟨List.mem_range.2 (by rw [← sizeErr]; exact e3), e4⟩
  rw [oneErr] at hm
  obtain rfl := List.mem_singleton.1 hm
  have hh : typeHandle Tryz.prog 97 = .pointer (some ⟨10, 97, none⟩) := by kernel_rfl
  rw [hh] at e5
  unfold ErrT
  simpa using World.var?_cell gErr e5 0

theorem env_of0 {W : World} (h : laidMetH Tryz.prog rowLaid W) (hS : W.ShapedOpen Tryz.prog) : Env W := by
  obtain ⟨ps, hv, _⟩ := (laidMetH_iff.1 h).1
  have h3 := Lib.LaidVars_reads hv "unicode/utf8.first" Rows.laid_unicode_utf8_first (List.mem_filter.2 ⟨by simp [rowLaid], rfl⟩)
  have h4 := Lib.LaidVars_reads hv "unicode/utf8.acceptRanges" Rows.laid_unicode_utf8_acceptRanges (List.mem_filter.2 ⟨by simp [rowLaid], rfl⟩)
  rw [first_eq] at h3
  rw [accept_eq] at h4
  refine ⟨utf8Tabs_of_reads Tryz.lays260 u8extra h3 h4, ?_⟩
  exact cell_of_shapedOpen_int (zero := #[.int .i64 0]) (t := 3) hS (of_decide_eq_true (by kernel_rfl)) (by kernel_rfl) rfl (by kernel_rfl) (by kernel_rfl) Tryz.underlying3

theorem env_of {W : World} (h : laidMetH Tryz.prog rowLaid W) (hS : W.ShapedOpen Tryz.prog) : EnvX W := ⟨env_of0 h hS, errt_of h, (env_of0 h hS).2⟩
section
variable {H : Type} {enc : TypeId × Value → H} {w : World} {base : Nat} {held : Bool}
/-- An expression that came in. -/
theorem open_exv {r : Reach} {b0 : Nat} {v : Value} {d : DataW H} {p : List MemPlace} (hv : Value.okWide Tryz.prog w r b0 25 v) (h : DataW.Trod enc Tryz.prog w base (fun _ => true) held 25 v d p) :
    ∃ (e : Ex) (vn vl : Value), v = exV e vn vl ∧ ExAt w e vn vl ∧ e.bulk ≤ Rows.uptoBulk d := by
  obtain ⟨cs, rfl, hsz⟩ := okWide_struct Tryz.underlying25 hv
  obtain ⟨fuel, hf⟩ := h
  obtain ⟨e, vn, vl, hcs, he, hb⟩ := open_ex fuel _ _ hf
  have hc : cs.toList = [.int .i64 e.k, .string e.s, vn, vl] := hcs
  refine ⟨e, vn, vl, ?_, he, hb⟩
  unfold exV
  rw [← Array.toArray_toList (xs := cs), hc]
end
theorem bulk_strs2 {H : Type} : ∀ l : List ByteArray, Rows.uptoBulkAll (strs (H := H) l) = sumS l
  | [] => rfl
  | x :: l => by
    rw [show strs (H := H) (x :: l) = .lit (.string x.data.toList) :: strs l from rfl, bulk_cons, bulk_strs2 l, sumS_cons]
    simp [Rows.uptoBulk]
section
variable {H : Type} {enc : TypeId × Value → H} {w : World} {base : Nat} {spare : Nat → Bool} {held : Bool}
theorem open_strs {r : Reach} {b0 : Nat} {v : Value} {d : DataW H} {p : List MemPlace} (hv : Value.okWide Tryz.prog w r b0 22 v) (h : DataW.Trod enc Tryz.prog w base (fun _ => true) held 22 v d p) :
    ∃ l : List ByteArray, RowAt0 w v (strsV l) ∧ sumS l ≤ Rows.uptoBulk d := by
  obtain ⟨fuel, hf⟩ := h
  rcases okWide_slice2 Tryz.underlying22 hv with rfl | ⟨b, off, len, cap, rfl, hlt⟩
  · rcases open_strings Tryz.underlying22 Tryz.underlying9 (by kernel_rfl) hf with ⟨hcs, hx⟩ | ⟨a, len', cap', ss, hcs, _⟩
    · exact ⟨[], .inl ⟨rfl, rfl⟩, Nat.zero_le _⟩
    · simp [Value.cells] at hcs
  · rcases open_strings Tryz.underlying22 Tryz.underlying9 (by kernel_rfl) hf with ⟨hcs, hx⟩ | ⟨a, len', cap', ss, hcs, _, hl, hm, hz, hx, hcell, hsz⟩
    · simp [Value.cells] at hcs
    · simp [Value.cells] at hcs
      obtain ⟨rfl, rfl, rfl⟩ := hcs
      simp at hz
      obtain ⟨hd, hpl⟩ := Prod.mk.inj hx
      subst hd hpl
      have hlen : (strsV (ss.take len)).length = len := by rw [strsV_length, List.length_take]; omega
      refine ⟨ss.take len, .inr ⟨b, off, cap, by rw [hlen], by rw [hlen]; exact hl, hlt, fun j hj => ?_⟩, ?_⟩
      · rw [hlen] at hj
        have := hcell j (by omega)
        rw [show ((⟨b, off, none⟩ : Addr).add j) = ⟨b, off + j, none⟩ from by simp [Addr.add]] at this
        rw [this]
        have hj2 : j < ss.length := by omega
        simp [strsV, List.getElem?_eq_getElem hj2]
      · simp only [Rows.uptoBulk, bulk_strs2]
        omega
end
end Go.Proofs.YtpenfnabeckboaaGreatDoor
