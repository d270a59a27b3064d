/-
  What the rows' lists of variables give the walks of number, a world for the witnesses, a number as an argument.
-/
import Derived.Test.YtdpmibkiihddjaaDoorCards
import Derived.Test.YtdpmibkiihddjaaDoorTie
import Derived.Test.YtdpmibkiihddjaaDoorNF
import Derived.WalkKit
import Derived.ProofKit
import Derived.OpenShut
import Derived.Deep.DeepHandedRow
import Derived.Lib.LaidTab
import Derived.Lib.LaidU8
import Derived.Lib.SmallJoins
import Derived.LaidSub
import Derived.LaidHandle
namespace Go.Proofs.YtdpmibkiihddjaaDoor
open Go.ChangeShapes Go.WideShapes Go.ChangeAt Go.RowKit Go.Shelf Go.Lib Go.Joins

theorem own : ownKnob Tryd.prog.godebug = none := by kernel_rfl

def rowLaid : List (String × DataW Unit) := [("unicode/utf8.acceptRanges", Rows.laid_unicode_utf8_acceptRanges), ("errors.errorType", Rows.laid_errors_errorType), ("unicode/utf8.first", Rows.laid_unicode_utf8_first)]
/-- The cells of the tables. -/
def firstCells : Array Value := (Lib.firstTab.map (Value.int .u8)).toArray
def acceptCells : Array Value := ((List.range 16).flatMap fun i => [Value.int .u8 (accLo i), Value.int .u8 (accHi i)]).toArray
def layTabs (h : Array Obj) : Array Obj :=
  ((h.modify 2 fun
      | .cells _ t frozen => .cells firstCells t frozen
      | o => o).modify 3 fun
      | .cells _ t frozen => .cells acceptCells t frozen
      | o => o).modify 0 fun
      | .cells _ t frozen => .cells #[.iface 112 (.agg #[.pointer (some ⟨4, 52, none⟩)])] t frozen
      | o => o
/-- A world for the witness: the settled one, the listed variables holding what their initialisers lay. -/
noncomputable def laidWorld (os : Os) : World :=
  { World.holding Tryd.prog os ⟨#[], #[], []⟩ with heap := layTabs (World.holding Tryd.prog os ⟨#[], #[], []⟩).heap }
theorem laid_met_at (os : Os) (args : Array Value) : laidMetH Tryd.prog rowLaid ((laidWorld os).forCall (fun _ _ => 0) ⟨#[], args, []⟩).memory :=
  laidMetH_of_parts (laidMet_of_run' 8 (by kernel_rfl) (by kernel_rfl)) (by kernel_rfl)

/-- The row's last step where all that lay before the call lies as it lay. -/
theorem post_bel {H : Type} {enc : TypeId × Value → H} {P : Program} {f : Func} {s : ChangeSpec} {apart fresh handsOn : Bool} {W W' : World} {args : Array Value} {v : Value} {ds gs : List (DataW H)} {pa : List MemPlace}
    (hW : DataW.Whole enc P f.params.toList s.vars apart W args.toList ds gs (pa ++ []))
    (hres : ∀ (b : Nat) (sp : Nat → Bool) (hd : Bool), DataW.TrodAll enc P W' b sp hd f.resultTypes.toList (v.resultList f.resultTypes.size) (s.fn H (ds ++ gs)).results [])
    (hargs : ∀ sp : Nat → Bool, (∀ p ∈ pa ++ [], sp p.block = true) → DataW.TrodAll enc P W' 0 sp true f.params.toList args.toList (s.fn H (ds ++ gs)).args pa)
    (hvars : ∀ sp : Nat → Bool, (∀ p ∈ pa ++ [], sp p.block = true) → DataW.TrodVars enc P W' sp s.vars (s.fn H (ds ++ gs)).vars [])
    (hb : Bel W W') : s.post enc P f apart fresh handsOn false W args v W' := by
  have hin : ∀ p ∈ pa ++ [], (fun b => decide (b < W.heap.size)) p.block = true := fun p hp => decide_eq_true (hW.lt p hp)
  exact ⟨ds, gs, pa ++ [], [], pa, [], hW, hres _ _ _, hargs _ hin, hvars _ hin, World.keptBut_mono (fun p hp => ⟨hp, Or.inr (List.mem_append.1 hp)⟩) (Below.frame hb (· ∈ pa ++ [])), fun h => by cases h⟩

theorem gErr : Tryd.prog.globalNamed "errors.errorType" = some 0 := by kernel_rfl
theorem rtErr : (Tryd.prog.cutTypes.find? (·.1 == "internal/reflectlite.rtype")).map (·.2) = some 112 := by kernel_rfl
theorem oneErr : ((List.range 160).filter fun t => Tryd.prog.rowNamed t [101, 114, 114, 111, 114]) = [52] := by kernel_rfl
theorem sizeErr : Tryd.prog.types.size = 160 := by kernel_rfl
theorem env_of {W : World} (h : laidMetH Tryd.prog rowLaid W) (hS : W.ShapedOpen Tryd.prog) : EnvN W := by
  refine ⟨?_, (Tryd.laysM145).s1_3 W hS⟩
  have h' := (laidMetH_iff.1 h).2
  have hmem : ("errors.errorType", (Rows.laid_errors_errorType : DataW Unit)) ∈ rowLaid.filter fun x => x.2.handleName?.isSome :=
    List.mem_filter.2 ⟨by simp [rowLaid], rfl⟩
  obtain ⟨name, u, ty, e1, e2, e3, e4, e5⟩ := h' _ hmem
  have en : name = [101, 114, 114, 111, 114] := (Option.some.inj e1).symm
  subst en
  obtain rfl := Option.some.inj (rtErr.symm.trans e2)
  have hm : ty ∈ (List.range 160).filter fun t => Tryd.prog.rowNamed t [101, 114, 114, 111, 114] := List.mem_filter.2 ⟨List.mem_range.2 (by rw [← sizeErr]; exact e3), e4⟩
  rw [oneErr] at hm
  obtain rfl := List.mem_singleton.1 hm
  have hh : typeHandle Tryd.prog 52 = .pointer (some ⟨4, 52, none⟩) := by kernel_rfl
  rw [hh] at e5
  unfold ErrT
  simpa using World.var?_cell gErr e5 0

section
variable {H : Type} {enc : TypeId × Value → H} {w : World} {base : Nat} {spare : Nat → Bool} {held : Bool}
set_option maxRecDepth 100000 in
/-- A number that came in. -/
theorem open_num {r : Reach} {b0 : Nat} {v : Value} {d : DataW H} {p : List MemPlace} (hv : Value.okWide Tryd.prog w r b0 24 v) (h : DataW.Trod enc Tryd.prog w base spare held 24 v d p) :
    ∃ (s : ByteArray) (n : Int), v = .agg #[.string s, .int .i64 n] ∧ d = .agg [.lit (.string s.data.toList), .lit (.int .i64 n)] ∧ p = [] ∧ s.size ≤ maxLen ∧ (Lit.int .i64 n).wf = true := by
  obtain ⟨c0, c1, y0, y1, m, rfl, rfl, rfl, hy0, hy1⟩ := open_agg2 Tryd.underlying24 (by kernel_rfl) (by kernel_rfl) hv h
  obtain ⟨a, e0, rfl, wa⟩ := DataW.trod_string Tryd.underlying9 hy0
  obtain ⟨b, e1, rfl, wb⟩ := DataW.trod_int Tryd.underlying3 hy1
  simp at e0 e1
  subst e0 e1
  exact ⟨a, b, rfl, rfl, rfl, wa, wb⟩
theorem shut_num {s : ByteArray} {n : Int} (hs : s.size ≤ maxLen) (hn : (Lit.int .i64 n).wf = true) :
    DataW.Trod enc Tryd.prog w base spare held 24 (.agg #[.string s, .int .i64 n]) (.agg [.lit (.string s.data.toList), .lit (.int .i64 n)]) [] :=
  shut_agg2 (y0 := (.lit (.string s.data.toList), [])) (y1 := (.lit (.int .i64 n), [])) Tryd.underlying24 (by kernel_rfl) (by kernel_rfl) ⟨1, by simp [DataW.trod, Tryd.underlying9, hs]⟩ ⟨1, by simp [DataW.trod, Tryd.underlying3, hn]⟩
end
end Go.Proofs.YtdpmibkiihddjaaDoor
