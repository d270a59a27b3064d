/-
  What the rows' lists of variables give the walks, and a world for the witnesses.
-/
import Derived.Test.YtaaedmipcffjoaaDoorCards
import Derived.Test.YtaaedmipcffjoaaDoorTie
import Derived.Test.YtaaedmipcffjoaaDoorC
import Derived.WalkKit
import Derived.ProofKit
import Derived.OpenShut
import Derived.Deep.DeepHandedRow
import Derived.Lib.LaidTab
import Derived.Lib.LaidU8
namespace Go.Proofs.YtaaedmipcffjoaaDoor
open Go.ChangeShapes Go.WideShapes Go.ChangeAt Go.RowKit Go.Shelf Go.Lib

theorem own : ownKnob Tryd.prog.godebug = none := by kernel_rfl

theorem u8extra : U8Extra Tryd.prog Tryd.lays260_ren where
  n3 := by kernel_rfl
  n4 := by kernel_rfl
  y3 := by kernel_rfl
  y4 := by kernel_rfl
  c5 := by kernel_rfl
  c119 := by kernel_rfl
  c138 := by kernel_rfl

def rowLaid : List (String × DataW Unit) := [("unicode/utf8.acceptRanges", Rows.laid_unicode_utf8_acceptRanges), ("unicode/utf8.first", Rows.laid_unicode_utf8_first)]
theorem first_eq : Rows.laid_unicode_utf8_first = Lib.firstData := by kernel_rfl
theorem accept_eq : (Rows.laid_unicode_utf8_acceptRanges : DataW Unit) = Lib.acceptData := by kernel_rfl
/-- The cells of the two tables. -/
def firstCells : Array Value := (Lib.firstTab.map (Value.int .u8)).toArray
def acceptCells : Array Value := ((List.range 16).flatMap fun i => [Value.int .u8 (accLo i), Value.int .u8 (accHi i)]).toArray
def layTabs (h : Array Obj) : Array Obj :=
  (h.modify 1 fun
      | .cells _ t frozen => .cells firstCells t frozen
      | o => o).modify 2 fun
      | .cells _ t frozen => .cells acceptCells t frozen
      | o => o
/-- The row's last step where all that lay before the call lies as it lay. -/
theorem post_bel {H : Type} {enc : TypeId × Value → H} {P : Program} {f : Func} {s : ChangeSpec} {apart fresh handsOn : Bool} {W W' : World} {args : Array Value} {v : Value} {ds gs : List (DataW H)} {pa : List MemPlace}
    (hW : DataW.Whole enc P f.params.toList s.vars apart W args.toList ds gs (pa ++ []))
    (hres : ∀ (b : Nat) (sp : Nat → Bool) (hd : Bool), DataW.TrodAll enc P W' b sp hd f.resultTypes.toList (v.resultList f.resultTypes.size) (s.fn H (ds ++ gs)).results [])
    (hargs : ∀ sp : Nat → Bool, (∀ p ∈ pa ++ [], sp p.block = true) → DataW.TrodAll enc P W' 0 sp true f.params.toList args.toList (s.fn H (ds ++ gs)).args pa)
    (hvars : ∀ sp : Nat → Bool, (∀ p ∈ pa ++ [], sp p.block = true) → DataW.TrodVars enc P W' sp s.vars (s.fn H (ds ++ gs)).vars [])
    (hb : Bel W W') : s.post enc P f apart fresh handsOn false W args v W' := by
  have hin : ∀ p ∈ pa ++ [], (fun b => decide (b < W.heap.size)) p.block = true := fun p hp => decide_eq_true (hW.lt p hp)
  exact ⟨ds, gs, pa ++ [], [], pa, [], hW, hres _ _ _, hargs _ hin, hvars _ hin, World.keptBut_mono (fun p hp => ⟨hp, Or.inr (List.mem_append.1 hp)⟩) (Below.frame hb (· ∈ pa ++ [])), fun h => by cases h⟩

theorem env_of {W : World} (h : laidMetH Tryd.prog rowLaid W) (hS : W.ShapedOpen Tryd.prog) : Env W := by
  rw [MakeChecks.laidMetH_plain _ _ _ (by kernel_rfl)] at h
  obtain ⟨ps, hv, _⟩ := h
  have h3 := Lib.LaidVars_reads hv "unicode/utf8.first" _ (by simp [rowLaid]; rfl)
  have h4 := Lib.LaidVars_reads hv "unicode/utf8.acceptRanges" _ (by simp [rowLaid]; rfl)
  rw [first_eq] at h3
  rw [accept_eq] at h4
  refine ⟨utf8Tabs_of_reads Tryd.lays260 u8extra h3 h4, ?_⟩
  exact (Tryd.laysM143).s1_3 W hS
end Go.Proofs.YtaaedmipcffjoaaDoor
