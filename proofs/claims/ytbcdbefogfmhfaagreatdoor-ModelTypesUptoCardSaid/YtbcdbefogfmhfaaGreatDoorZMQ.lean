/-
  Models as arguments: what reads as one lies as one.
  What the rows' lists of variables give the walks, and a world for the witnesses (printed by wip/zgen.py).
-/
import Derived.Test.YtbcdbefogfmhfaaGreatDoorZG
import Derived.Test.YtbcdbefogfmhfaaGreatDoorMPL
import Derived.Shelf.Vars
import Derived.Test.YtbcdbefogfmhfaaGreatDoorCards
import Derived.Test.YtbcdbefogfmhfaaGreatDoorTie
import Derived.Test.YtbcdbefogfmhfaaGreatDoorZB
import Derived.Test.YtbcdbefogfmhfaaGreatDoorZE
import Derived.Test.YtbcdbefogfmhfaaGreatDoorMPA
namespace Go.Proofs.YtbcdbefogfmhfaaGreatDoor
open Go.ChangeShapes Go.WideShapes Go.ChangeAt Go.RowKit Go.Shelf Go.Lib Go.Joins Go.Deep

section
variable {H : Type} {enc : TypeId × Value → H} {w : World} {base : Nat} {held : Bool}
set_option maxRecDepth 100000 in
theorem open_it {fuel : Nat} {cs : List Value} {x : DataW H × List MemPlace} (h : DataW.trod enc Tryz.prog w base (fun _ => true) held fuel 54 cs = some x) :
    ∃ (t : It) (v : Value), cs = itL t v ∧ ExsV w v t.te.l ∧ t.bulk ≤ Rows.uptoBulk x.1 := by
  obtain ⟨xs, n, hn, hxs, hcl, hxl, hall⟩ := DataW.trod_struct Tryz.underlying54 h
  rw [show Tryz.prog.cellsOf 54 = 5 from by kernel_rfl] at hcl
  have t0 := hall 0 _ rfl
  have t1 := hall 1 _ rfl
  have t2 := hall 2 _ rfl
  match cs, hcl with
  | [c0, c1, c2, c3, c4], _ =>
    match xs, hxl with
    | [y0, y1, y2], _ =>
      simp [show Tryz.prog.cellsOf 9 = 1 from by kernel_rfl, show Tryz.prog.cellsOf 52 = 3 from by kernel_rfl] at t0 t1 t2
      obtain ⟨p, e0, rfl, _⟩ := DataW.trod_string Tryz.underlying9 t0
      obtain rfl := List.singleton_inj.1 e0
      obtain ⟨s, e1, rfl, _⟩ := DataW.trod_string Tryz.underlying9 t1
      obtain rfl := List.singleton_inj.1 e1
      obtain ⟨t, v, e2, hv, hb⟩ := open_te t2
      simp only [List.cons.injEq, and_true] at e2
      obtain ⟨rfl, rfl, rfl⟩ := e2
      refine ⟨⟨p, s, t⟩, c4, rfl, hv, ?_⟩
      rw [hxs]
      have h5 : p.data.toList.length = p.size := rfl
      have h6 : s.data.toList.length = s.size := rfl
      simp only [Rows.uptoBulk, List.map_cons, List.map_nil, bulk_cons, It.bulk]
      omega
set_option maxRecDepth 100000 in
theorem open_inp {fuel : Nat} {cs : List Value} {x : DataW H × List MemPlace} (h : DataW.trod enc Tryz.prog w base (fun _ => true) held fuel 33 cs = some x) :
    ∃ (t : Inp), cs = inpL t ∧ t.bulk ≤ Rows.uptoBulk x.1 := by
  obtain ⟨xs, n, hn, hxs, hcl, hxl, hall⟩ := DataW.trod_struct Tryz.underlying33 h
  rw [show Tryz.prog.cellsOf 33 = 3 from by kernel_rfl] at hcl
  have t0 := hall 0 _ rfl
  have t1 := hall 1 _ rfl
  have t2 := hall 2 _ rfl
  match cs, hcl with
  | [c0, c1, c2], _ =>
    match xs, hxl with
    | [y0, y1, y2], _ =>
      simp [show Tryz.prog.cellsOf 9 = 1 from by kernel_rfl] at t0 t1 t2
      obtain ⟨p, e0, rfl, _⟩ := DataW.trod_string Tryz.underlying9 t0
      obtain rfl := List.singleton_inj.1 e0
      obtain ⟨s, e1, rfl, _⟩ := DataW.trod_string Tryz.underlying9 t1
      obtain rfl := List.singleton_inj.1 e1
      obtain ⟨t, e2, rfl, _⟩ := DataW.trod_string Tryz.underlying9 t2
      obtain rfl := List.singleton_inj.1 e2
      refine ⟨⟨p, s, t⟩, rfl, ?_⟩
      rw [hxs]
      have h5 : p.data.toList.length = p.size := rfl
      have h6 : s.data.toList.length = s.size := rfl
      have h7 : t.data.toList.length = t.size := rfl
      simp only [Rows.uptoBulk, List.map_cons, List.map_nil, bulk_cons, Inp.bulk]
      omega
set_option maxRecDepth 100000 in
theorem open_kn {fuel : Nat} {cs : List Value} {x : DataW H × List MemPlace} (h : DataW.trod enc Tryz.prog w base (fun _ => true) held fuel 44 cs = some x) :
    ∃ (t : Kn) (vp vk : Value) (q : LgQ), cs = knL t vp vk q ∧ (StrV w vp t.ps ∧ StrV w vk t.kw ∧ LgAt w t.lg q) ∧ t.bulk ≤ Rows.uptoBulk x.1 := by
  obtain ⟨xs, n, hn, hxs, hcl, hxl, hall⟩ := DataW.trod_struct Tryz.underlying44 h
  rw [show Tryz.prog.cellsOf 44 = 15 from by kernel_rfl] at hcl
  have t0 := hall 0 _ rfl
  have t1 := hall 1 _ rfl
  have t2 := hall 2 _ rfl
  have t3 := hall 3 _ rfl
  have t4 := hall 4 _ rfl
  match cs, hcl with
  | [c0, c1, c2, c3, c4, c5, c6, c7, c8, c9, c10, c11, c12, c13, c14], _ =>
    match xs, hxl with
    | [y0, y1, y2, y3, y4], _ =>
      simp [show Tryz.prog.cellsOf 9 = 1 from by kernel_rfl, show Tryz.prog.cellsOf 35 = 1 from by kernel_rfl, show Tryz.prog.cellsOf 42 = 11 from by kernel_rfl] at t0 t1 t2 t3 t4
      obtain ⟨p, e0, rfl, _⟩ := DataW.trod_string Tryz.underlying9 t0
      obtain rfl := List.singleton_inj.1 e0
      obtain ⟨s, e1, rfl, _⟩ := DataW.trod_string Tryz.underlying9 t1
      obtain rfl := List.singleton_inj.1 e1
      obtain ⟨ps, hps, hpb⟩ := open_texts t2
      obtain ⟨ks, hks, hkb⟩ := open_texts t3
      obtain ⟨l, q, e4, hl, hb⟩ := open_lg _ _ _ t4
      refine ⟨⟨p, s, ps, ks, l⟩, c2, c3, q, ?_, ⟨hps, hks, hl⟩, ?_⟩
      · unfold knL
        rw [← e4]
        rfl
      · rw [hxs]
        have h5 : p.data.toList.length = p.size := rfl
        have h6 : s.data.toList.length = s.size := rfl
        simp only [Rows.uptoBulk, List.map_cons, List.map_nil, bulk_cons, Kn.bulk]
        omega
set_option maxRecDepth 100000 in
theorem open_de {fuel : Nat} {cs : List Value} {x : DataW H × List MemPlace} (h : DataW.trod enc Tryz.prog w base (fun _ => true) held fuel 46 cs = some x) :
    ∃ (t : De) (vn vk : Value) (q : LgQ), cs = deL t vn vk q ∧ (StrV w vn t.nd ∧ StrV w vk t.kw ∧ LgAt w t.lg q) ∧ t.bulk ≤ Rows.uptoBulk x.1 := by
  obtain ⟨xs, n, hn, hxs, hcl, hxl, hall⟩ := DataW.trod_struct Tryz.underlying46 h
  rw [show Tryz.prog.cellsOf 46 = 16 from by kernel_rfl] at hcl
  have t0 := hall 0 _ rfl
  have t1 := hall 1 _ rfl
  have t2 := hall 2 _ rfl
  have t3 := hall 3 _ rfl
  have t4 := hall 4 _ rfl
  have t5 := hall 5 _ rfl
  match cs, hcl with
  | [c0, c1, c2, c3, c4, c5, c6, c7, c8, c9, c10, c11, c12, c13, c14, c15], _ =>
    match xs, hxl with
    | [y0, y1, y2, y3, y4, y5], _ =>
      simp [show Tryz.prog.cellsOf 9 = 1 from by kernel_rfl, show Tryz.prog.cellsOf 35 = 1 from by kernel_rfl, show Tryz.prog.cellsOf 42 = 11 from by kernel_rfl] at t0 t1 t2 t3 t4 t5
      obtain ⟨p, e0, rfl, _⟩ := DataW.trod_string Tryz.underlying9 t0
      obtain rfl := List.singleton_inj.1 e0
      obtain ⟨s, e1, rfl, _⟩ := DataW.trod_string Tryz.underlying9 t1
      obtain rfl := List.singleton_inj.1 e1
      obtain ⟨t, e2, rfl, _⟩ := DataW.trod_string Tryz.underlying9 t2
      obtain rfl := List.singleton_inj.1 e2
      obtain ⟨ps, hps, hpb⟩ := open_texts t3
      obtain ⟨ks, hks, hkb⟩ := open_texts t4
      obtain ⟨l, q, e4, hl, hb⟩ := open_lg _ _ _ t5
      refine ⟨⟨p, s, t, ps, ks, l⟩, c3, c4, q, ?_, ⟨hps, hks, hl⟩, ?_⟩
      · unfold deL
        rw [← e4]
        rfl
      · rw [hxs]
        have h5 : p.data.toList.length = p.size := rfl
        have h6 : s.data.toList.length = s.size := rfl
        have h7 : t.data.toList.length = t.size := rfl
        simp only [Rows.uptoBulk, List.map_cons, List.map_nil, bulk_cons, De.bulk]
        omega
set_option maxRecDepth 100000 in
/-- What reads as a model lies as one. -/
theorem open_md {fuel : Nat} {cs : List Value} {x : DataW H × List MemPlace} (h : DataW.trod enc Tryz.prog w base (fun _ => true) held fuel 27 cs = some x) :
    ∃ (m : Md) (q : MdQ), cs = mdL m q ∧ MdAt w m q ∧ m.bulk ≤ Rows.uptoBulk x.1 := by
  obtain ⟨xs, n, hn, hxs, hcl, hxl, hall⟩ := DataW.trod_struct Tryz.underlying27 h
  rw [show Tryz.prog.cellsOf 27 = 7 from by kernel_rfl] at hcl
  have t0 := hall 0 _ rfl
  have t1 := hall 1 _ rfl
  have t2 := hall 2 _ rfl
  have t3 := hall 3 _ rfl
  have t4 := hall 4 _ rfl
  have t5 := hall 5 _ rfl
  have t6 := hall 6 _ rfl
  match cs, hcl with
  | [c0, c1, c2, c3, c4, c5, c6], _ =>
    match xs, hxl with
    | [y0, y1, y2, y3, y4, y5, y6], _ =>
      simp [show Tryz.prog.cellsOf 9 = 1 from by kernel_rfl, show Tryz.prog.cellsOf 22 = 1 from by kernel_rfl, show Tryz.prog.cellsOf 23 = 1 from by kernel_rfl, show Tryz.prog.cellsOf 24 = 1 from by kernel_rfl, show Tryz.prog.cellsOf 25 = 1 from by kernel_rfl] at t0 t1 t2 t3 t4 t5 t6
      obtain ⟨p, e0, rfl, _⟩ := DataW.trod_string Tryz.underlying9 t0
      obtain rfl := List.singleton_inj.1 e0
      obtain ⟨s, e1, rfl, _⟩ := DataW.trod_string Tryz.underlying9 t1
      obtain rfl := List.singleton_inj.1 e1
      obtain ⟨t, e2, rfl, _⟩ := DataW.trod_string Tryz.underlying9 t2
      obtain rfl := List.singleton_inj.1 e2
      obtain ⟨its, ia, ic, rfl, hi2, hi3, hi4⟩ := open_row Tryz.underlying22 5 (by omega) (by kernel_rfl) (fun cs (t : It) => ∃ v, cs = itL t v ∧ ExsV w v t.te.l) It.bulk _ (fun m _ cs x hx => by
        obtain ⟨t, v, rfl, ht, hb⟩ := open_it hx
        exact ⟨t, ⟨v, rfl, ht⟩, hb, rfl⟩) t3
      obtain ⟨ins, na, nc, rfl, hn2, hn3, hn4⟩ := open_row Tryz.underlying23 3 (by omega) (by kernel_rfl) (fun cs (t : Inp) => cs = inpL t) Inp.bulk _ (fun m _ cs x hx => by
        obtain ⟨t, rfl, hb⟩ := open_inp hx
        exact ⟨t, rfl, hb, rfl⟩) t4
      obtain ⟨kns, ka, kc, rfl, hk2, hk3, hk4⟩ := open_row Tryz.underlying24 15 (by omega) (by kernel_rfl) (fun cs (t : Kn) => ∃ vp vk q, cs = knL t vp vk q ∧ (StrV w vp t.ps ∧ StrV w vk t.kw ∧ LgAt w t.lg q)) Kn.bulk _ (fun m _ cs x hx => by
        obtain ⟨t, vp, vk, q, rfl, ht, hb⟩ := open_kn hx
        exact ⟨t, ⟨vp, vk, q, rfl, ht⟩, hb, rfl⟩) t5
      obtain ⟨des, da, dc, rfl, hd2, hd3, hd4⟩ := open_row Tryz.underlying25 16 (by omega) (by kernel_rfl) (fun cs (t : De) => ∃ vn vk q, cs = deL t vn vk q ∧ (StrV w vn t.nd ∧ StrV w vk t.kw ∧ LgAt w t.lg q)) De.bulk _ (fun m _ cs x hx => by
        obtain ⟨t, vp, vk, q, rfl, ht, hb⟩ := open_de hx
        exact ⟨t, ⟨vp, vk, q, rfl, ht⟩, hb, rfl⟩) t6
      refine ⟨⟨p, s, t, its, ins, kns, des⟩, ⟨ia, its.length, ic, na, ins.length, nc, ka, kns.length, kc, da, des.length, dc⟩, rfl, ⟨rfl, rfl, rfl, rfl, hi2, hn2, hk2, hd2, ?_, ?_, ?_, ?_⟩, ?_⟩
      · refine ThingsAt.mono hi3 fun b o t => ?_
        rintro ⟨cs, ⟨v, rfl, h1⟩, hc⟩
        exact ⟨v, hc, h1⟩
      · refine ThingsAt.mono hn3 fun b o t => ?_
        rintro ⟨cs, rfl, hc⟩
        exact hc
      · refine ThingsAt.mono hk3 fun b o t => ?_
        rintro ⟨cs, ⟨vp, vk, q, rfl, h1, h2, h3⟩, hc⟩
        exact ⟨vp, vk, q, hc, h1, h2, h3⟩
      · refine ThingsAt.mono hd3 fun b o t => ?_
        rintro ⟨cs, ⟨vp, vk, q, rfl, h1, h2, h3⟩, hc⟩
        exact ⟨vp, vk, q, hc, h1, h2, h3⟩
      · rw [hxs]
        have h5 : p.data.toList.length = p.size := rfl
        have h6 : s.data.toList.length = s.size := rfl
        have h7 : t.data.toList.length = t.size := rfl
        simp only [Rows.uptoBulk, List.map_cons, List.map_nil, bulk_cons]
        rw [show Rows.uptoBulkAll ([] : List (DataW H)) = 0 from rfl]
        unfold Md.bulk
        dsimp only
        omega
set_option maxRecDepth 100000 in
/-- A model that came in. -/
theorem open_mdv {r : Reach} {b0 : Nat} {v : Value} {d : DataW H} {p : List MemPlace} (hv : Value.okWide Tryz.prog w r b0 27 v) (h : DataW.Trod enc Tryz.prog w base (fun _ => true) held 27 v d p) :
    ∃ (m : Md) (q : MdQ), v = mdV m q ∧ MdAt w m q ∧ m.bulk ≤ Rows.uptoBulk d := by
  obtain ⟨cs, rfl, hsz⟩ := okWide_struct Tryz.underlying27 hv
  obtain ⟨fuel, hf⟩ := h
  obtain ⟨l, q, hcs, he, hb⟩ := open_md hf
  have hc : cs.toList = mdL l q := hcs
  refine ⟨l, q, ?_, he, hb⟩
  unfold mdV
  rw [← Array.toArray_toList (xs := cs), hc]
end
end Go.Proofs.YtbcdbefogfmhfaaGreatDoor

namespace Go.Proofs.YtbcdbefogfmhfaaGreatDoor
open Go.ChangeShapes Go.WideShapes Go.ChangeAt Go.RowKit Go.Shelf Go.Lib

set_option maxRecDepth 100000
theorem u8extra : U8Extra Tryz.prog Tryz.lays260_ren where
  n3 := by kernel_rfl
  n4 := by kernel_rfl
  y3 := by kernel_rfl
  y4 := by kernel_rfl
  c5 := by kernel_rfl
  c119 := by kernel_rfl
  c138 := by kernel_rfl

def rowLaid : List (String × DataW Unit) := [("unicode/utf8.acceptRanges", Rows.laid_unicode_utf8_acceptRanges), ("errors.errorType", Rows.laid_errors_errorType), ("tipstave/logic.policies", Rows.laid_tipstave_logic_policies), ("tipstave/model.basics", Rows.laid_tipstave_model_basics), ("unicode/utf8.first", Rows.laid_unicode_utf8_first)]
theorem first_eq : Rows.laid_unicode_utf8_first = Lib.firstData := by kernel_rfl
theorem accept_eq : (Rows.laid_unicode_utf8_acceptRanges : DataW Unit) = Lib.acceptData := by kernel_rfl
def firstCells : Array Value := (Lib.firstTab.map (Value.int .u8)).toArray
def acceptCells : Array Value := ((List.range 16).flatMap fun i => [Value.int .u8 (accLo i), Value.int .u8 (accHi i)]).toArray
/-- The list's variables hold what is laid. -/
def layTabs (h : Array Obj) : Array Obj :=
  (((((h.modify 3 fun | .cells _ t frozen => .cells acceptCells t frozen | o => o).modify 5 fun | .cells _ t frozen => .cells #[.iface 296 (.agg #[.pointer (some ⟨6, 241, none⟩)])] t frozen | o => o).modify 1 fun | .cells _ t frozen => .cells #[.string ⟨#[65, 78, 89]⟩, .string ⟨#[67, 79, 76, 76, 69, 67, 84]⟩, .string ⟨#[70, 73, 82, 83, 84]⟩, .string ⟨#[79, 85, 84, 80, 85, 84, 32, 79, 82, 68, 69, 82]⟩, .string ⟨#[80, 82, 73, 79, 82, 73, 84, 89]⟩, .string ⟨#[82, 85, 76, 69, 32, 79, 82, 68, 69, 82]⟩, .string ⟨#[85, 78, 73, 81, 85, 69]⟩] t frozen | o => o).modify 0 fun | .cells _ t frozen => .cells #[.string ⟨#[97, 110, 121]⟩, .string ⟨#[98, 111, 111, 108, 101, 97, 110]⟩, .string ⟨#[99, 111, 110, 116, 101, 120, 116]⟩, .string ⟨#[100, 97, 116, 101]⟩, .string ⟨#[110, 117, 109, 98, 101, 114]⟩, .string ⟨#[115, 116, 114, 105, 110, 103]⟩] t frozen | o => o).modify 2 fun | .cells _ t frozen => .cells firstCells t frozen | o => o)
/-- A world for the witness: the settled one, the listed variables holding what their initialisers lay. -/
noncomputable def laidWorld (os : Os) : World :=
  { World.holding Tryz.prog os ⟨#[], #[], []⟩ with heap := layTabs (World.holding Tryz.prog os ⟨#[], #[], []⟩).heap }
theorem laid_met_at (os : Os) (args : Array Value) : laidMetH Tryz.prog rowLaid ((laidWorld os).forCall (fun _ _ => 0) ⟨#[], args, []⟩).memory :=
  laidMetH_of_parts (laidMet_of_run' 8 (by kernel_rfl) (by kernel_rfl)) (by kernel_rfl)

theorem gErr : Tryz.prog.globalNamed "errors.errorType" = some 5 := by kernel_rfl
theorem rtErr : (Tryz.prog.cutTypes.find? (·.1 == "internal/reflectlite.rtype")).map (·.2) = some 296 := by kernel_rfl
theorem oneErr : ((List.range 338).filter fun t => Tryz.prog.rowNamed t [101, 114, 114, 111, 114]) = [241] := by kernel_rfl
theorem sizeErr : Tryz.prog.types.size = 338 := by kernel_rfl
theorem errt_of {W : World} (h : laidMetH Tryz.prog rowLaid W) : ErrT W := by
  have h' := (laidMetH_iff.1 h).2
  have hmem : ("errors.errorType", (Rows.laid_errors_errorType : DataW Unit)) ∈ rowLaid.filter fun x => x.2.handleName?.isSome :=
    List.mem_filter.2 ⟨by simp [rowLaid], rfl⟩
  obtain ⟨name, u, ty, e1, e2, e3, e4, e5⟩ := h' _ hmem
  have en : name = [101, 114, 114, 111, 114] := (Option.some.inj e1).symm
  subst en
  obtain rfl := Option.some.inj (rtErr.symm.trans e2)
  have hm : ty ∈ (List.range 338).filter fun t => Tryz.prog.rowNamed t [101, 114, 114, 111, 114] := List.mem_filter.2 ⟨List.mem_range.2 (by rw [← sizeErr]; exact e3), e4⟩
  rw [oneErr] at hm
  obtain rfl := List.mem_singleton.1 hm
  have hh : typeHandle Tryz.prog 241 = .pointer (some ⟨6, 241, none⟩) := by kernel_rfl
  rw [hh] at e5
  unfold ErrT
  simpa using World.var?_cell gErr e5 0

theorem env_of0 {W : World} (h : laidMetH Tryz.prog rowLaid W) (hS : W.ShapedOpen Tryz.prog) : Env W := by
  obtain ⟨ps, hv, _⟩ := (laidMetH_iff.1 h).1
  have h3 := Lib.LaidVars_reads hv "unicode/utf8.first" Rows.laid_unicode_utf8_first (List.mem_filter.2 ⟨by simp [rowLaid], rfl⟩)
  have h4 := Lib.LaidVars_reads hv "unicode/utf8.acceptRanges" Rows.laid_unicode_utf8_acceptRanges (List.mem_filter.2 ⟨by simp [rowLaid], rfl⟩)
  rw [first_eq] at h3
  rw [accept_eq] at h4
  refine ⟨utf8Tabs_of_reads Tryz.lays260 u8extra h3 h4, ?_⟩
  exact cell_of_shapedOpen_int (zero := #[.int .i64 0]) (t := 3) hS (of_decide_eq_true (by kernel_rfl)) (by kernel_rfl) rfl (by kernel_rfl) (by kernel_rfl) Tryz.underlying3

theorem env_of {W : World} (h : laidMetH Tryz.prog rowLaid W) (hS : W.ShapedOpen Tryz.prog) : EnvX W := ⟨env_of0 h hS, errt_of h, (env_of0 h hS).2⟩
theorem pol_eq : (Rows.laid_tipstave_logic_policies : DataW Unit) = .agg (polS.map fun s => .lit (.string s.data.toList)) := by kernel_rfl
theorem pol_of {W : World} (h : laidMetH Tryz.prog rowLaid W) : PolAt W := by
  obtain ⟨ps, hv, _⟩ := (laidMetH_iff.1 h).1
  have h3 := Lib.LaidVars_reads hv "tipstave/logic.policies" Rows.laid_tipstave_logic_policies (List.mem_filter.2 ⟨by simp [rowLaid], rfl⟩)
  rw [pol_eq] at h3
  obtain ⟨g, t, cs, fuel, p, hg, hty, hvar, hd⟩ := h3
  obtain rfl := Option.some.inj ((show Tryz.prog.globalNamed "tipstave/logic.policies" = some 1 by kernel_rfl).symm.trans hg)
  obtain rfl := Option.some.inj ((show (Tryz.prog.globals[1]?).map (·.type) = some 163 by kernel_rfl).symm.trans hty)
  intro j x hj
  have hj2 : j < 7 := by
    have := (List.getElem?_eq_some_iff.1 hj).1
    simpa [polS] using this
  obtain ⟨fuel', d, q, hdi, he⟩ := array_elem Tryz.underlying163 hd j hj2
  rw [show Tryz.prog.cellsOf 9 = 1 from by kernel_rfl, Nat.mul_one] at he
  obtain ⟨y, hy, hyd, _⟩ := DataW.trod_string Tryz.underlying9 he
  obtain ⟨hd1, _⟩ := Prod.mk.inj hyd
  subst hd1
  rw [List.getElem?_map, hj] at hdi
  simp only [Option.map_some, Option.some.injEq, DataW.lit.injEq, Lit.string.injEq] at hdi
  have hxy : x = y := data_ext hdi
  subst hxy
  refine ⟨1, 0, rfl, ?_⟩
  have hc := World.var?_cell hg hvar j
  rw [Nat.zero_add, hc, ← Array.getElem?_toList]
  have h0 := congrArg (·[0]?) hy
  simpa [List.getElem?_take, List.getElem?_drop] using h0
theorem basic_eq : (Rows.laid_tipstave_model_basics : DataW Unit) = .agg (basicS.map fun s => .lit (.string s.data.toList)) := by kernel_rfl
theorem basic_of {W : World} (h : laidMetH Tryz.prog rowLaid W) : EnvB W := by
  obtain ⟨ps, hv, _⟩ := (laidMetH_iff.1 h).1
  have h3 := Lib.LaidVars_reads hv "tipstave/model.basics" Rows.laid_tipstave_model_basics (List.mem_filter.2 ⟨by simp [rowLaid], rfl⟩)
  rw [basic_eq] at h3
  obtain ⟨g, t, cs, fuel, p, hg, hty, hvar, hd⟩ := h3
  obtain rfl := Option.some.inj ((show Tryz.prog.globalNamed "tipstave/model.basics" = some 0 by kernel_rfl).symm.trans hg)
  obtain rfl := Option.some.inj ((show (Tryz.prog.globals[0]?).map (·.type) = some 104 by kernel_rfl).symm.trans hty)
  intro j x hj
  have hj2 : j < 6 := by
    have := (List.getElem?_eq_some_iff.1 hj).1
    simpa [basicS] using this
  obtain ⟨fuel', d, q, hdi, he⟩ := array_elem Tryz.underlying104 hd j hj2
  rw [show Tryz.prog.cellsOf 9 = 1 from by kernel_rfl, Nat.mul_one] at he
  obtain ⟨y, hy, hyd, _⟩ := DataW.trod_string Tryz.underlying9 he
  obtain ⟨hd1, _⟩ := Prod.mk.inj hyd
  subst hd1
  rw [List.getElem?_map, hj] at hdi
  simp only [Option.map_some, Option.some.injEq, DataW.lit.injEq, Lit.string.injEq] at hdi
  have hxy : x = y := data_ext hdi
  subst hxy
  refine ⟨0, 0, rfl, ?_⟩
  have hc := World.var?_cell hg hvar j
  rw [Nat.zero_add, hc, ← Array.getElem?_toList]
  have h0 := congrArg (·[0]?) hy
  simpa [List.getElem?_take, List.getElem?_drop] using h0
/-- What a walk of the laws asks of the world. -/
theorem envM_of {W : World} (h : laidMetH Tryz.prog rowLaid W) (hS : W.ShapedOpen Tryz.prog) : EnvM W := ⟨env_of h hS, pol_of h, basic_of h⟩
end Go.Proofs.YtbcdbefogfmhfaaGreatDoor
