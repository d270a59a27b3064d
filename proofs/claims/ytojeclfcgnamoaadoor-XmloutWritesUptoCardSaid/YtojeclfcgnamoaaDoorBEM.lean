/-
  A strings.Builder at the head of a struct of the program's own: copyCheck, WriteString, WriteByte.
-/
import Derived.Lib.Builder
import Derived.Lib.AppendStr
import Derived.Test.YtojeclfcgnamoaaDoorShelf
import Derived.Test.YtojeclfcgnamoaaDoorKT
namespace Go.Proofs.YtojeclfcgnamoaaDoor
open Go.RowKit Go.Shelf

/-- A struct of type E in block b, which begins with a Builder that holds these bytes; behind it the struct's other cells. -/
def EB (E : TypeId) (B b : Nat) (rest : List Value) (bs : List Value) (w : World) : Prop :=
  B ≤ b ∧ ∃ p v, (p = none ∨ p = some ⟨b, 0, none⟩) ∧ w.heap[b]? = some (.cells (Value.pointer p :: v :: rest).toArray E (0, 0)) ∧ w.ownsRow B 5 1 v bs.length bs ∧ v.ownBlock ≠ some b
theorem EB.new {E B : Nat} {rest : List Value} (w : World) (hB : B ≤ w.heap.size) : EB E B w.heap.size rest [] (w.alloc (.cells (Value.pointer none :: .slice none 0 0 :: rest).toArray E)) :=
  ⟨hB, none, .slice none 0 0, .inl rfl, World.alloc_heap_new _ _, World.ownsRow_nil _ _ _ _, by simp [Value.ownBlock]⟩
theorem EB.bel {E B b : Nat} {rest bs : List Value} {w w' : World} (h : EB E B b rest bs w) (hb : Bel w w') : EB E B b rest bs w' := by
  obtain ⟨h1, p, v, hp, h2, h3, h4⟩ := h
  exact ⟨h1, p, v, hp, (hb.block (Array.getElem?_eq_some_iff.1 h2).1).trans h2, own_bel h3 hb, h4⟩
theorem EB.lt {E B b : Nat} {rest bs : List Value} {w : World} (h : EB E B b rest bs w) : b < w.heap.size := by
  obtain ⟨_, p, v, _, h2, _⟩ := h
  exact (Array.getElem?_eq_some_iff.1 h2).1
theorem EB.far {E B b : Nat} {rest bs : List Value} {w : World} (h : EB E B b rest bs w) (j : Nat) (x : Value) (hx : rest[j]? = some x) : w.cell? ⟨b, j + 2, none⟩ = some x := by
  obtain ⟨_, p, v, _, h2, _⟩ := h
  rw [Lib.cell_of_heap h2]
  simpa using hx
/-- What Go's Builder asks of the struct: a Builder lies at its head. -/
def Heads (E : TypeId) (n : Nat) : Prop := liesAt Tryd.prog Tryd.prog.depth E (n / Tryd.prog.cellsOf E) 0 55 1 = true ∧ E ≠ 5

/-- All blocks are kept but those of the struct's type and of bytes. -/
def keepB (E t : TypeId) : Bool := !(t == E || t == 5)
theorem keepB_self (E : TypeId) : keepB E E = false := by simp [keepB]
theorem keepB_byte (E : TypeId) : keepB E 5 = false := by simp [keepB]
theorem blk_of {W : World} {b : Nat} {cs : List Value} {t : TypeId} (h : W.heap[b]? = some (.cells cs.toArray t (0, 0))) : Blk W b t cs := h
set_option maxHeartbeats 1000000 in
set_option maxRecDepth 100000 in
theorem ecopy_c (E : TypeId) (B b : Nat) (rest bs : List Value) (w : World) (hE : Heads E (rest.length + 2)) (h : EB E B b rest bs w) :
    Calls Tryd.prog 58 #[.pointer (some ⟨b, 0, none⟩)] w fun e w' => e = .returned (.tuple #[]) ∧ (∃ v, w'.heap[b]? = some (.cells (Value.pointer (some ⟨b, 0, none⟩) :: v :: rest).toArray E (0, 0)) ∧ w'.ownsRow B 5 1 v bs.length bs ∧ v.ownBlock ≠ some b) ∧ Below B w w' ∧ KeepT (keepB E) w w' := by
  obtain ⟨hB, p, v, hp, hb, hown, hne⟩ := h
  have h0 : w.cell? ⟨b, 0, none⟩ = some (.pointer p) := by rw [Lib.cell_of_heap hb]; rfl
  have hsh : w.shape? b = some (E, rest.length + 2) := by simp [World.shape?, hb]
  have hfz : w.frozen? ⟨b, 0, none⟩ = false := Lib.frozen_of_heap hb 0
  obtain ⟨j, hj, hjs⟩ := Option.map_eq_some_iff.1 (show (Tryd.prog.info? 55).map (fun i => i.size) = some 2 from by kernel_rfl)
  rcases hp with rfl | rfl
  · have HB := Lib.hid hb
    have HO := Lib.hid hown
    have HN := Lib.hid hne
    clear hb hown hne
    go_enter Tryd.func58, Tryd.ntmps58
    go_wp2
    rw [Lib.run_to_unsafe w ⟨b, 0, none⟩ Tryd.underlying53 Tryd.underlying109 hj (by rw [hjs]; decide) hsh (by show 0 < _; omega)]
    simp only [Result.andThen]
    rw [Oper.upon_value]
    go_wp2
    rw [run_callFunc_extern Tryd.func72 (by kernel_rfl) (by kernel_rfl) (by kernel_rfl) (e := Extern.AbiNoEscape.same) (by kernel_rfl)]
    rw [Lib.run_noEscape]
    simp only [Result.andThen]
    rw [Oper.upon_value]
    go_wp2
    rw [Lib.run_from_unsafe w ⟨b, 0, none⟩ Tryd.underlying109 Tryd.underlying53 hj hsh hE.1]
    simp only [Result.andThen]
    rw [Oper.upon_value]
    go_wp2
    go_end0
    have hb := HB.out
    refine ⟨rfl, ⟨v, ?_, ?_, HN.out⟩, (Below.refl B w).setCell (p := ⟨b, 0, none⟩) hB _, KeepT.set (blk_of hb) (keepB_self E) 0 _⟩
    · simp [World.setCell, Array.getElem?_modify, hb]
    · refine HO.out.kept (row := some b) ⟨rfl, rfl, rfl, by simp [World.setCell], fun k _ hk => Below.heap_setCell _ _ _ _ (fun e => hk (by simp [e]))⟩ ?_
      exact Or.inr HN.out
  · have HB := Lib.hid hb
    have HO := Lib.hid hown
    have HN := Lib.hid hne
    clear hb hown hne
    go_enter Tryd.func58, Tryd.ntmps58
    go_wp2
    rw [Lib.run_neq_ptr_same w _ Tryd.underlying53 hj]
    go_wp2
    go_end0
    exact ⟨rfl, ⟨v, HB.out, HO.out, HN.out⟩, Below.refl B _, KeepT.refl _ _⟩

theorem info_byte : (Tryd.prog.info? 5).map (fun i => (i.zero, i.size, i.bytes)) = some (some (.int .u8 0), 1, 1) := by kernel_rfl
theorem eb_put {E B b : Nat} {p v v' : Value} {rest bs' : List Value} {w : World} (hb : w.heap[b]? = some (.cells (p :: v :: rest).toArray E (0, 0))) (hown : w.ownsRow B 5 1 v' bs'.length bs') (hTe : E ≠ 5) :
    (w.setCell ⟨b, 1, none⟩ v').heap[b]? = some (.cells (p :: v' :: rest).toArray E (0, 0)) ∧ (w.setCell ⟨b, 1, none⟩ v').ownsRow B 5 1 v' bs'.length bs' ∧ v'.ownBlock ≠ some b := by
  have hne := Lib.ownBlock_ne hown hb hTe
  refine ⟨?_, ?_, hne⟩
  · simp [World.setCell, Array.getElem?_modify, hb]
  · exact hown.kept (row := some b) ⟨rfl, rfl, rfl, by simp [World.setCell], fun k _ hk => Below.heap_setCell _ _ _ _ (fun e => hk (by simp [e]))⟩ (Or.inr hne)
set_option maxHeartbeats 2000000 in
set_option maxRecDepth 100000 in
/-- WriteString at the Builder that a struct begins with. -/
theorem ewstr_c (E : TypeId) (B b : Nat) (rest bs : List Value) (x : ByteArray) (w : World) (hE : Heads E (rest.length + 2)) (h : EB E B b rest bs w) (hlen : bs.length + x.size ≤ 140737488355328) (hBw : B ≤ w.heap.size) :
    Calls Tryd.prog 40 #[.pointer (some ⟨b, 0, none⟩), .string x] w fun e w' => e = .returned (.tuple #[.int .i64 x.size, .nilIface]) ∧ EB E B b rest (bs ++ Lib.strCells x) w' ∧ Below B w w' ∧ KeepT (keepB E) w w' := by
  obtain ⟨i0, hi, hz0, hz1, hz2⟩ := info_parts info_byte
  have hB := h.1
  have HC := Lib.hid (ecopy_c E B b rest bs w hE h)
  go_enter Tryd.func40, Tryd.ntmps40
  go_wp2_with fail
  refine HC.out.mono ?_
  rintro e w1 ⟨rfl, ⟨v, hbk, hown, hne⟩, hb1, hk1⟩
  have c0 : w1.cell? ⟨b, 0, none⟩ = some (.pointer (some ⟨b, 0, none⟩)) := by rw [Lib.cell_of_heap hbk]; rfl
  have c1 : w1.cell? ⟨b, 1, none⟩ = some v := by rw [Lib.cell_of_heap hbk]; rfl
  go_wp2_with (at_builtin; refine Lib.wpList_append_own_string _ rfl _ _ 31 9 rfl B 5 i0 Tryd.underlying31 Tryd.underlying9 hi hz0 hz1 hz2 _ _ _ rfl hown x rfl ?c3 ?c4 ?c5 ?_)
  case c3 => unfold maxLen; omega
  case c4 => omega
  case c5 => have := hb1.size; omega
  intro v' w2 hown' hgrow _
  have hlt : b < w1.heap.size := (Array.getElem?_eq_some_iff.1 hbk).1
  have hb2 : w2.heap[b]? = some (.cells (Value.pointer (some ⟨b, 0, none⟩) :: v :: rest).toArray E (0, 0)) := by
    rw [hgrow.block b hlt (fun e => hne e.symm)]
    exact hbk
  have d0 : w2.cell? ⟨b, 0, none⟩ = some (.pointer (some ⟨b, 0, none⟩)) := by rw [Lib.cell_of_heap hb2]; rfl
  have d1 : w2.cell? ⟨b, 1, none⟩ = some v := by rw [Lib.cell_of_heap hb2]; rfl
  have f1 : w2.frozen? ⟨b, 1, none⟩ = false := Lib.frozen_of_heap hb2 1
  obtain ⟨ao, n', cap, rfl⟩ : ∃ ao n' cap, v' = .slice ao n' cap := by
    rcases hown'.2 with ⟨hv, _⟩ | ⟨g, cap, cur, hv, _⟩
    · exact ⟨_, _, _, hv⟩
    · exact ⟨_, _, _, hv⟩
  go_wp2
  go_ret2
  refine ⟨rfl, ?_, ?_, (hk1.trans (KeepT.grow hown (keepB_byte E) hgrow)).trans (KeepT.set (blk_of hb2) (keepB_self E) 1 _)⟩
  · obtain ⟨h1, h2, h3⟩ := eb_put (bs' := bs ++ Lib.strCells x) hb2 (by simpa [Lib.strCells_length] using hown') hE.2
    exact ⟨hB, some ⟨b, 0, none⟩, _, .inr rfl, h1, h2, h3⟩
  · exact (hb1.grown hgrow (by have := hb1.size; omega) (fun k hk => (hown.lt k hk).1)).setCell (p := ⟨b, 1, none⟩) hB _
set_option maxHeartbeats 2000000 in
set_option maxRecDepth 100000 in
/-- String at the Builder that a struct begins with, where it holds a byte. -/
theorem estr_c (E : TypeId) (B b : Nat) (rest : List Value) (l : List UInt8) (w : World) (h : EB E B b rest (Lib.byteCells l) w) (h0 : l ≠ []) :
    Calls Tryd.prog 21 #[.pointer (some ⟨b, 0, none⟩)] w fun e w' => e = .returned (.string ⟨l.toArray⟩) ∧ Below B w w' := by
  obtain ⟨hB, p, v, hp, hbk, hown, hne⟩ := h
  have hl0 : l.length ≠ 0 := by simpa using h0
  rw [Lib.byteCells_length] at hown
  obtain ⟨g, cap, cur, rfl, hbg, hg, hnc, hcm, hcs, htake⟩ : ∃ g cap cur, v = .slice (some ⟨g, 0, none⟩) l.length cap ∧ B ≤ g ∧ w.heap[g]? = some (.cells cur 5 (0, 0)) ∧ l.length ≤ cap ∧ cap ≤ maxLen ∧ cur.size = cap * 1 ∧ cur.toList.take (l.length * 1) = Lib.byteCells l := by
    rcases hown.2 with ⟨_, hz⟩ | ⟨g, cap, cur, hv, r⟩
    · exact absurd hz hl0
    · exact ⟨g, cap, cur, hv, r⟩
  have c1 : w.drew.cell? ⟨b, 1, none⟩ = some (.slice (some ⟨g, 0, none⟩) l.length cap) := by
    have : w.drew.heap[b]? = some (.cells (Value.pointer p :: .slice (some ⟨g, 0, none⟩) l.length cap :: rest).toArray E (0, 0)) := hbk
    rw [Lib.cell_of_heap this]; rfl
  have hSD : (Builtin.unsafeSliceData_ #[31] 85 #[.slice (some ⟨g, 0, none⟩) l.length cap]).run Tryd.prog w.drew = .ok (.pointer (some ⟨g, 0, none⟩)) w.drew :=
    Lib.run_unsafeSliceData_row _ _ _ _ _ _ (by omega)
  have hUS : (Builtin.unsafeString_ #[85, 3] 9 #[.pointer (some ⟨g, 0, none⟩), .int .i64 l.length]).run Tryd.prog w.drew = .ok (.string ⟨l.toArray⟩) (w.drew.freeze ⟨g, 0, none⟩ l.length) := by
    refine Lib.run_unsafeString_row w.drew 85 3 9 5 Tryd.underlying85 (by kernel_rfl) g cur.size (by have hg' : w.drew.heap[g]? = some (.cells cur 5 (0, 0)) := hg; simp [World.shape?, hg']) l h0 (by omega) (by unfold maxLen at hcm; omega) ?_
    intro j x hx
    have := hown.cells (g := g) rfl j (.int .u8 x.toNat) (by simp [Lib.byteCells, hx])
    exact this
  clear hbk hown hne htake hp
  go_enter Tryd.func21, Tryd.ntmps21
  go_wp2
  go_region
  all_goals (go_wp2; go_ret; exact ⟨rfl, Lib.below_freeze (Below.drew (Below.refl B w)) (p := ⟨g, 0, none⟩) hbg _⟩)
end Go.Proofs.YtojeclfcgnamoaaDoor
