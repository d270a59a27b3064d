/-
  A region that draws: what is held of the world may be made stronger on the way. The block of a literal that is made on the way.
-/
import Derived.Test.YtgfikaagoflbbaaGreatDoorEXE
namespace Go.Proofs.YtgfikaagoflbbaaGreatDoor
open Go.RowKit

theorem wpAnyH_weaken {P : Program} {md : Region.Mode} {ops : Array Oper} {Q : Exit → Act → World → Prop} {S S' : World → Prop} (hs : ∀ w, S' w → S w) :
    ∀ (fuel : Nat) (listed : Array Bool) (a : Act) (w : World), wpAnyH P md ops Q S' fuel listed a w → wpAnyH P md ops Q S fuel listed a w := by
  intro fuel
  induction fuel with
  | zero => intro listed a w h; unfold wpAnyH at h ⊢; exact h
  | succ fuel ih =>
    intro listed a w h
    unfold wpAnyH at h ⊢
    exact ⟨h.1, fun i hi => wpOp_mono (fun a' w' hh => ⟨hs _ hh.1, ih _ _ _ hh.2⟩) (h.2 i hi)⟩
/-- An expression's four cells are stored. -/
theorem store_ex {U V : World} {b : Nat} {cs : List Value} (z0 z1 z2 z3 : Value) (h : Blk V b 25 cs) (hl : cs.length = 4) (hb : Bel U V) (hlt : U.heap.size ≤ b) :
    Blk ((((V.setCell ⟨b, 0, none⟩ z0).setCell ⟨b, 1, none⟩ z1).setCell ⟨b, 2, none⟩ z2).setCell ⟨b, 3, none⟩ z3) b 25 [z0, z1, z2, z3] ∧
    Bel U ((((V.setCell ⟨b, 0, none⟩ z0).setCell ⟨b, 1, none⟩ z1).setCell ⟨b, 2, none⟩ z2).setCell ⟨b, 3, none⟩ z3) ∧
    ∀ b' t' cs', b' ≠ b → Blk V b' t' cs' → Blk ((((V.setCell ⟨b, 0, none⟩ z0).setCell ⟨b, 1, none⟩ z1).setCell ⟨b, 2, none⟩ z2).setCell ⟨b, 3, none⟩ z3) b' t' cs' := by
  match cs, hl with
  | [a0, a1, a2, a3], _ =>
    exact ⟨(((h.set 0 z0).set 1 z1).set 2 z2).set 3 z3, bel_setNew (bel_setNew (bel_setNew (bel_setNew hb hlt 0 z0) hlt 1 z1) hlt 2 z2) hlt 3 z3,
      fun b' t' cs' hne hk => (((hk.far hne z0).far hne z1).far hne z2).far hne z3⟩
/-- The four cells of an expression. -/
def exCells (x : Ex × Value × Value) : List Value := [.int .i64 x.1.k, .string x.1.s, x.2.1, x.2.2]
theorem exs_cells {W : World} {b : Nat} : ∀ (l : List (Ex × Value × Value)) (off : Nat), (∀ j v, (l.flatMap exCells)[j]? = some v → W.cell? ⟨b, off + j, none⟩ = some v) → (∀ x ∈ l, ExAt W x.1 x.2.1 x.2.2) → ExsAt W b off (l.map fun x => x.1)
  | [], _, _, _ => by unfold ExsAt; trivial
  | (.mk k s ns ll, n, l') :: r, off, h, hx => by
    rw [List.map_cons]
    unfold ExsAt
    refine ⟨⟨n, l', h 0 _ rfl, h 1 _ rfl, h 2 _ rfl, h 3 _ rfl, hx (.mk k s ns ll, n, l') (by simp)⟩, exs_cells r (off + 4) (fun j v hj => ?_) fun x hm => hx x (by simp [hm])⟩
    have := h (4 + j) v (by
      rw [List.flatMap_cons, List.getElem?_append_right (by simp [exCells])]
      simpa [exCells] using hj)
    rwa [← Nat.add_assoc] at this
theorem exs_blk {W : World} {b t : Nat} {cs : List Value} (h : Blk W b t cs) (l : List (Ex × Value × Value)) (hcs : cs = l.flatMap exCells) (hx : ∀ x ∈ l, ExAt W x.1 x.2.1 x.2.2) : ExsAt W b 0 (l.map fun x => x.1) :=
  exs_cells l 0 (fun j v hj => by rw [Nat.zero_add, h.at, hcs, hj]) hx
end Go.Proofs.YtgfikaagoflbbaaGreatDoor
