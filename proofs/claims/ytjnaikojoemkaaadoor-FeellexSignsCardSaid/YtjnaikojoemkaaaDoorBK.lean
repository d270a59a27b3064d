/-
  A block of memory whose cells are known; a slice of structs.
-/
import Derived.Test.YtjnaikojoemkaaaDoorU
import Derived.Below
namespace Go.Proofs.YtjnaikojoemkaaaDoor
open Go.RowKit

/-- Block b holds these cells; it can be written. -/
def Blk (w : World) (b : Nat) (t : TypeId) (cs : List Value) : Prop := w.heap[b]? = some (.cells cs.toArray t (0, 0))
section
variable {w w' : World} {b : Nat} {t : TypeId} {cs : List Value}
theorem Blk.lt (h : Blk w b t cs) : b < w.heap.size := (Array.getElem?_eq_some_iff.1 h).1
theorem Blk.at (h : Blk w b t cs) (j : Nat) : w.cell? ⟨b, j, none⟩ = cs[j]? := by unfold Blk at h; simp [World.cell?, h]
theorem Blk.fz (h : Blk w b t cs) (o : Nat) : w.frozen? ⟨b, o, none⟩ = false := by unfold Blk at h; simp [World.frozen?, h]
theorem Blk.set (h : Blk w b t cs) (j : Nat) (z : Value) : Blk (w.setCell ⟨b, j, none⟩ z) b t (cs.set j z) := by
  unfold Blk at h ⊢
  simp [World.setCell, Array.getElem?_modify, h]
theorem Blk.far (h : Blk w b t cs) {p : Addr} (hp : b ≠ p.block) (z : Value) : Blk (w.setCell p z) b t cs := by
  unfold Blk at h ⊢
  exact (Below.heap_setCell w p z b hp).trans h
theorem Blk.drew (h : Blk w b t cs) : Blk w.drew b t cs := h
theorem Blk.bel (h : Blk w b t cs) (hb : Bel w w') : Blk w' b t cs := (hb.block h.lt).trans h
theorem Blk.new (w : World) (t : TypeId) (cs : List Value) : Blk (w.alloc (.cells cs.toArray t)) w.heap.size t cs := World.alloc_heap_new _ _
end
theorem bel_setNew {w W : World} (h : Bel w W) {b : Nat} (hb : w.heap.size ≤ b) (j : Nat) (z : Value) : Bel w (W.setCell ⟨b, j, none⟩ z) := Bel.to_setCell h (p := ⟨b, j, none⟩) hb z
end Go.Proofs.YtjnaikojoemkaaaDoor
