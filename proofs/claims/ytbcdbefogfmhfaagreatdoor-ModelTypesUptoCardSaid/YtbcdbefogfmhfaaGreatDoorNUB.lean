/-
  The walks of the document's answer for number: digits, Check, Canon.
  The walk of the document's answer for number: Read.
  Plain laws for the laws of number: the one form is right; the program's sum is the document's.
  The walk of the document's answer for number: Text.
-/
import Derived.Test.YtbcdbefogfmhfaaGreatDoorNUA
import Derived.Deep.LoopGhost
namespace Go.Proofs.YtbcdbefogfmhfaaGreatDoor
open Go.RowKit
/-- Block b holds two cells. -/
def Two (w : World) (b : Nat) (t : TypeId) (x y : Value) : Prop := w.heap[b]? = some (.cells #[x, y] t (0, 0))
section
variable {w : World} {b : Nat} {t : TypeId} {x y : Value}
theorem Two.lt (h : Two w b t x y) : b < w.heap.size := (Array.getElem?_eq_some_iff.1 h).1
theorem Two.c0 (h : Two w b t x y) : w.cell? ⟨b, 0, none⟩ = some x := by unfold Two at h; simp [World.cell?, h]
theorem Two.c1 (h : Two w b t x y) : w.cell? ⟨b, 1, none⟩ = some y := by unfold Two at h; simp [World.cell?, h]
theorem Two.fz (h : Two w b t x y) (o : Nat) : w.frozen? ⟨b, o, none⟩ = false := by unfold Two at h; simp [World.frozen?, h]
theorem Two.set0 (h : Two w b t x y) (z : Value) : Two (w.setCell ⟨b, 0, none⟩ z) b t z y := by unfold Two at h ⊢; simp [World.setCell, Array.getElem?_modify, h]
theorem Two.set1 (h : Two w b t x y) (z : Value) : Two (w.setCell ⟨b, 1, none⟩ z) b t x z := by unfold Two at h ⊢; simp [World.setCell, Array.getElem?_modify, h]
theorem Two.far (h : Two w b t x y) {p : Addr} (hp : b ≠ p.block) (z : Value) : Two (w.setCell p z) b t x y := by
  unfold Two at h ⊢; exact (Below.heap_setCell w p z b hp).trans h
theorem Two.drew (h : Two w b t x y) : Two w.drew b t x y := h
theorem Two.bel {w' : World} (h : Two w b t x y) (hb : Bel w w') : Two w' b t x y := (hb.block h.lt).trans h
theorem Two.new (w : World) (t : TypeId) (x y : Value) : Two (w.alloc (.cells #[x, y] t)) w.heap.size t x y := World.alloc_heap_new _ _
end
def cellStr (w : World) (b : Nat) : Nat := match w.cell? ⟨b, 0, none⟩ with
  | some v => Lib.strSize v
  | none => 0
theorem Two.str {w : World} {b : Nat} {t : TypeId} {s : ByteArray} {y : Value} (h : Two w b t (.string s) y) : cellStr w b = s.size := by
  unfold cellStr; rw [h.c0]; rfl
end Go.Proofs.YtbcdbefogfmhfaaGreatDoor

namespace Go.Proofs.YtbcdbefogfmhfaaGreatDoor
open Go.Lib
theorem Can.ne {l : List UInt8} {sc : Nat} (h : Can l sc) : l ≠ [] := by
  rcases h with ⟨rfl, _⟩ | ⟨h, _⟩
  · simp
  · exact h
end Go.Proofs.YtbcdbefogfmhfaaGreatDoor
