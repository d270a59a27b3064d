/-
  expr's laws: the document's example.
  expr's laws: what all of them begin with: the example, and which expressions are more than are looked at.
-/
import Derived.Test.YtbcdbefogfmhfaaGreatDoorEXD
import Derived.Test.YtbcdbefogfmhfaaGreatDoorRXB
import Derived.Test.YtbcdbefogfmhfaaGreatDoorEXC
import Derived.Test.YtbcdbefogfmhfaaGreatDoorEXB
namespace Go.Proofs.YtbcdbefogfmhfaaGreatDoor
open Go.RowKit
/-- A block that is made, one step. -/
theorem alloc_step (w : World) (t : TypeId) (cs : List Value) : ∃ W, w.alloc (.cells cs.toArray t) = W ∧ Blk W w.heap.size t cs ∧ Bel w W ∧ W.heap.size = w.heap.size + 1 :=
  ⟨_, rfl, Blk.new w t cs, Bel.alloc _ _, World.size_alloc _ _⟩
theorem names_blk {W : World} {b : Nat} {l : List ByteArray} {n : Nat} {cs : List Value} (h : Blk W b 9 cs) (hcs : cs = strsV l) (hn : l.length = n) : NamesAt W (some ⟨b, 0, none⟩) l ∧ RowAt0 W (.slice (some ⟨b, 0, none⟩) n n) (strsV l) ∧ RowE W (.slice (some ⟨b, 0, none⟩) n n) (strsV l) := by
  subst hn hcs
  have h1 : RowAt0 W (.slice (some ⟨b, 0, none⟩) l.length l.length) (strsV l) := .inr ⟨b, 0, l.length, by rw [strsV_length], by rw [strsV_length]; exact Nat.le_refl _, h.lt, fun j hj => by rw [Nat.zero_add, h.at]; simp [hj]⟩
  exact ⟨(names_of_row0 h1).2.2, h1, h1.toE⟩
end Go.Proofs.YtbcdbefogfmhfaaGreatDoor

namespace Go.Proofs.YtbcdbefogfmhfaaGreatDoor
open Go.RowKit
theorem parts_of_exs {W : World} {b off : Nat} {l : List Ex} (h : ExsAt W b off l) : PartsAt W (some ⟨b, off, none⟩) l := by
  intro i x hx
  obtain ⟨vn, vl, c0, c1, c2, c3, h1⟩ := h.get hx
  obtain ⟨na, la, nn, nc, m, lc, rfl, rfl, _⟩ := h1.opened
  exact ⟨b, off, na, nn, nc, la, m, lc, rfl, c0, c1, c2, c3, h1⟩
end Go.Proofs.YtbcdbefogfmhfaaGreatDoor
