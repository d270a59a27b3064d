/-
  The walk of the law's own 'same': are two lists the same texts?
-/
import Derived.Test.YtjnaikojoemkaaaDoorO
import Derived.Deep.QuietTactic
import Derived.BigQuiet
namespace Go.Proofs.YtjnaikojoemkaaaDoor
open Go.RowKit

theorem row0_form {W : World} {v : Value} {xs : List Value} (h : RowAt0 W v xs) (n : Nat) (hn : xs.length = n) : ∃ ao cap, v = .slice ao n cap ∧ (0 < n → ∃ b off, ao = some ⟨b, off, none⟩ ∧ b < W.heap.size ∧ n ≤ cap ∧ ∀ j, j < n → W.cell? ⟨b, off + j, none⟩ = xs[j]?) := by
  rcases h with ⟨rfl, rfl⟩ | ⟨b, off, cap, rfl, hcap, hlt, hc⟩
  · exact ⟨none, 0, by rw [← hn]; rfl, fun h => by simp at hn; omega⟩
  · exact ⟨_, cap, by rw [hn], fun _ => ⟨b, off, rfl, hlt, by omega, fun j hj => by rw [hc j (by omega), List.getElem?_eq_getElem]⟩⟩

theorem toList_eq {x y : ByteArray} (h : (x.toList == y.toList) = true) : x = y := by
  rw [beq_iff_eq, Lib.toList_data, Lib.toList_data] at h
  exact ByteArray.ext (Array.ext' h)
theorem toList_ne {x y : ByteArray} (h : (x.toList == y.toList) = false) : x ≠ y := by
  rintro rfl; simp at h
def RetBel (v : Value) (w : World) (e : Ending) (w' : World) : Prop := e = .returned v ∧ Bel w w'

end Go.Proofs.YtjnaikojoemkaaaDoor
