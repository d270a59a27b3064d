/-
  The walks of the document's answer for utf: Put and low.
-/
import Derived.Test.YtjnaikojoemkaaaDoorC
namespace Go.Proofs.YtjnaikojoemkaaaDoor
open Go.RowKit

/-- The bytes of a character. -/
def putI (c : Int) : List Int :=
  if c < 128 then [c] else if c < 2048 then [192 + c / 64, 128 + c % 64]
  else if c < 65536 then [224 + c / 4096, 128 + c / 64 % 64, 128 + c % 64]
  else [240 + c / 262144, 128 + c / 4096 % 64, 128 + c / 64 % 64, 128 + c % 64]
def u8s (l : List Int) : List Value := l.map fun n => Value.int .u8 n
def RetRow (xs : List Value) (w : World) (e : Ending) (w' : World) : Prop := ∃ v, e = .returned v ∧ RowAt w' v xs ∧ Bel w w'

theorem row_new (w : World) (l : List Value) (t : TypeId) : RowAt (w.alloc (.cells l.toArray t)) (.slice (some ⟨w.heap.size, 0, none⟩) l.length l.length) l :=
  ⟨w.heap.size, 0, l.length, rfl, Nat.le_refl _, by simp, fun j hj => by
    simp only [World.cell?]
    rw [show (w.alloc (.cells l.toArray t)).heap[w.heap.size]? = some (.cells l.toArray t) from (show (w.heap.push _)[w.heap.size]? = _ from Array.getElem?_push_size)]
    simp [hj]⟩

theorem rowAt_cast {W : World} {v v' : Value} {xs xs' : List Value} (h : RowAt W v xs) (h1 : v = v') (h2 : xs = xs') : RowAt W v' xs' := by subst h1; subst h2; exact h

/-- The lower six bits of bytes, together; -1: they are none. -/
def lowL (acc : Int) : List Int → Int
  | [] => acc
  | b :: l => if b < 128 ∨ 191 < b then -1 else lowL (64 * acc + b - 128) l

theorem lowL_step (acc : Int) (l : List Int) (k : Nat) (h : k < l.length) :
    lowL acc (l.drop k) = if l[k] < 128 ∨ 191 < l[k] then -1 else lowL (64 * acc + l[k] - 128) (l.drop (k + 1)) := by
  rw [List.drop_eq_getElem_cons h]; rfl

end Go.Proofs.YtjnaikojoemkaaaDoor
