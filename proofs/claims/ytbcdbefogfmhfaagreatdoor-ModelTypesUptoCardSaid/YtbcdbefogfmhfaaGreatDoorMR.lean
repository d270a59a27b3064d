/-
  The walks of the document's answer for utf: Fine, First, Next, Part, Put, low.
  The walks of the document's answer for utf: Put and low.
  The walk of the document's answer for utf: Rune: by how many bytes the first one announces.
  The plain law of Rune: what the document's answer reckons is the character that the text holds there.
  The walk of the document's answer for names: chars.
  The walks of the document's answer for names: Plain, Split.
-/
import Derived.Test.YtbcdbefogfmhfaaGreatDoorMC
import Derived.Lib.RuneCountTail
import Derived.Lib.DecodeN
namespace Go.Proofs.YtbcdbefogfmhfaaGreatDoor
open Go.RowKit
theorem row_new (w : World) (l : List Value) (t : TypeId) : RowAt (w.alloc (.cells l.toArray t)) (.slice (some ⟨w.heap.size, 0, none⟩) l.length l.length) l :=
  ⟨w.heap.size, 0, l.length, rfl, Nat.le_refl _, by simp, fun j hj => by
    simp only [World.cell?]
    rw [show (w.alloc (.cells l.toArray t)).heap[w.heap.size]? = some (.cells l.toArray t) from (show (w.heap.push _)[w.heap.size]? = _ from Array.getElem?_push_size)]
    simp [hj]⟩
end Go.Proofs.YtbcdbefogfmhfaaGreatDoor

namespace Go.Proofs.YtbcdbefogfmhfaaGreatDoor
open Go.RowKit Go.Lib
def runeN (p : Nat × Nat) : Int × Int := if p.1 = 65533 ∧ p.2 < 2 ∨ fineC p.1 = false then (0, 0) else (p.1, p.2)
end Go.Proofs.YtbcdbefogfmhfaaGreatDoor

namespace Go.Proofs.YtbcdbefogfmhfaaGreatDoor
open Go.RowKit
/-- A text's characters from a place on; none: it isn't right. -/
def charsF (s : ByteArray) : Nat → Nat → Option (List Int)
  | 0, _ => some []
  | b + 1, pos => if pos < s.size then
      if (runeN (Utf8.decode s pos)).2 = 0 then none else (charsF s b (pos + (runeN (Utf8.decode s pos)).2.toNat)).map ((runeN (Utf8.decode s pos)).1 :: ·)
    else some []
def charsS (s : ByteArray) : Option (List Int) := charsF s s.size 0
theorem runeN_snd (s : ByteArray) (pos : Nat) (h : pos < s.size) : (runeN (Utf8.decode s pos)).2 = 0 ∨ 1 ≤ (runeN (Utf8.decode s pos)).2 := by
  unfold runeN; split
  · exact .inl rfl
  · exact .inr (by have := decode_pos s pos h; show 1 ≤ ((Utf8.decode s pos).2 : Int); omega)
theorem decode_fits (s : ByteArray) (pos : Nat) (h : pos < s.size) : pos + (Utf8.decode s pos).2 ≤ s.size := by
  simp only [Utf8.decode]
  repeat' split
  all_goals simp_all
  all_goals omega
theorem runeN_fits (s : ByteArray) (pos : Nat) (h : pos < s.size) : pos + (runeN (Utf8.decode s pos)).2.toNat ≤ s.size := by
  have := decode_fits s pos h
  unfold runeN; split
  · show pos + (0 : Int).toNat ≤ _; simp; omega
  · show pos + (((Utf8.decode s pos).2 : Int)).toNat ≤ _; simp; omega
theorem charsF_end (s : ByteArray) (b pos : Nat) (h : ¬ pos < s.size) : charsF s b pos = some [] := by
  cases b with
  | zero => rfl
  | succ b => simp [charsF, h]
theorem charsF_bad (s : ByteArray) (b pos : Nat) (h : pos < s.size) (hb : s.size ≤ pos + b) (h0 : (runeN (Utf8.decode s pos)).2 = 0) : charsF s b pos = none := by
  cases b with
  | zero => omega
  | succ b => simp [charsF, h, h0]
def lenOf : Value → Nat | .slice _ n _ => n | _ => 0
end Go.Proofs.YtbcdbefogfmhfaaGreatDoor

namespace Go.Proofs.YtbcdbefogfmhfaaGreatDoor
open Go.RowKit
/-- The first one by p, the others by q. -/
def listS (p q : Int → Bool) : List Int → Bool
  | [] => false
  | c :: l => p c && l.all q
def charsB (p q : Int → Bool) (s : ByteArray) : Bool :=
  match charsS s with
  | none => false
  | some l => listS p q l
def rplainS (s : ByteArray) : Bool := charsB firstC partC s
end Go.Proofs.YtbcdbefogfmhfaaGreatDoor
