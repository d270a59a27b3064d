/-
  The walk of the document's answer for names: chars.
-/
import Derived.Test.YtjnaikojoemkaaaDoorI
import Derived.Test.YtjnaikojoemkaaaDoorC
namespace Go.Proofs.YtjnaikojoemkaaaDoor
open Go.RowKit

def i64s (l : List Int) : List Value := l.map fun n => Value.int .i64 n

/-- A text's characters from a place on; none: it isn't right. -/
def charsF (s : ByteArray) : Nat → Nat → Option (List Int)
  | 0, _ => some []
  | b + 1, pos => if pos < s.size then
      if (runeN (Utf8.decode s pos)).2 = 0 then none else (charsF s b (pos + (runeN (Utf8.decode s pos)).2.toNat)).map ((runeN (Utf8.decode s pos)).1 :: ·)
    else some []
def charsS (s : ByteArray) : Option (List Int) := charsF s s.size 0

theorem runeN_snd (s : ByteArray) (pos : Nat) (h : pos < s.size) : (runeN (Utf8.decode s pos)).2 = 0 ∨ 1 ≤ (runeN (Utf8.decode s pos)).2 := by
  unfold runeN; split
  · exact .inl rfl
  · exact .inr (by have := decode_pos s pos h; show 1 ≤ ((Utf8.decode s pos).2 : Int); omega)
theorem decode_fits (s : ByteArray) (pos : Nat) (h : pos < s.size) : pos + (Utf8.decode s pos).2 ≤ s.size := by
  simp only [Utf8.decode]
  repeat' split
  all_goals simp_all
  all_goals omega
theorem runeN_fits (s : ByteArray) (pos : Nat) (h : pos < s.size) : pos + (runeN (Utf8.decode s pos)).2.toNat ≤ s.size := by
  have := decode_fits s pos h
  unfold runeN; split
  · show pos + (0 : Int).toNat ≤ _; simp; omega
  · show pos + (((Utf8.decode s pos).2 : Int)).toNat ≤ _; simp; omega

theorem charsF_end (s : ByteArray) (b pos : Nat) (h : ¬ pos < s.size) : charsF s b pos = some [] := by
  cases b with
  | zero => rfl
  | succ b => simp [charsF, h]
theorem charsF_bad (s : ByteArray) (b pos : Nat) (h : pos < s.size) (hb : s.size ≤ pos + b) (h0 : (runeN (Utf8.decode s pos)).2 = 0) : charsF s b pos = none := by
  cases b with
  | zero => omega
  | succ b => simp [charsF, h, h0]
theorem charsF_step (s : ByteArray) (b pos : Nat) (h : pos < s.size) (hb : s.size ≤ pos + b) (h0 : (runeN (Utf8.decode s pos)).2 ≠ 0) :
    ∃ b', b = b' + 1 ∧ charsF s b pos = (charsF s b' (pos + (runeN (Utf8.decode s pos)).2.toNat)).map ((runeN (Utf8.decode s pos)).1 :: ·) := by
  cases b with
  | zero => omega
  | succ b => exact ⟨b, rfl, by simp [charsF, h, h0]⟩

/-- What chars answers: r none: false; else r's numbers. -/
def RetC (r : Option (List Int)) (w : World) (e : Ending) (w' : World) : Prop :=
  Bel w w' ∧ match r with
  | none => e = .returned (.tuple #[.slice none 0 0, .bool false])
  | some l => ∃ v, e = .returned (.tuple #[v, .bool true]) ∧ RowAt0 w' v (i64s l)

theorem refRune_tail (s : ByteArray) (pos : Nat) (h : pos < s.size) : refRune (s.extract pos s.size) = runeN (Utf8.decode s pos) := by
  unfold refRune
  have hz : ¬ (s.extract pos s.size).size = 0 := by simp; omega
  rw [if_neg hz, Lib.tail_decode]; rfl

theorem info_int : (Tryd.prog.info? 3).map (fun i => (i.zero, i.size, i.bytes)) = some (some (.int .i64 0), 1, 8) := by kernel_rfl

def lenOf : Value → Nat | .slice _ n _ => n | _ => 0
theorem extract_tail (s : ByteArray) (p k : Nat) (h : p + k ≤ s.size) : (s.extract p s.size).extract k (s.extract p s.size).size = s.extract (p + k) s.size := by
  apply ByteArray.ext
  apply Array.ext'
  simp [List.extract_eq_take_drop]
  congr 1
  omega

end Go.Proofs.YtjnaikojoemkaaaDoor
