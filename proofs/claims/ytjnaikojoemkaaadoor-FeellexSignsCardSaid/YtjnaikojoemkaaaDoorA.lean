/-
  Plain functions that say what the layers utf and names compute: no program in sight.
-/
import Derived.Laws.RangeAny
import Derived.Lib.DecodeN
import Derived.Lib.CutLaws
import Derived.Lib.SplitLaws
namespace Go.Proofs.YtjnaikojoemkaaaDoor

def validR (c : Int) : Bool := decide (0 ≤ c ∧ c < 55296 ∨ 57343 < c ∧ c ≤ 1114111)
def fineC (c : Int) : Bool := decide (c = 9 ∨ c = 10 ∨ c = 13 ∨ 32 ≤ c ∧ c ≤ 55295 ∨ 57344 ≤ c ∧ c ≤ 65533 ∨ 65536 ≤ c ∧ c ≤ 1114111)
def firstC (c : Int) : Bool := decide (65 ≤ c ∧ c ≤ 90 ∨ 97 ≤ c ∧ c ≤ 122 ∨ c = 95 ∨ 192 ≤ c ∧ c ≠ 215 ∧ c ≠ 247 ∧ fineC c = true)
def nextC (c : Int) : Bool := firstC c || decide (48 ≤ c ∧ c ≤ 57)
def partC (c : Int) : Bool := nextC c || decide (c = 45 ∨ c = 46 ∨ c = 183)

/-- The character at a place, its bytes, the error's number. -/
def runeAt (s : ByteArray) (i : Nat) : Nat × Nat × Nat :=
  if (Utf8.decode s i).1 = 65533 ∧ (Utf8.decode s i).2 < 2 ∨ fineC (Utf8.decode s i).1 = false then (0, 0, 4) else ((Utf8.decode s i).1, (Utf8.decode s i).2, 0)

def scanG (s : ByteArray) (q : Int → Bool) : Nat → Nat → (Int → Bool) → Bool
  | 0, _, _ => true
  | b + 1, pos, p =>
    if pos < s.size then
      if (Utf8.decode s pos).1 = 65533 ∧ (Utf8.decode s pos).2 < 2 then false
      else if p (Utf8.decode s pos).1 then scanG s q b (pos + (Utf8.decode s pos).2) q else false
    else true
/-- The characters of a text: the first one by p, the others by q; there is one. -/
def madeS (p q : Int → Bool) (s : ByteArray) : Bool := scanG s q s.size 0 p && !s.toList.isEmpty
def plainS (s : ByteArray) : Bool := madeS firstC partC s

theorem scanG_end (s : ByteArray) (q r : Int → Bool) (b pos : Nat) (h : ¬ pos < s.size) : scanG s q b pos r = true := by
  cases b with
  | zero => rfl
  | succ b => simp [scanG, h]
theorem scanG_bad (s : ByteArray) (q r : Int → Bool) (b pos : Nat) (h : pos < s.size) (hb : s.size ≤ pos + b) (h1 : (Utf8.decode s pos).1 = 65533 ∧ (Utf8.decode s pos).2 < 2) : scanG s q b pos r = false := by
  cases b with
  | zero => omega
  | succ b => simp [scanG, h, h1]
theorem scanG_no (s : ByteArray) (q r : Int → Bool) (b pos : Nat) (h : pos < s.size) (hb : s.size ≤ pos + b) (h1 : r (Utf8.decode s pos).1 = false) : scanG s q b pos r = false := by
  cases b with
  | zero => omega
  | succ b => simp [scanG, h, h1]
theorem scanG_step (s : ByteArray) (q r : Int → Bool) (b pos : Nat) (h : pos < s.size) (hb : s.size ≤ pos + b) (h1 : ¬ ((Utf8.decode s pos).1 = 65533 ∧ (Utf8.decode s pos).2 < 2)) (h2 : r (Utf8.decode s pos).1 = true) :
    ∃ b', scanG s q b pos r = scanG s q b' (pos + (Utf8.decode s pos).2) q ∧ b = b' + 1 := by
  cases b with
  | zero => omega
  | succ b => exact ⟨b, by simp only [scanG, h, h1, h2, if_true, if_false], rfl⟩
end Go.Proofs.YtjnaikojoemkaaaDoor
