/-
  The walks of the document's answer for names: Plain, Split.
-/
import Derived.Test.YtjnaikojoemkaaaDoorJ
namespace Go.Proofs.YtjnaikojoemkaaaDoor
open Go.RowKit

theorem row_ne {W : World} {v : Value} {xs : List Value} (h : RowAt0 W v xs) (hx : xs ≠ []) : RowAt W v xs := by
  rcases h with ⟨_, h⟩ | h
  · exact absurd h hx
  · exact h

/-- The first one by p, the others by q. -/
def listS (p q : Int → Bool) : List Int → Bool
  | [] => false
  | c :: l => p c && l.all q
def charsB (p q : Int → Bool) (s : ByteArray) : Bool :=
  match charsS s with
  | none => false
  | some l => listS p q l
def rplainS (s : ByteArray) : Bool := charsB firstC partC s

theorem charsF_length (s : ByteArray) : ∀ b pos l, charsF s b pos = some l → l.length ≤ b
  | 0, pos, l, h => by simp [charsF] at h; simp [h]
  | b + 1, pos, l, h => by
    unfold charsF at h
    split at h
    · split at h
      · cases h
      · obtain ⟨l', h1, rfl⟩ := Option.map_eq_some_iff.1 h
        have := charsF_length s b _ l' h1
        simp; omega
    · simp at h; simp [h]
theorem charsS_length (s : ByteArray) (l : List Int) (h : charsS s = some l) : l.length ≤ s.size := charsF_length s _ _ l h

theorem retB_eq {a b : Bool} {w w' : World} (h : a = b) (hb : Bel w w') : Ending.returned (.bool a) = .returned (.bool b) ∧ Bel w w' := ⟨by rw [h], hb⟩

theorem byte_is (s : ByteArray) (k : Nat) (h : k < s.size) (m : Int) (n : Nat) (hm : m = n) (hn : n < 256) : (((s[k]'h).toNat : Int) == m) = true ↔ s.get! k = UInt8.ofNat n := by
  rw [get_bang s k h, beq_iff_eq, hm]
  constructor
  · intro h1
    have h2 : (s.data[k]).toNat = n := by have : (s[k]'h).toNat = n := by omega
                                          exact this
    rw [← h2]; simp
  · intro h1
    have h2 : (s[k]'h) = UInt8.ofNat n := h1
    rw [h2]
    have : (UInt8.ofNat n).toNat = n := by simp [UInt8.toNat_ofNat']; omega
    rw [this]

/-- A name's prefix and what stands behind it; whether it is one. -/
def rsplitF (s : ByteArray) : Nat → Nat → ByteArray × ByteArray × Bool
  | 0, _ => if rplainS s = true then (⟨#[]⟩, s, true) else (⟨#[]⟩, ⟨#[]⟩, false)
  | b + 1, i => if i < s.size then
      if s.get! i = 58 then
        if rplainS (s.extract 0 i) = true ∧ rplainS (s.extract (i + 1) s.size) = true then (s.extract 0 i, s.extract (i + 1) s.size, true) else (⟨#[]⟩, ⟨#[]⟩, false)
      else rsplitF s b (i + 1)
    else if rplainS s = true then (⟨#[]⟩, s, true) else (⟨#[]⟩, ⟨#[]⟩, false)
def rsplitS (s : ByteArray) : ByteArray × ByteArray × Bool := rsplitF s s.size 0
def RetSSB (a b : ByteArray) (t : Bool) (w : World) (e : Ending) (w' : World) : Prop := e = .returned (.tuple #[.string a, .string b, .bool t]) ∧ Bel w w'

end Go.Proofs.YtjnaikojoemkaaaDoor
