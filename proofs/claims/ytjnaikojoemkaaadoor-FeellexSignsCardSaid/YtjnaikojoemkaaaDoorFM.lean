/-
  feellex: the plain law of Lex.
-/
import Derived.Test.YtjnaikojoemkaaaDoorFL
namespace Go.Proofs.YtjnaikojoemkaaaDoor

/-- The tokens from a place on: each its kind, its place, its text; the place; what is wrong. -/
def lexF (s : ByteArray) : Nat → Nat → List (Int × Nat × ByteArray) → List (Int × Nat × ByteArray) × Nat × Nat
  | 0, _, acc => (acc ++ [(5, s.size, ⟨#[]⟩)], s.size, 0)
  | b + 1, pos, acc => if pos < s.size then
      if spaceC (s.get! pos).toNat = true then lexF s b (pos + 1) acc
      else if (oneS (s.extract pos s.size)).2.2 ≠ 0 then ([], pos + (oneS (s.extract pos s.size)).2.1, (oneS (s.extract pos s.size)).2.2)
      else lexF s b (pos + (oneS (s.extract pos s.size)).2.1) (acc ++ [((oneS (s.extract pos s.size)).1.1, pos, (oneS (s.extract pos s.size)).1.2)])
    else (acc ++ [(5, s.size, ⟨#[]⟩)], s.size, 0)
/-- The tokens of a text, or where it is wrong, and why. -/
def lexS (s : ByteArray) : List (Int × Nat × ByteArray) × Nat × Nat := if chkS s < s.size then ([], chkS s, 4) else lexF s s.size 0 []

theorem textF_le (s : ByteArray) : ∀ b pos acc, pos ≤ s.size → (textF s b pos acc).2.1 ≤ s.size ∧ ((textF s b pos acc).2.2 = 0 → 1 ≤ (textF s b pos acc).2.1)
  | 0, pos, acc, h => ⟨Nat.le_refl _, fun h => by cases h⟩
  | b + 1, pos, acc, h => by
    unfold textF
    split
    · rename_i hp
      split
      · exact ⟨hp, fun _ => by show 1 ≤ pos + 1; omega⟩
      · split
        · split
          · exact ⟨h, fun h => by cases h⟩
          · have := (escS_size (s.extract pos s.size)).1
            simp at this
            exact textF_le s b _ _ (by omega)
        · exact textF_le s b _ _ hp
    · exact ⟨Nat.le_refl _, fun h => by cases h⟩
theorem signIn_le (s : ByteArray) : ∀ l, (signIn s l).length ≤ s.size
  | [] => Nat.zero_le _
  | x :: l => by
    unfold signIn
    split
    · rename_i h
      have := (List.isPrefixOf_iff_prefix.1 h).length_le
      rw [Lib.size_eq]
      exact this
    · exact signIn_le s l
theorem oneS_le (s : ByteArray) (h1 : 1 ≤ s.size) : (oneS s).2.1 ≤ s.size ∧ ((oneS s).2.2 = 0 → 1 ≤ (oneS s).2.1) := by
  unfold oneS
  split
  · rename_i h
    exact ⟨wordF_le s _ 0 (Nat.zero_le _), fun _ => Nat.pos_of_ne_zero h⟩
  · split
    · rename_i h
      exact ⟨numN_le s, fun _ => Nat.pos_of_ne_zero h⟩
    · split
      · exact textF_le s _ 1 [] h1
      · split
        · exact ⟨Nat.zero_le _, fun h => by cases h⟩
        · rename_i h
          exact ⟨signIn_le s signsL, fun _ => Nat.pos_of_ne_zero h⟩
theorem lexF_len (s : ByteArray) : ∀ b pos acc, (lexF s b pos acc).1.length ≤ acc.length + b + 1
  | 0, pos, acc => by simp [lexF]
  | b + 1, pos, acc => by
    unfold lexF
    split
    · split
      · have := lexF_len s b (pos + 1) acc
        omega
      · split
        · simp
        · have := lexF_len s b (pos + (oneS (s.extract pos s.size)).2.1) (acc ++ [((oneS (s.extract pos s.size)).1.1, pos, (oneS (s.extract pos s.size)).1.2)])
          simp at this ⊢
          omega
    · simp
theorem lexS_len (s : ByteArray) : (lexS s).1.length ≤ s.size + 1 := by
  unfold lexS
  split
  · simp
  · have := lexF_len s s.size 0 []
    simpa using this
end Go.Proofs.YtjnaikojoemkaaaDoor
