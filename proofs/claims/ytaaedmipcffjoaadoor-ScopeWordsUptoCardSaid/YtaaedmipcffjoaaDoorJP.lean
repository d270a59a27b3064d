/-
  Plain laws of names: a name's words, joined.
-/
import Derived.Test.YtaaedmipcffjoaaDoorY
namespace Go.Proofs.YtaaedmipcffjoaaDoor
open Go.Lib

theorem cutL_append : ∀ (A B : List UInt8) (x : ByteArray), cutL (A ++ 32 :: B) x = cutL A x ++ cutL B ⟨#[]⟩
  | [], B, x => by simp [cutL]
  | c :: A, B, x => by
    rw [List.cons_append]
    by_cases h : c = 32
    · rw [cutL, if_pos h, cutL, if_pos h, cutL_append A B]; rfl
    · rw [cutL, if_neg h, cutL, if_neg h, cutL_append A B]
theorem rparts_blank (s t : ByteArray) : rpartsS (s ++ ⟨#[32]⟩ ++ t) = rpartsS s ++ rpartsS t := by
  unfold rpartsS
  rw [show (s ++ ⟨#[32]⟩ ++ t).data.toList = s.data.toList ++ 32 :: t.data.toList from by simp [ByteArray.data_append], cutL_append]
theorem parts_blank (s t : ByteArray) : partsS (s ++ ⟨#[32]⟩ ++ t) = partsS s ++ partsS t := by
  rw [← parts_same, ← parts_same, ← parts_same, rparts_blank]
theorem words_blank (s t : ByteArray) : wordsS (s ++ ⟨#[32]⟩ ++ t) = if (partsS s).all wordS = true ∧ (partsS t).all wordS = true then some (partsS s ++ partsS t) else none := by
  unfold wordsS
  simp only [parts_blank, List.all_append, Bool.and_eq_true]
theorem word_empty : wordS ⟨#[]⟩ = false := by decide +kernel
theorem parts_empty : partsS ⟨#[]⟩ = [⟨#[]⟩] := by rw [← parts_same]; rfl
theorem empty_append (t : ByteArray) : (⟨#[]⟩ : ByteArray) ++ t = t := ByteArray.empty_append
theorem append_empty (t : ByteArray) : t ++ (⟨#[]⟩ : ByteArray) = t := ByteArray.append_empty
theorem words_end (s : ByteArray) : wordsS (s ++ ⟨#[32]⟩) = none := by
  have := words_blank s ⟨#[]⟩
  rw [append_empty] at this
  rw [this, parts_empty, if_neg]
  simp [word_empty]
theorem words_start (t : ByteArray) : wordsS (⟨#[32]⟩ ++ t) = none := by
  have := words_blank ⟨#[]⟩ t
  rw [empty_append] at this
  rw [this, parts_empty, if_neg]
  simp [word_empty]
theorem words_two (s t : ByteArray) : wordsS (s ++ ⟨#[32, 32]⟩ ++ t) = none := by
  have h : s ++ ⟨#[32, 32]⟩ ++ t = s ++ ⟨#[32]⟩ ++ (⟨#[32]⟩ ++ t) := by
    rw [show (⟨#[32, 32]⟩ : ByteArray) = ⟨#[32]⟩ ++ ⟨#[32]⟩ from rfl]
    simp only [ByteArray.append_assoc]
  rw [h, words_blank, if_neg]
  intro hh
  have h2 := words_start t
  unfold wordsS at h2
  rw [if_pos hh.2] at h2
  cases h2

/-- A blank and a word, each. -/
def tailJ : List ByteArray → ByteArray
  | [] => ⟨#[]⟩
  | x :: l => ⟨#[32]⟩ ++ x ++ tailJ l
theorem cutL_join : ∀ (l : List UInt8) (x : ByteArray), ∃ y r, cutL l x = y :: r ∧ y ++ tailJ r = x ++ ⟨l.toArray⟩
  | [], x => ⟨x, [], rfl, rfl⟩
  | c :: l, x => by
    by_cases h : c = 32
    · obtain ⟨y, r, h1, h2⟩ := cutL_join l ⟨#[]⟩
      refine ⟨x, y :: r, by rw [cutL, if_pos h, h1], ?_⟩
      rw [tailJ, ByteArray.append_assoc (a := ⟨#[32]⟩), h2, h]
      apply ByteArray.ext
      simp [ByteArray.data_append]
    · obtain ⟨y, r, h1, h2⟩ := cutL_join l (x ++ ⟨#[c]⟩)
      refine ⟨y, r, by rw [cutL, if_neg h, h1], ?_⟩
      rw [h2]
      apply ByteArray.ext
      simp [ByteArray.data_append]
theorem parts_join (s : ByteArray) : ∃ y r, partsS s = y :: r ∧ y ++ tailJ r = s := by
  obtain ⟨y, r, h1, h2⟩ := cutL_join s.data.toList ⟨#[]⟩
  refine ⟨y, r, by rw [← parts_same]; exact h1, ?_⟩
  rw [h2, empty_append, mk_data]
end Go.Proofs.YtaaedmipcffjoaaDoor
