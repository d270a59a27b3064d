/-
  Plain laws of scope: a name's own words.
-/
import Derived.Test.YtaaedmipcffjoaaDoorSCA
import Derived.Test.YtaaedmipcffjoaaDoorJP
namespace Go.Proofs.YtaaedmipcffjoaaDoor

theorem tail_join : ∀ (y : ByteArray) (r : List ByteArray), joinS (y :: r) = y ++ tailJ r
  | y, [] => by rw [joinS_one, tailJ, append_empty]
  | y, z :: r => by
    have h := joinS_app [y] (z :: r) (by simp) (by simp)
    rw [List.singleton_append, joinS_one] at h
    rw [h, tail_join z r, tailJ]
    simp only [ByteArray.append_assoc]
theorem joinS_parts (s : ByteArray) : joinS (partsS s) = s := by
  obtain ⟨y, r, h1, h2⟩ := parts_join s
  rw [h1, tail_join, h2]
theorem parts_ne (s : ByteArray) : partsS s ≠ [] := by
  obtain ⟨y, r, h1, _⟩ := parts_join s
  rw [h1]; simp
theorem own_words (N : List ByteArray) (name : ByteArray) (h : name ∈ N) : longS N (partsS name) (partsS name).length = (name, (partsS name).length) := by
  obtain ⟨m, hm⟩ : ∃ m, (partsS name).length = m + 1 := ⟨(partsS name).length - 1, by
    have := parts_ne name
    cases hp : partsS name with
    | nil => exact absurd hp this
    | cons a l => simp⟩
  rw [hm, longS_succ, List.take_of_length_le (by omega), joinS_parts, if_pos h]
/-- Whatever words stand behind. -/
theorem more_words (N : List ByteArray) (name : ByteArray) (h : name ∈ N) (behind : List ByteArray) (y : ByteArray) (k : Nat) (hy : longS N (partsS name ++ behind) (partsS name ++ behind).length = (y, k)) :
    (partsS name).length ≤ k ∧ (k = (partsS name).length → y = name) ∧ ((partsS name).length < k → y ∈ N ∧ name.size < y.size ∧ y.extract 0 name.size = name) := by
  have hm := longS_max N (partsS name ++ behind) (partsS name ++ behind).length (partsS name).length (by simp) (by rw [List.take_left' rfl, joinS_parts]; exact h)
  have ht := longS_text N (partsS name ++ behind) (partsS name ++ behind).length
  have hl := longS_le N (partsS name ++ behind) (partsS name ++ behind).length
  rw [hy] at hm ht hl
  dsimp only at hm ht hl
  have h0 : 0 < (partsS name).length := List.length_pos_iff.2 (parts_ne name)
  rcases ht with ⟨h1, _⟩ | ⟨_, h2, h3⟩
  · omega
  · refine ⟨hm, fun e => ?_, fun e => ?_⟩
    · rw [h2, e, List.take_left' rfl, joinS_parts]
    · have hy2 : y = name ++ ⟨#[32]⟩ ++ joinS (behind.take (k - (partsS name).length)) := by
        rw [h2, List.take_append, List.take_of_length_le (by omega), joinS_app _ _ (parts_ne name), joinS_parts]
        intro h4
        have := congrArg List.length h4
        rw [List.length_take, List.length_nil] at this
        rw [List.length_append] at hl
        omega
      refine ⟨h3, ?_, ?_⟩
      · rw [hy2, ByteArray.size_append, ByteArray.size_append]
        have : (⟨#[32]⟩ : ByteArray).size = 1 := rfl
        omega
      · rw [hy2, ByteArray.append_assoc]
        apply ByteArray.ext
        simp
end Go.Proofs.YtaaedmipcffjoaaDoor
