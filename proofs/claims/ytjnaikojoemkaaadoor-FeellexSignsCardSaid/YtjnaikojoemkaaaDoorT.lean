/-
  Plain laws of names: prefixes, and texts behind each other.
-/
import Derived.Test.YtjnaikojoemkaaaDoorS
namespace Go.Proofs.YtjnaikojoemkaaaDoor
open Go.Lib

theorem plain_iff (s : ByteArray) : plainS s = true ↔ ∃ c l, charsS s = some (c :: l) ∧ firstC c = true ∧ l.all partC = true := by
  rw [plain_same]
  unfold rplainS charsB
  constructor
  · intro h
    split at h
    · cases h
    · rename_i l hl
      cases l with
      | nil => simp [listS] at h
      | cons c l =>
        refine ⟨c, l, hl, ?_⟩
        simpa [listS] using h
  · rintro ⟨c, l, hc, h1, h2⟩
    rw [hc]
    simp only [listS, h1, h2, Bool.and_self]

theorem byte_of_mem (s : ByteArray) (a : UInt8) (h : a ∈ s.data.toList) : ∃ i, i < s.size ∧ s.get! i = a := by
  obtain ⟨i, hi, rfl⟩ := List.getElem_of_mem h
  have hi2 : i < s.data.size := by simpa using hi
  refine ⟨i, hi2, ?_⟩
  rw [get_bang s i hi2]
  simp

theorem plain_no (s : ByteArray) (a : UInt8) (ha : a.toNat < 128) (h1 : firstC a.toNat = false) (h2 : partC a.toNat = false) (h : plainS s = true) : a ∉ s.data.toList := by
  intro hm
  obtain ⟨c, l, hc, hf, hp⟩ := (plain_iff s).1 h
  obtain ⟨i, hi, he⟩ := byte_of_mem s a hm
  refine no_byte s a.toNat ha s.size 0 (c :: l) (by omega) hc ?_ i (by omega) hi (by rw [he])
  rw [List.mem_cons, not_or]
  constructor
  · intro hh; rw [← hh, h1] at hf; cases hf
  · intro hh
    have := List.all_eq_true.1 hp _ hh
    rw [h2] at this; cases this
theorem plain_no58 (s : ByteArray) (h : plainS s = true) : (58 : UInt8) ∉ s.data.toList := plain_no s 58 (by decide) (by decide +kernel) (by decide +kernel) h

theorem index_skip (a : UInt8) : ∀ (A B : List UInt8), a ∉ A → Lib.index (A ++ a :: B) [a] = A.length
  | [], B, _ => by simp [Lib.index, List.isPrefixOf]
  | x :: A, B, h => by
    rw [List.mem_cons, not_or] at h
    have ih := index_skip a A B h.2
    have hp : List.isPrefixOf [a] (x :: (A ++ a :: B)) = false := by simp [List.isPrefixOf]; exact h.1
    rw [List.cons_append, Lib.index, hp, ih]
    have : (((A.length : Nat) : Int) == -1) = false := by simp
    rw [this]; simp
theorem index_none (a : UInt8) : ∀ (A : List UInt8), a ∉ A → Lib.index A [a] = -1
  | [], _ => by simp [Lib.index]
  | x :: A, h => by
    rw [List.mem_cons, not_or] at h
    have hp : List.isPrefixOf [a] (x :: A) = false := by simp [List.isPrefixOf]; exact h.1
    rw [Lib.index, hp, index_none a A h.2]; simp

theorem split_at (s : ByteArray) (A B : List UInt8) (h : s.data.toList = A ++ 58 :: B) (ha : (58 : UInt8) ∉ A) :
    splitS s = if plainS ⟨A.toArray⟩ = true ∧ plainS ⟨B.toArray⟩ = true then (⟨A.toArray⟩, ⟨B.toArray⟩, 0) else (⟨#[]⟩, ⟨#[]⟩, 6) := by
  have hc : Lib.cut s.data.toList [58] = (A, B, true) := by
    unfold Lib.cut
    rw [h, index_skip 58 A B ha]
    simp
  unfold splitS
  rw [hc]
  simp
theorem split_none (s : ByteArray) (h : (58 : UInt8) ∉ s.data.toList) : splitS s = if plainS s = true then (⟨#[]⟩, s, 0) else (⟨#[]⟩, ⟨#[]⟩, 6) := by
  have hc : Lib.cut s.data.toList [58] = (s.data.toList, [], false) := by
    unfold Lib.cut
    rw [index_none 58 _ h]
    simp
  unfold splitS
  rw [hc]
  simp

theorem mk_data (s : ByteArray) : (⟨s.data.toList.toArray⟩ : ByteArray) = s := by cases s; rfl

/-- A prefix and a name behind it, a colon between. -/
theorem split_colon (s t : ByteArray) : splitS (s ++ ⟨#[58]⟩ ++ t) = if plainS s = true ∧ plainS t = true then (s, t, 0) else (⟨#[]⟩, ⟨#[]⟩, 6) := by
  have hl : (s ++ ⟨#[58]⟩ ++ t).data.toList = s.data.toList ++ 58 :: t.data.toList := by simp [ByteArray.data_append]
  by_cases hm : (58 : UInt8) ∈ s.data.toList
  · obtain ⟨A, B, hAB, hA⟩ := List.eq_append_cons_of_mem hm
    have hno : plainS s = false := by
      cases h : plainS s
      · rfl
      · exact absurd hm (plain_no58 s h)
    have hno2 : plainS ⟨(B ++ 58 :: t.data.toList).toArray⟩ = false := by
      cases h : plainS ⟨(B ++ 58 :: t.data.toList).toArray⟩
      · rfl
      · exact absurd (by simp) (plain_no58 _ h)
    rw [split_at _ A (B ++ 58 :: t.data.toList) (by rw [hl, hAB]; simp) hA, hno, hno2]
    simp
  · rw [split_at _ _ _ hl hm, mk_data, mk_data]
theorem split_plain (s : ByteArray) (h : plainS s = true) : splitS s = (⟨#[]⟩, s, 0) := by rw [split_none s (plain_no58 s h), if_pos h]
theorem split_two (s t u : ByteArray) : splitS (s ++ ⟨#[58]⟩ ++ t ++ ⟨#[58]⟩ ++ u) = (⟨#[]⟩, ⟨#[]⟩, 6) := by
  rw [show s ++ ⟨#[58]⟩ ++ t ++ ⟨#[58]⟩ ++ u = s ++ ⟨#[58]⟩ ++ (t ++ ⟨#[58]⟩ ++ u) from by simp only [ByteArray.append_assoc], split_colon]
  have : plainS (t ++ ⟨#[58]⟩ ++ u) = false := by
    cases h : plainS (t ++ ⟨#[58]⟩ ++ u)
    · rfl
    · exact absurd (by simp [ByteArray.data_append]) (plain_no58 _ h)
  rw [this]; simp
end Go.Proofs.YtjnaikojoemkaaaDoor
