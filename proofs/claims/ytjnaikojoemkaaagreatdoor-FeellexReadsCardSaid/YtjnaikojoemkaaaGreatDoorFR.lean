/-
  feellex: the document's answer: sign, word.
-/
import Derived.Test.YtjnaikojoemkaaaGreatDoorFQ
namespace Go.Proofs.YtjnaikojoemkaaaGreatDoor
open Go.RowKit

def signs2 : List (List UInt8) := [[42, 42], [60, 61], [62, 61], [33, 61], [46, 46]]
def signs1 : List UInt8 := [43, 45, 42, 47, 60, 62, 61, 40, 41, 91, 93, 123, 125, 44, 58, 46]
theorem signIn_len (s : ByteArray) (n : Nat) : ∀ A B : List (List UInt8), (∀ l ∈ A, l.length = n) → (signIn s (A ++ B)).length = if (A.any fun l => Lib.hasPrefix s.data.toList l) = true then n else (signIn s B).length
  | [], B, _ => by simp
  | x :: A, B, h => by
    have e : signIn s (x :: (A ++ B)) = if Lib.hasPrefix s.data.toList x = true then x else signIn s (A ++ B) := rfl
    rw [List.cons_append, e]
    by_cases hx : Lib.hasPrefix s.data.toList x = true
    · rw [if_pos hx, List.any_cons, hx, Bool.true_or, if_pos rfl]
      exact h x (by simp)
    · rw [if_neg hx, signIn_len s n A B (fun l hl => h l (by simp [hl])), List.any_cons, Bool.eq_false_iff.2 hx, Bool.false_or]
theorem sign_len (s : ByteArray) : (signS s).size = if (signs2.any fun l => Lib.hasPrefix s.data.toList l) = true then 2 else if (signs1.any fun c => Lib.hasPrefix s.data.toList [c]) = true then 1 else 0 := by
  have e : signsL = signs2 ++ (signs1.map (fun c => [c]) ++ []) := rfl
  show (signIn s signsL).length = _
  rw [e, signIn_len s 2 signs2 _ (by decide), signIn_len s 1 _ [] (by decide), List.any_map]
  rfl
theorem extract_piece (s : ByteArray) (i n : Nat) : (s.extract i (i + n)).data.toList = (s.data.toList.drop i).take n := by
  rw [ByteArray.data_extract, Array.toList_extract]
  simp [List.extract_eq_take_drop]
theorem pre_two (s : ByteArray) (k : Nat) (a b : UInt8) : Lib.hasPrefix (s.extract k s.size).data.toList [a, b] = true ↔ k + 2 ≤ s.size ∧ (s.extract k (k + 2)).data.toList = [a, b] := by
  have hl : s.data.toList.length = s.size := rfl
  have e2 : (s.extract k (k + 2)).data.toList = (s.data.toList.drop k).take 2 := by
    rw [extract_piece]
  rw [tail_list, e2]
  have hd : (s.data.toList.drop k).length = s.size - k := by simp
  generalize s.data.toList.drop k = L at hd ⊢
  match L, hd with
  | [], hd => simp [Lib.hasPrefix]
  | [x], hd => simp [Lib.hasPrefix]
  | x :: y :: L, hd =>
    simp at hd
    simp [Lib.hasPrefix]
    constructor
    · rintro ⟨rfl, rfl⟩; exact ⟨by omega, rfl, rfl⟩
    · rintro ⟨_, rfl, rfl⟩; exact ⟨rfl, rfl⟩
theorem sign_at (s : ByteArray) (k : Nat) (hk : k < s.size) : (signS (s.extract k s.size)).size =
    if k + 2 ≤ s.size ∧ (s.extract k (k + 2)).data.toList ∈ signs2 then 2 else if s.get! k ∈ signs1 then 1 else 0 := by
  rw [sign_len]
  congr 1
  · rw [List.any_eq_true, eq_iff_iff]
    constructor
    · rintro ⟨l, hl, h⟩
      have : ∃ a b, l = [a, b] := by
        simp only [signs2, List.mem_cons, List.not_mem_nil, or_false] at hl
        rcases hl with rfl | rfl | rfl | rfl | rfl <;> exact ⟨_, _, rfl⟩
      obtain ⟨a, b, rfl⟩ := this
      obtain ⟨h1, h2⟩ := (pre_two s k a b).1 h
      exact ⟨h1, by rw [h2]; exact hl⟩
    · rintro ⟨h1, h2⟩
      refine ⟨_, h2, ?_⟩
      have : ∃ a b, (s.extract k (k + 2)).data.toList = [a, b] := by
        simp only [signs2, List.mem_cons, List.not_mem_nil, or_false] at h2
        rcases h2 with h | h | h | h | h <;> exact ⟨_, _, h⟩
      obtain ⟨a, b, hab⟩ := this
      rw [hab]
      exact (pre_two s k a b).2 ⟨h1, hab⟩
  · congr 1
    rw [List.any_eq_true, eq_iff_iff]
    constructor
    · rintro ⟨c, hc, h⟩
      rw [((pre_one s k c).1 h).2]
      exact hc
    · intro h
      exact ⟨_, h, (pre_one s k _).2 ⟨hk, rfl⟩⟩

theorem sign1_cases (c : UInt8) : (((c.toNat : Int) == 43) = true ∧ c ∈ signs1) ∨
    (((c.toNat : Int) == 43) = false ∧ ((c.toNat : Int) == 45) = true ∧ c ∈ signs1) ∨
    (((c.toNat : Int) == 43) = false ∧ ((c.toNat : Int) == 45) = false ∧ ((c.toNat : Int) == 42) = true ∧ c ∈ signs1) ∨
    (((c.toNat : Int) == 43) = false ∧ ((c.toNat : Int) == 45) = false ∧ ((c.toNat : Int) == 42) = false ∧ ((c.toNat : Int) == 47) = true ∧ c ∈ signs1) ∨
    (((c.toNat : Int) == 43) = false ∧ ((c.toNat : Int) == 45) = false ∧ ((c.toNat : Int) == 42) = false ∧ ((c.toNat : Int) == 47) = false ∧ ((c.toNat : Int) == 60) = true ∧ c ∈ signs1) ∨
    (((c.toNat : Int) == 43) = false ∧ ((c.toNat : Int) == 45) = false ∧ ((c.toNat : Int) == 42) = false ∧ ((c.toNat : Int) == 47) = false ∧ ((c.toNat : Int) == 60) = false ∧ ((c.toNat : Int) == 62) = true ∧ c ∈ signs1) ∨
    (((c.toNat : Int) == 43) = false ∧ ((c.toNat : Int) == 45) = false ∧ ((c.toNat : Int) == 42) = false ∧ ((c.toNat : Int) == 47) = false ∧ ((c.toNat : Int) == 60) = false ∧ ((c.toNat : Int) == 62) = false ∧ ((c.toNat : Int) == 61) = true ∧ c ∈ signs1) ∨
    (((c.toNat : Int) == 43) = false ∧ ((c.toNat : Int) == 45) = false ∧ ((c.toNat : Int) == 42) = false ∧ ((c.toNat : Int) == 47) = false ∧ ((c.toNat : Int) == 60) = false ∧ ((c.toNat : Int) == 62) = false ∧ ((c.toNat : Int) == 61) = false ∧ ((c.toNat : Int) == 40) = true ∧ c ∈ signs1) ∨
    (((c.toNat : Int) == 43) = false ∧ ((c.toNat : Int) == 45) = false ∧ ((c.toNat : Int) == 42) = false ∧ ((c.toNat : Int) == 47) = false ∧ ((c.toNat : Int) == 60) = false ∧ ((c.toNat : Int) == 62) = false ∧ ((c.toNat : Int) == 61) = false ∧ ((c.toNat : Int) == 40) = false ∧ ((c.toNat : Int) == 41) = true ∧ c ∈ signs1) ∨
    (((c.toNat : Int) == 43) = false ∧ ((c.toNat : Int) == 45) = false ∧ ((c.toNat : Int) == 42) = false ∧ ((c.toNat : Int) == 47) = false ∧ ((c.toNat : Int) == 60) = false ∧ ((c.toNat : Int) == 62) = false ∧ ((c.toNat : Int) == 61) = false ∧ ((c.toNat : Int) == 40) = false ∧ ((c.toNat : Int) == 41) = false ∧ ((c.toNat : Int) == 91) = true ∧ c ∈ signs1) ∨
    (((c.toNat : Int) == 43) = false ∧ ((c.toNat : Int) == 45) = false ∧ ((c.toNat : Int) == 42) = false ∧ ((c.toNat : Int) == 47) = false ∧ ((c.toNat : Int) == 60) = false ∧ ((c.toNat : Int) == 62) = false ∧ ((c.toNat : Int) == 61) = false ∧ ((c.toNat : Int) == 40) = false ∧ ((c.toNat : Int) == 41) = false ∧ ((c.toNat : Int) == 91) = false ∧ ((c.toNat : Int) == 93) = true ∧ c ∈ signs1) ∨
    (((c.toNat : Int) == 43) = false ∧ ((c.toNat : Int) == 45) = false ∧ ((c.toNat : Int) == 42) = false ∧ ((c.toNat : Int) == 47) = false ∧ ((c.toNat : Int) == 60) = false ∧ ((c.toNat : Int) == 62) = false ∧ ((c.toNat : Int) == 61) = false ∧ ((c.toNat : Int) == 40) = false ∧ ((c.toNat : Int) == 41) = false ∧ ((c.toNat : Int) == 91) = false ∧ ((c.toNat : Int) == 93) = false ∧ ((c.toNat : Int) == 123) = true ∧ c ∈ signs1) ∨
    (((c.toNat : Int) == 43) = false ∧ ((c.toNat : Int) == 45) = false ∧ ((c.toNat : Int) == 42) = false ∧ ((c.toNat : Int) == 47) = false ∧ ((c.toNat : Int) == 60) = false ∧ ((c.toNat : Int) == 62) = false ∧ ((c.toNat : Int) == 61) = false ∧ ((c.toNat : Int) == 40) = false ∧ ((c.toNat : Int) == 41) = false ∧ ((c.toNat : Int) == 91) = false ∧ ((c.toNat : Int) == 93) = false ∧ ((c.toNat : Int) == 123) = false ∧ ((c.toNat : Int) == 125) = true ∧ c ∈ signs1) ∨
    (((c.toNat : Int) == 43) = false ∧ ((c.toNat : Int) == 45) = false ∧ ((c.toNat : Int) == 42) = false ∧ ((c.toNat : Int) == 47) = false ∧ ((c.toNat : Int) == 60) = false ∧ ((c.toNat : Int) == 62) = false ∧ ((c.toNat : Int) == 61) = false ∧ ((c.toNat : Int) == 40) = false ∧ ((c.toNat : Int) == 41) = false ∧ ((c.toNat : Int) == 91) = false ∧ ((c.toNat : Int) == 93) = false ∧ ((c.toNat : Int) == 123) = false ∧ ((c.toNat : Int) == 125) = false ∧ ((c.toNat : Int) == 44) = true ∧ c ∈ signs1) ∨
    (((c.toNat : Int) == 43) = false ∧ ((c.toNat : Int) == 45) = false ∧ ((c.toNat : Int) == 42) = false ∧ ((c.toNat : Int) == 47) = false ∧ ((c.toNat : Int) == 60) = false ∧ ((c.toNat : Int) == 62) = false ∧ ((c.toNat : Int) == 61) = false ∧ ((c.toNat : Int) == 40) = false ∧ ((c.toNat : Int) == 41) = false ∧ ((c.toNat : Int) == 91) = false ∧ ((c.toNat : Int) == 93) = false ∧ ((c.toNat : Int) == 123) = false ∧ ((c.toNat : Int) == 125) = false ∧ ((c.toNat : Int) == 44) = false ∧ ((c.toNat : Int) == 58) = true ∧ c ∈ signs1) ∨
    (((c.toNat : Int) == 43) = false ∧ ((c.toNat : Int) == 45) = false ∧ ((c.toNat : Int) == 42) = false ∧ ((c.toNat : Int) == 47) = false ∧ ((c.toNat : Int) == 60) = false ∧ ((c.toNat : Int) == 62) = false ∧ ((c.toNat : Int) == 61) = false ∧ ((c.toNat : Int) == 40) = false ∧ ((c.toNat : Int) == 41) = false ∧ ((c.toNat : Int) == 91) = false ∧ ((c.toNat : Int) == 93) = false ∧ ((c.toNat : Int) == 123) = false ∧ ((c.toNat : Int) == 125) = false ∧ ((c.toNat : Int) == 44) = false ∧ ((c.toNat : Int) == 58) = false ∧ ((c.toNat : Int) == 46) = true ∧ c ∈ signs1) ∨
    (((c.toNat : Int) == 43) = false ∧ ((c.toNat : Int) == 45) = false ∧ ((c.toNat : Int) == 42) = false ∧ ((c.toNat : Int) == 47) = false ∧ ((c.toNat : Int) == 60) = false ∧ ((c.toNat : Int) == 62) = false ∧ ((c.toNat : Int) == 61) = false ∧ ((c.toNat : Int) == 40) = false ∧ ((c.toNat : Int) == 41) = false ∧ ((c.toNat : Int) == 91) = false ∧ ((c.toNat : Int) == 93) = false ∧ ((c.toNat : Int) == 123) = false ∧ ((c.toNat : Int) == 125) = false ∧ ((c.toNat : Int) == 44) = false ∧ ((c.toNat : Int) == 58) = false ∧ ((c.toNat : Int) == 46) = false ∧ c ∉ signs1) := by
  have e : ∀ n : Nat, n < 256 → (((c.toNat : Int) == n) = true ↔ c = UInt8.ofNat n) := fun n hn => by
    rw [beq_iff_eq]
    constructor
    · intro h
      apply UInt8.toNat_inj.1
      simp
      omega
    · intro h
      rw [h]
      simp
      omega
  by_cases h0 : ((c.toNat : Int) == 43) = true
  · left; exact ⟨h0, by rw [(e 43 (by omega)).1 h0]; decide⟩
  have n0 := Bool.eq_false_iff.2 h0
  by_cases h1 : ((c.toNat : Int) == 45) = true
  · right; left; exact ⟨n0, h1, by rw [(e 45 (by omega)).1 h1]; decide⟩
  have n1 := Bool.eq_false_iff.2 h1
  by_cases h2 : ((c.toNat : Int) == 42) = true
  · right; right; left; exact ⟨n0, n1, h2, by rw [(e 42 (by omega)).1 h2]; decide⟩
  have n2 := Bool.eq_false_iff.2 h2
  by_cases h3 : ((c.toNat : Int) == 47) = true
  · right; right; right; left; exact ⟨n0, n1, n2, h3, by rw [(e 47 (by omega)).1 h3]; decide⟩
  have n3 := Bool.eq_false_iff.2 h3
  by_cases h4 : ((c.toNat : Int) == 60) = true
  · right; right; right; right; left; exact ⟨n0, n1, n2, n3, h4, by rw [(e 60 (by omega)).1 h4]; decide⟩
  have n4 := Bool.eq_false_iff.2 h4
  by_cases h5 : ((c.toNat : Int) == 62) = true
  · right; right; right; right; right; left; exact ⟨n0, n1, n2, n3, n4, h5, by rw [(e 62 (by omega)).1 h5]; decide⟩
  have n5 := Bool.eq_false_iff.2 h5
  by_cases h6 : ((c.toNat : Int) == 61) = true
  · right; right; right; right; right; right; left; exact ⟨n0, n1, n2, n3, n4, n5, h6, by rw [(e 61 (by omega)).1 h6]; decide⟩
  have n6 := Bool.eq_false_iff.2 h6
  by_cases h7 : ((c.toNat : Int) == 40) = true
  · right; right; right; right; right; right; right; left; exact ⟨n0, n1, n2, n3, n4, n5, n6, h7, by rw [(e 40 (by omega)).1 h7]; decide⟩
  have n7 := Bool.eq_false_iff.2 h7
  by_cases h8 : ((c.toNat : Int) == 41) = true
  · right; right; right; right; right; right; right; right; left; exact ⟨n0, n1, n2, n3, n4, n5, n6, n7, h8, by rw [(e 41 (by omega)).1 h8]; decide⟩
  have n8 := Bool.eq_false_iff.2 h8
  by_cases h9 : ((c.toNat : Int) == 91) = true
  · right; right; right; right; right; right; right; right; right; left; exact ⟨n0, n1, n2, n3, n4, n5, n6, n7, n8, h9, by rw [(e 91 (by omega)).1 h9]; decide⟩
  have n9 := Bool.eq_false_iff.2 h9
  by_cases h10 : ((c.toNat : Int) == 93) = true
  · right; right; right; right; right; right; right; right; right; right; left; exact ⟨n0, n1, n2, n3, n4, n5, n6, n7, n8, n9, h10, by rw [(e 93 (by omega)).1 h10]; decide⟩
  have n10 := Bool.eq_false_iff.2 h10
  by_cases h11 : ((c.toNat : Int) == 123) = true
  · right; right; right; right; right; right; right; right; right; right; right; left; exact ⟨n0, n1, n2, n3, n4, n5, n6, n7, n8, n9, n10, h11, by rw [(e 123 (by omega)).1 h11]; decide⟩
  have n11 := Bool.eq_false_iff.2 h11
  by_cases h12 : ((c.toNat : Int) == 125) = true
  · right; right; right; right; right; right; right; right; right; right; right; right; left; exact ⟨n0, n1, n2, n3, n4, n5, n6, n7, n8, n9, n10, n11, h12, by rw [(e 125 (by omega)).1 h12]; decide⟩
  have n12 := Bool.eq_false_iff.2 h12
  by_cases h13 : ((c.toNat : Int) == 44) = true
  · right; right; right; right; right; right; right; right; right; right; right; right; right; left; exact ⟨n0, n1, n2, n3, n4, n5, n6, n7, n8, n9, n10, n11, n12, h13, by rw [(e 44 (by omega)).1 h13]; decide⟩
  have n13 := Bool.eq_false_iff.2 h13
  by_cases h14 : ((c.toNat : Int) == 58) = true
  · right; right; right; right; right; right; right; right; right; right; right; right; right; right; left; exact ⟨n0, n1, n2, n3, n4, n5, n6, n7, n8, n9, n10, n11, n12, n13, h14, by rw [(e 58 (by omega)).1 h14]; decide⟩
  have n14 := Bool.eq_false_iff.2 h14
  by_cases h15 : ((c.toNat : Int) == 46) = true
  · right; right; right; right; right; right; right; right; right; right; right; right; right; right; right; left; exact ⟨n0, n1, n2, n3, n4, n5, n6, n7, n8, n9, n10, n11, n12, n13, n14, h15, by rw [(e 46 (by omega)).1 h15]; decide⟩
  have n15 := Bool.eq_false_iff.2 h15
  right; right; right; right; right; right; right; right; right; right; right; right; right; right; right; right; exact ⟨n0, n1, n2, n3, n4, n5, n6, n7, n8, n9, n10, n11, n12, n13, n14, n15, fun hm => by
    simp only [signs1, List.mem_cons, List.not_mem_nil, or_false] at hm
    rcases hm with rfl | rfl | rfl | rfl | rfl | rfl | rfl | rfl | rfl | rfl | rfl | rfl | rfl | rfl | rfl | rfl
    · exact h0 rfl
    · exact h1 rfl
    · exact h2 rfl
    · exact h3 rfl
    · exact h4 rfl
    · exact h5 rfl
    · exact h6 rfl
    · exact h7 rfl
    · exact h8 rfl
    · exact h9 rfl
    · exact h10 rfl
    · exact h11 rfl
    · exact h12 rfl
    · exact h13 rfl
    · exact h14 rfl
    · exact h15 rfl⟩
theorem sign2_cases (x : ByteArray) : ((x.toList == [42, 42]) = true ∧ x.data.toList ∈ signs2) ∨
    ((x.toList == [42, 42]) = false ∧ (x.toList == [60, 61]) = true ∧ x.data.toList ∈ signs2) ∨
    ((x.toList == [42, 42]) = false ∧ (x.toList == [60, 61]) = false ∧ (x.toList == [62, 61]) = true ∧ x.data.toList ∈ signs2) ∨
    ((x.toList == [42, 42]) = false ∧ (x.toList == [60, 61]) = false ∧ (x.toList == [62, 61]) = false ∧ (x.toList == [33, 61]) = true ∧ x.data.toList ∈ signs2) ∨
    ((x.toList == [42, 42]) = false ∧ (x.toList == [60, 61]) = false ∧ (x.toList == [62, 61]) = false ∧ (x.toList == [33, 61]) = false ∧ (x.toList == [46, 46]) = true ∧ x.data.toList ∈ signs2) ∨
    ((x.toList == [42, 42]) = false ∧ (x.toList == [60, 61]) = false ∧ (x.toList == [62, 61]) = false ∧ (x.toList == [33, 61]) = false ∧ (x.toList == [46, 46]) = false ∧ x.data.toList ∉ signs2) := by
  have e : ∀ l : List UInt8, (x.toList == l) = true ↔ x.data.toList = l := fun l => by rw [beq_iff_eq, Lib.toList_data]
  by_cases h0 : (x.toList == [42, 42]) = true
  · left; exact ⟨h0, by rw [(e _).1 h0]; decide⟩
  have n0 := Bool.eq_false_iff.2 h0
  by_cases h1 : (x.toList == [60, 61]) = true
  · right; left; exact ⟨n0, h1, by rw [(e _).1 h1]; decide⟩
  have n1 := Bool.eq_false_iff.2 h1
  by_cases h2 : (x.toList == [62, 61]) = true
  · right; right; left; exact ⟨n0, n1, h2, by rw [(e _).1 h2]; decide⟩
  have n2 := Bool.eq_false_iff.2 h2
  by_cases h3 : (x.toList == [33, 61]) = true
  · right; right; right; left; exact ⟨n0, n1, n2, h3, by rw [(e _).1 h3]; decide⟩
  have n3 := Bool.eq_false_iff.2 h3
  by_cases h4 : (x.toList == [46, 46]) = true
  · right; right; right; right; left; exact ⟨n0, n1, n2, n3, h4, by rw [(e _).1 h4]; decide⟩
  have n4 := Bool.eq_false_iff.2 h4
  right; right; right; right; right; exact ⟨n0, n1, n2, n3, n4, fun hm => by
    simp only [signs2, List.mem_cons, List.not_mem_nil, or_false] at hm
    rcases hm with hm | hm | hm | hm | hm
    · exact h0 ((e _).2 hm)
    · exact h1 ((e _).2 hm)
    · exact h2 ((e _).2 hm)
    · exact h3 ((e _).2 hm)
    · exact h4 ((e _).2 hm)⟩
set_option maxRecDepth 100000 in
set_option maxHeartbeats 4000000 in
theorem rsign_c (s : ByteArray) (hs : s.size ≤ 4294967280) (i : Nat) (hi : i < s.size) (w : World) :
    Calls Tryz.prog 23 #[.string s, .int .i64 i] w fun e w' => e = .returned (.int .i64 (signS (s.extract i s.size)).size) ∧ w = w' := by
  have hn := sign_at s i hi
  obtain ⟨N, hN⟩ : ∃ N, (signS (s.extract i s.size)).size = N := ⟨_, rfl⟩
  rw [hN] at hn ⊢
  have h2c := sign2_cases (s.extract i (i + 2))
  obtain ⟨c, hc⟩ : ∃ c, s.get! i = c := ⟨_, rfl⟩
  have hx2 : s[i]'hi = c := by rw [← hc]; exact (get_at s i hi).symm
  rw [hc] at hn
  have hii : (i : Int) < s.size := by omega
  clear hN hc
  have hcl := c.toNat_lt
  by_cases h2 : i + 2 ≤ s.size
  · have h2i : (i : Int) + 2 ≤ s.size := by omega
    rcases h2c with ⟨a0, hm⟩ | ⟨a0, a1, hm⟩ | ⟨a0, a1, a2, hm⟩ | ⟨a0, a1, a2, a3, hm⟩ | ⟨a0, a1, a2, a3, a4, hm⟩ | ⟨a0, a1, a2, a3, a4, hm⟩
    iterate 5
      · rw [if_pos ⟨h2, hm⟩] at hn
        have HN := Lib.hid hn
        clear hn hm
        go_enter Tryz.func23, Tryz.ntmps23
        go_wp2_with fail
        go_ret
        exact ⟨ret_int (by rw [HN.out]; rfl), rfl⟩
    rw [if_neg (fun h => hm h.2)] at hn
    clear hm
    rcases sign1_cases c with ⟨e0, hm⟩ | ⟨e0, e1, hm⟩ | ⟨e0, e1, e2, hm⟩ | ⟨e0, e1, e2, e3, hm⟩ | ⟨e0, e1, e2, e3, e4, hm⟩ | ⟨e0, e1, e2, e3, e4, e5, hm⟩ | ⟨e0, e1, e2, e3, e4, e5, e6, hm⟩ | ⟨e0, e1, e2, e3, e4, e5, e6, e7, hm⟩ | ⟨e0, e1, e2, e3, e4, e5, e6, e7, e8, hm⟩ | ⟨e0, e1, e2, e3, e4, e5, e6, e7, e8, e9, hm⟩ | ⟨e0, e1, e2, e3, e4, e5, e6, e7, e8, e9, e10, hm⟩ | ⟨e0, e1, e2, e3, e4, e5, e6, e7, e8, e9, e10, e11, hm⟩ | ⟨e0, e1, e2, e3, e4, e5, e6, e7, e8, e9, e10, e11, e12, hm⟩ | ⟨e0, e1, e2, e3, e4, e5, e6, e7, e8, e9, e10, e11, e12, e13, hm⟩ | ⟨e0, e1, e2, e3, e4, e5, e6, e7, e8, e9, e10, e11, e12, e13, e14, hm⟩ | ⟨e0, e1, e2, e3, e4, e5, e6, e7, e8, e9, e10, e11, e12, e13, e14, e15, hm⟩ | ⟨e0, e1, e2, e3, e4, e5, e6, e7, e8, e9, e10, e11, e12, e13, e14, e15, hm⟩
    iterate 16
      · rw [if_pos hm] at hn
        have HN := Lib.hid hn
        clear hn hm
        go_enter Tryz.func23, Tryz.ntmps23
        go_wp2_with fail
        go_ret
        exact ⟨ret_int (by rw [HN.out]; rfl), rfl⟩
    rw [if_neg hm] at hn
    have HN := Lib.hid hn
    clear hn hm
    go_enter Tryz.func23, Tryz.ntmps23
    go_wp2_with fail
    go_ret
    exact ⟨ret_int (by rw [HN.out]; rfl), rfl⟩
  · have h2i : ¬ (i : Int) + 2 ≤ s.size := by omega
    clear h2c
    rw [if_neg (fun h => h2 h.1)] at hn
    rcases sign1_cases c with ⟨e0, hm⟩ | ⟨e0, e1, hm⟩ | ⟨e0, e1, e2, hm⟩ | ⟨e0, e1, e2, e3, hm⟩ | ⟨e0, e1, e2, e3, e4, hm⟩ | ⟨e0, e1, e2, e3, e4, e5, hm⟩ | ⟨e0, e1, e2, e3, e4, e5, e6, hm⟩ | ⟨e0, e1, e2, e3, e4, e5, e6, e7, hm⟩ | ⟨e0, e1, e2, e3, e4, e5, e6, e7, e8, hm⟩ | ⟨e0, e1, e2, e3, e4, e5, e6, e7, e8, e9, hm⟩ | ⟨e0, e1, e2, e3, e4, e5, e6, e7, e8, e9, e10, hm⟩ | ⟨e0, e1, e2, e3, e4, e5, e6, e7, e8, e9, e10, e11, hm⟩ | ⟨e0, e1, e2, e3, e4, e5, e6, e7, e8, e9, e10, e11, e12, hm⟩ | ⟨e0, e1, e2, e3, e4, e5, e6, e7, e8, e9, e10, e11, e12, e13, hm⟩ | ⟨e0, e1, e2, e3, e4, e5, e6, e7, e8, e9, e10, e11, e12, e13, e14, hm⟩ | ⟨e0, e1, e2, e3, e4, e5, e6, e7, e8, e9, e10, e11, e12, e13, e14, e15, hm⟩ | ⟨e0, e1, e2, e3, e4, e5, e6, e7, e8, e9, e10, e11, e12, e13, e14, e15, hm⟩
    iterate 16
      · rw [if_pos hm] at hn
        have HN := Lib.hid hn
        clear hn hm
        go_enter Tryz.func23, Tryz.ntmps23
        go_wp2_with fail
        go_ret
        exact ⟨ret_int (by rw [HN.out]; rfl), rfl⟩
    rw [if_neg hm] at hn
    have HN := Lib.hid hn
    clear hn hm
    go_enter Tryz.func23, Tryz.ntmps23
    go_wp2_with fail
    go_ret
    exact ⟨ret_int (by rw [HN.out]; rfl), rfl⟩

set_option maxRecDepth 100000 in
set_option maxHeartbeats 2000000 in
theorem rwd_c (s : ByteArray) (hs : s.size ≤ 4294967280) (i : Nat) (hi : i ≤ s.size) (w : World) :
    Calls Tryz.prog 18 #[.string s, .int .i64 i] w fun e w' => e = .returned (.int .i64 ((rwordE s i : Nat) - i : Int)) ∧ Bel w w' := by
  obtain ⟨R, hR⟩ : ∃ R, rwordE s i = R := ⟨_, rfl⟩
  rw [hR]
  have HR := Lib.hid hR
  clear hR
  go_enter Tryz.func18, Tryz.ntmps18
  go_wp2_with fail
  go_loopw [5] (fun k wr => ∃ (pos b : Nat), i ≤ pos ∧ pos ≤ s.size ∧ k = .int .i64 pos ∧ Bel w wr ∧ s.size ≤ pos + b ∧ rwordF s i b pos = R) (fun k _ => s.size - (intOf k).toNat)
  case atStart => exact ⟨i, s.size, Nat.le_refl _, hi, rfl, Bel.refl _, by omega, HR.out⟩
  case round =>
    obtain ⟨pos, b, hip, hpl, rfl, hbel, hb, hE⟩ := hrel
    by_cases hp : pos < s.size
    · have hpi : (pos : Int) < s.size := by omega
      obtain ⟨b', rfl, hst⟩ := rwordF_step s i b pos hp hb
      rw [hE] at hst
      have hrr := refRune_tail s pos hp
      have hfit := runeN_fits s pos hp
      have hsnd := runeN_snd s pos hp
      have hxs : (s.extract pos s.size).size ≤ 4294967280 := by simp; omega
      obtain ⟨x, hx⟩ : ∃ x, s.extract pos s.size = x := ⟨_, rfl⟩
      obtain ⟨⟨c, n⟩, hcn⟩ : ∃ p, runeN (Utf8.decode s pos) = p := ⟨_, rfl⟩
      rw [hx, hcn] at hrr
      rw [hx] at hxs
      rw [hcn] at hst hfit hsnd
      have hrc := fun v w1 (hv : BytesAt w1 v x) => rrune_c x v w1 hv hxs
      rw [hrr] at hrc
      obtain ⟨F, hF⟩ : ∃ F, firstC c = F := ⟨_, rfl⟩
      obtain ⟨M, hM⟩ : ∃ M, nextC c = M := ⟨_, rfl⟩
      have hfc := fun w1 => rfirst_c c w1
      have hnc := fun w1 => rnext_c c w1
      simp only at hst hfit hsnd hrc
      rw [hF] at hfc
      rw [hM] at hnc
      rw [hF, hM] at hst
      have HST := Lib.hid hst
      have HRC := Lib.hid hrc
      have HFC := Lib.hid hfc
      have HNC := Lib.hid hnc
      have hz : n = 0 → M = false := by
        intro h0
        have h1 : runeN (Utf8.decode s pos) = (0, 0) := by
          have h2 := congrArg Prod.snd hcn
          rcases runeN_cases s pos hp with ⟨h3, h4, h5⟩ | ⟨h3, h4, h5⟩ | ⟨_, _, h5, _⟩
          · unfold runeN; rw [if_pos (.inl ⟨h3, h4⟩)]
          · unfold runeN; rw [if_pos (.inr h4)]
          · exact absurd (h2.trans h0) h5
        rw [h1] at hcn
        have h2 := congrArg Prod.fst hcn
        have h3 : (0 : Int) = c := h2
        rw [← hM, ← h3]
        decide +kernel
      have HZ := Lib.hid hz
      clear hst hrc hfc hnc hcn hrr hF hM hE
      by_cases hn0 : n = 0
      · obtain ⟨rfl, hm0⟩ : M = false ∧ n = 0 := ⟨HZ.out hn0, hn0⟩
        rw [Bool.false_and, if_neg (by decide)] at HST
        clear hn0 hm0 hsnd
        go_wp2_with (refine wpL_bytes rfl 9 43 5 _ rfl x rfl Tryz.underlying9 Tryz.underlying43 Tryz.underlying5 ?_; intro v W1 hv hb1)
        refine (HRC.out v W1 hv).mono ?_
        rintro e w3 ⟨rfl, hb3⟩
        go_wp2_with fail
        refine (HNC.out _).mono ?_
        rintro e w4 ⟨rfl, rfl⟩
        go_wp2_with fail
        go_ret
        exact ⟨ret_int (by rw [HST.out]), (hbel.trans hb1).trans hb3⟩
      · have hn1 : 1 ≤ n := by omega
        have hn2 : n ≤ 4294967280 := by omega
        cases M
        · rw [Bool.false_and, if_neg (by decide)] at HST
          clear hn0 hsnd
          go_wp2_with (refine wpL_bytes rfl 9 43 5 _ rfl x rfl Tryz.underlying9 Tryz.underlying43 Tryz.underlying5 ?_; intro v W1 hv hb1)
          refine (HRC.out v W1 hv).mono ?_
          rintro e w3 ⟨rfl, hb3⟩
          go_wp2_with fail
          refine (HNC.out _).mono ?_
          rintro e w4 ⟨rfl, rfl⟩
          go_wp2_with fail
          go_ret
          exact ⟨ret_int (by rw [HST.out]), (hbel.trans hb1).trans hb3⟩
        · by_cases hpi2 : pos = i
          · subst hpi2
            have hpi3 : ((pos : Int) == pos) = true := by simp
            cases F
            · rw [Bool.true_and, if_neg (by simp)] at HST
              clear hn0 hsnd
              go_wp2_with (refine wpL_bytes rfl 9 43 5 _ rfl x rfl Tryz.underlying9 Tryz.underlying43 Tryz.underlying5 ?_; intro v W1 hv hb1)
              refine (HRC.out v W1 hv).mono ?_
              rintro e w3 ⟨rfl, hb3⟩
              go_wp2_with fail
              refine (HNC.out _).mono ?_
              rintro e w4 ⟨rfl, rfl⟩
              go_wp2_with fail
              refine (HFC.out _).mono ?_
              rintro e w4 ⟨rfl, rfl⟩
              go_wp2_with fail
              go_ret
              exact ⟨ret_int (by rw [HST.out]; omega), (hbel.trans hb1).trans hb3⟩
            · rw [Bool.true_and, if_pos (by simp)] at HST
              clear hn0 hsnd
              go_wp2_with (refine wpL_bytes rfl 9 43 5 _ rfl x rfl Tryz.underlying9 Tryz.underlying43 Tryz.underlying5 ?_; intro v W1 hv hb1)
              refine (HRC.out v W1 hv).mono ?_
              rintro e w3 ⟨rfl, hb3⟩
              go_wp2_with fail
              refine (HNC.out _).mono ?_
              rintro e w4 ⟨rfl, rfl⟩
              go_wp2_with fail
              refine (HFC.out _).mono ?_
              rintro e w4 ⟨rfl, rfl⟩
              go_wp2_with fail
              exact ⟨⟨pos + n.toNat, b', by omega, by omega, by go_num, (hbel.trans hb1).trans hb3, by omega, HST.out.symm⟩, by simp [intOf]; omega⟩
          · have hpi3 : ((pos : Int) == i) = false := by simp; omega
            have hpi4 : ((pos : Int) != i) = true := by simp; omega
            rw [Bool.true_and, if_pos (by simp [hpi2])] at HST
            clear hn0 hsnd
            go_wp2_with (refine wpL_bytes rfl 9 43 5 _ rfl x rfl Tryz.underlying9 Tryz.underlying43 Tryz.underlying5 ?_; intro v W1 hv hb1)
            refine (HRC.out v W1 hv).mono ?_
            rintro e w3 ⟨rfl, hb3⟩
            go_wp2_with fail
            refine (HNC.out _).mono ?_
            rintro e w4 ⟨rfl, rfl⟩
            go_wp2_with fail
            exact ⟨⟨pos + n.toNat, b', by omega, by omega, by go_num, (hbel.trans hb1).trans hb3, by omega, HST.out.symm⟩, by simp [intOf]; omega⟩
    · have hE2 := rwordF_end s i b pos hp
      rw [hE] at hE2
      subst hE2
      clear hE
      go_wp2_with fail
      go_ret
      exact ⟨ret_int rfl, hbel⟩
end Go.Proofs.YtjnaikojoemkaaaGreatDoor
