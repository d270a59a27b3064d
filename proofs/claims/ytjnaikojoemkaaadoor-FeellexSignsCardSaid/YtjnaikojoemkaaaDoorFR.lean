/-
  feellex: the document's answer: sign, word.
-/
import Derived.Test.YtjnaikojoemkaaaDoorFQ
namespace Go.Proofs.YtjnaikojoemkaaaDoor
open Go.RowKit

def signs2 : List (List UInt8) := [[42, 42], [60, 61], [62, 61], [33, 61], [46, 46]]
def signs1 : List UInt8 := [43, 45, 42, 47, 60, 62, 61, 40, 41, 91, 93, 123, 125, 44, 58, 46]
theorem signIn_len (s : ByteArray) (n : Nat) : ∀ A B : List (List UInt8), (∀ l ∈ A, l.length = n) → (signIn s (A ++ B)).length = if (A.any fun l => Lib.hasPrefix s.data.toList l) = true then n else (signIn s B).length
  | [], B, _ => by simp
  | x :: A, B, h => by
    have e : signIn s (x :: (A ++ B)) = if Lib.hasPrefix s.data.toList x = true then x else signIn s (A ++ B) := rfl
    rw [List.cons_append, e]
    by_cases hx : Lib.hasPrefix s.data.toList x = true
    · rw [if_pos hx, List.any_cons, hx, Bool.true_or, if_pos rfl]
      exact h x (by simp)
    · rw [if_neg hx, signIn_len s n A B (fun l hl => h l (by simp [hl])), List.any_cons, Bool.eq_false_iff.2 hx, Bool.false_or]
theorem sign_len (s : ByteArray) : (signS s).size = if (signs2.any fun l => Lib.hasPrefix s.data.toList l) = true then 2 else if (signs1.any fun c => Lib.hasPrefix s.data.toList [c]) = true then 1 else 0 := by
  have e : signsL = signs2 ++ (signs1.map (fun c => [c]) ++ []) := rfl
  show (signIn s signsL).length = _
  rw [e, signIn_len s 2 signs2 _ (by decide), signIn_len s 1 _ [] (by decide), List.any_map]
  rfl
theorem extract_piece (s : ByteArray) (i n : Nat) : (s.extract i (i + n)).data.toList = (s.data.toList.drop i).take n := by
  rw [ByteArray.data_extract, Array.toList_extract]
  simp [List.extract_eq_take_drop]
theorem pre_two (s : ByteArray) (k : Nat) (a b : UInt8) : Lib.hasPrefix (s.extract k s.size).data.toList [a, b] = true ↔ k + 2 ≤ s.size ∧ (s.extract k (k + 2)).data.toList = [a, b] := by
  have hl : s.data.toList.length = s.size := rfl
  have e2 : (s.extract k (k + 2)).data.toList = (s.data.toList.drop k).take 2 := by
    rw [extract_piece]
  rw [tail_list, e2]
  have hd : (s.data.toList.drop k).length = s.size - k := by simp
  generalize s.data.toList.drop k = L at hd ⊢
  match L, hd with
  | [], hd => simp [Lib.hasPrefix]
  | [x], hd => simp [Lib.hasPrefix]
  | x :: y :: L, hd =>
    simp at hd
    simp [Lib.hasPrefix]
    constructor
    · rintro ⟨rfl, rfl⟩; exact ⟨by omega, rfl, rfl⟩
    · rintro ⟨_, rfl, rfl⟩; exact ⟨rfl, rfl⟩
theorem sign_at (s : ByteArray) (k : Nat) (hk : k < s.size) : (signS (s.extract k s.size)).size =
    if k + 2 ≤ s.size ∧ (s.extract k (k + 2)).data.toList ∈ signs2 then 2 else if s.get! k ∈ signs1 then 1 else 0 := by
  rw [sign_len]
  congr 1
  · rw [List.any_eq_true, eq_iff_iff]
    constructor
    · rintro ⟨l, hl, h⟩
      have : ∃ a b, l = [a, b] := by
        simp only [signs2, List.mem_cons, List.not_mem_nil, or_false] at hl
        rcases hl with rfl | rfl | rfl | rfl | rfl <;> exact ⟨_, _, rfl⟩
      obtain ⟨a, b, rfl⟩ := this
      obtain ⟨h1, h2⟩ := (pre_two s k a b).1 h
      exact ⟨h1, by rw [h2]; exact hl⟩
    · rintro ⟨h1, h2⟩
      refine ⟨_, h2, ?_⟩
      have : ∃ a b, (s.extract k (k + 2)).data.toList = [a, b] := by
        simp only [signs2, List.mem_cons, List.not_mem_nil, or_false] at h2
        rcases h2 with h | h | h | h | h <;> exact ⟨_, _, h⟩
      obtain ⟨a, b, hab⟩ := this
      rw [hab]
      exact (pre_two s k a b).2 ⟨h1, hab⟩
  · congr 1
    rw [List.any_eq_true, eq_iff_iff]
    constructor
    · rintro ⟨c, hc, h⟩
      rw [((pre_one s k c).1 h).2]
      exact hc
    · intro h
      exact ⟨_, h, (pre_one s k _).2 ⟨hk, rfl⟩⟩

theorem sign1_cases (c : UInt8) : (((c.toNat : Int) == 43) = true ∧ c ∈ signs1) ∨
    (((c.toNat : Int) == 43) = false ∧ ((c.toNat : Int) == 45) = true ∧ c ∈ signs1) ∨
    (((c.toNat : Int) == 43) = false ∧ ((c.toNat : Int) == 45) = false ∧ ((c.toNat : Int) == 42) = true ∧ c ∈ signs1) ∨
    (((c.toNat : Int) == 43) = false ∧ ((c.toNat : Int) == 45) = false ∧ ((c.toNat : Int) == 42) = false ∧ ((c.toNat : Int) == 47) = true ∧ c ∈ signs1) ∨
    (((c.toNat : Int) == 43) = false ∧ ((c.toNat : Int) == 45) = false ∧ ((c.toNat : Int) == 42) = false ∧ ((c.toNat : Int) == 47) = false ∧ ((c.toNat : Int) == 60) = true ∧ c ∈ signs1) ∨
    (((c.toNat : Int) == 43) = false ∧ ((c.toNat : Int) == 45) = false ∧ ((c.toNat : Int) == 42) = false ∧ ((c.toNat : Int) == 47) = false ∧ ((c.toNat : Int) == 60) = false ∧ ((c.toNat : Int) == 62) = true ∧ c ∈ signs1) ∨
    (((c.toNat : Int) == 43) = false ∧ ((c.toNat : Int) == 45) = false ∧ ((c.toNat : Int) == 42) = false ∧ ((c.toNat : Int) == 47) = false ∧ ((c.toNat : Int) == 60) = false ∧ ((c.toNat : Int) == 62) = false ∧ ((c.toNat : Int) == 61) = true ∧ c ∈ signs1) ∨
    (((c.toNat : Int) == 43) = false ∧ ((c.toNat : Int) == 45) = false ∧ ((c.toNat : Int) == 42) = false ∧ ((c.toNat : Int) == 47) = false ∧ ((c.toNat : Int) == 60) = false ∧ ((c.toNat : Int) == 62) = false ∧ ((c.toNat : Int) == 61) = false ∧ ((c.toNat : Int) == 40) = true ∧ c ∈ signs1) ∨
    (((c.toNat : Int) == 43) = false ∧ ((c.toNat : Int) == 45) = false ∧ ((c.toNat : Int) == 42) = false ∧ ((c.toNat : Int) == 47) = false ∧ ((c.toNat : Int) == 60) = false ∧ ((c.toNat : Int) == 62) = false ∧ ((c.toNat : Int) == 61) = false ∧ ((c.toNat : Int) == 40) = false ∧ ((c.toNat : Int) == 41) = true ∧ c ∈ signs1) ∨
    (((c.toNat : Int) == 43) = false ∧ ((c.toNat : Int) == 45) = false ∧ ((c.toNat : Int) == 42) = false ∧ ((c.toNat : Int) == 47) = false ∧ ((c.toNat : Int) == 60) = false ∧ ((c.toNat : Int) == 62) = false ∧ ((c.toNat : Int) == 61) = false ∧ ((c.toNat : Int) == 40) = false ∧ ((c.toNat : Int) == 41) = false ∧ ((c.toNat : Int) == 91) = true ∧ c ∈ signs1) ∨
    (((c.toNat : Int) == 43) = false ∧ ((c.toNat : Int) == 45) = false ∧ ((c.toNat : Int) == 42) = false ∧ ((c.toNat : Int) == 47) = false ∧ ((c.toNat : Int) == 60) = false ∧ ((c.toNat : Int) == 62) = false ∧ ((c.toNat : Int) == 61) = false ∧ ((c.toNat : Int) == 40) = false ∧ ((c.toNat : Int) == 41) = false ∧ ((c.toNat : Int) == 91) = false ∧ ((c.toNat : Int) == 93) = true ∧ c ∈ signs1) ∨
    (((c.toNat : Int) == 43) = false ∧ ((c.toNat : Int) == 45) = false ∧ ((c.toNat : Int) == 42) = false ∧ ((c.toNat : Int) == 47) = false ∧ ((c.toNat : Int) == 60) = false ∧ ((c.toNat : Int) == 62) = false ∧ ((c.toNat : Int) == 61) = false ∧ ((c.toNat : Int) == 40) = false ∧ ((c.toNat : Int) == 41) = false ∧ ((c.toNat : Int) == 91) = false ∧ ((c.toNat : Int) == 93) = false ∧ ((c.toNat : Int) == 123) = true ∧ c ∈ signs1) ∨
    (((c.toNat : Int) == 43) = false ∧ ((c.toNat : Int) == 45) = false ∧ ((c.toNat : Int) == 42) = false ∧ ((c.toNat : Int) == 47) = false ∧ ((c.toNat : Int) == 60) = false ∧ ((c.toNat : Int) == 62) = false ∧ ((c.toNat : Int) == 61) = false ∧ ((c.toNat : Int) == 40) = false ∧ ((c.toNat : Int) == 41) = false ∧ ((c.toNat : Int) == 91) = false ∧ ((c.toNat : Int) == 93) = false ∧ ((c.toNat : Int) == 123) = false ∧ ((c.toNat : Int) == 125) = true ∧ c ∈ signs1) ∨
    (((c.toNat : Int) == 43) = false ∧ ((c.toNat : Int) == 45) = false ∧ ((c.toNat : Int) == 42) = false ∧ ((c.toNat : Int) == 47) = false ∧ ((c.toNat : Int) == 60) = false ∧ ((c.toNat : Int) == 62) = false ∧ ((c.toNat : Int) == 61) = false ∧ ((c.toNat : Int) == 40) = false ∧ ((c.toNat : Int) == 41) = false ∧ ((c.toNat : Int) == 91) = false ∧ ((c.toNat : Int) == 93) = false ∧ ((c.toNat : Int) == 123) = false ∧ ((c.toNat : Int) == 125) = false ∧ ((c.toNat : Int) == 44) = true ∧ c ∈ signs1) ∨
    (((c.toNat : Int) == 43) = false ∧ ((c.toNat : Int) == 45) = false ∧ ((c.toNat : Int) == 42) = false ∧ ((c.toNat : Int) == 47) = false ∧ ((c.toNat : Int) == 60) = false ∧ ((c.toNat : Int) == 62) = false ∧ ((c.toNat : Int) == 61) = false ∧ ((c.toNat : Int) == 40) = false ∧ ((c.toNat : Int) == 41) = false ∧ ((c.toNat : Int) == 91) = false ∧ ((c.toNat : Int) == 93) = false ∧ ((c.toNat : Int) == 123) = false ∧ ((c.toNat : Int) == 125) = false ∧ ((c.toNat : Int) == 44) = false ∧ ((c.toNat : Int) == 58) = true ∧ c ∈ signs1) ∨
    (((c.toNat : Int) == 43) = false ∧ ((c.toNat : Int) == 45) = false ∧ ((c.toNat : Int) == 42) = false ∧ ((c.toNat : Int) == 47) = false ∧ ((c.toNat : Int) == 60) = false ∧ ((c.toNat : Int) == 62) = false ∧ ((c.toNat : Int) == 61) = false ∧ ((c.toNat : Int) == 40) = false ∧ ((c.toNat : Int) == 41) = false ∧ ((c.toNat : Int) == 91) = false ∧ ((c.toNat : Int) == 93) = false ∧ ((c.toNat : Int) == 123) = false ∧ ((c.toNat : Int) == 125) = false ∧ ((c.toNat : Int) == 44) = false ∧ ((c.toNat : Int) == 58) = false ∧ ((c.toNat : Int) == 46) = true ∧ c ∈ signs1) ∨
    (((c.toNat : Int) == 43) = false ∧ ((c.toNat : Int) == 45) = false ∧ ((c.toNat : Int) == 42) = false ∧ ((c.toNat : Int) == 47) = false ∧ ((c.toNat : Int) == 60) = false ∧ ((c.toNat : Int) == 62) = false ∧ ((c.toNat : Int) == 61) = false ∧ ((c.toNat : Int) == 40) = false ∧ ((c.toNat : Int) == 41) = false ∧ ((c.toNat : Int) == 91) = false ∧ ((c.toNat : Int) == 93) = false ∧ ((c.toNat : Int) == 123) = false ∧ ((c.toNat : Int) == 125) = false ∧ ((c.toNat : Int) == 44) = false ∧ ((c.toNat : Int) == 58) = false ∧ ((c.toNat : Int) == 46) = false ∧ c ∉ signs1) := by
  have e : ∀ n : Nat, n < 256 → (((c.toNat : Int) == n) = true ↔ c = UInt8.ofNat n) := fun n hn => by
    rw [beq_iff_eq]
    constructor
    · intro h
      apply UInt8.toNat_inj.1
      simp
      omega
    · intro h
      rw [h]
      simp
      omega
  by_cases h0 : ((c.toNat : Int) == 43) = true
  · left; exact ⟨h0, by rw [(e 43 (by omega)).1 h0]; decide⟩
  have n0 := Bool.eq_false_iff.2 h0
  by_cases h1 : ((c.toNat : Int) == 45) = true
  · right; left; exact ⟨n0, h1, by rw [(e 45 (by omega)).1 h1]; decide⟩
  have n1 := Bool.eq_false_iff.2 h1
  by_cases h2 : ((c.toNat : Int) == 42) = true
  · right; right; left; exact ⟨n0, n1, h2, by rw [(e 42 (by omega)).1 h2]; decide⟩
  have n2 := Bool.eq_false_iff.2 h2
  by_cases h3 : ((c.toNat : Int) == 47) = true
  · right; right; right; left; exact ⟨n0, n1, n2, h3, by rw [(e 47 (by omega)).1 h3]; decide⟩
  have n3 := Bool.eq_false_iff.2 h3
  by_cases h4 : ((c.toNat : Int) == 60) = true
  · right; right; right; right; left; exact ⟨n0, n1, n2, n3, h4, by rw [(e 60 (by omega)).1 h4]; decide⟩
  have n4 := Bool.eq_false_iff.2 h4
  by_cases h5 : ((c.toNat : Int) == 62) = true
  · right; right; right; right; right; left; exact ⟨n0, n1, n2, n3, n4, h5, by rw [(e 62 (by omega)).1 h5]; decide⟩
  have n5 := Bool.eq_false_iff.2 h5
  by_cases h6 : ((c.toNat : Int) == 61) = true
  · right; right; right; right; right; right; left; exact ⟨n0, n1, n2, n3, n4, n5, h6, by rw [(e 61 (by omega)).1 h6]; decide⟩
  have n6 := Bool.eq_false_iff.2 h6
  by_cases h7 : ((c.toNat : Int) == 40) = true
  · right; right; right; right; right; right; right; left; exact ⟨n0, n1, n2, n3, n4, n5, n6, h7, by rw [(e 40 (by omega)).1 h7]; decide⟩
  have n7 := Bool.eq_false_iff.2 h7
  by_cases h8 : ((c.toNat : Int) == 41) = true
  · right; right; right; right; right; right; right; right; left; exact ⟨n0, n1, n2, n3, n4, n5, n6, n7, h8, by rw [(e 41 (by omega)).1 h8]; decide⟩
  have n8 := Bool.eq_false_iff.2 h8
  by_cases h9 : ((c.toNat : Int) == 91) = true
  · right; right; right; right; right; right; right; right; right; left; exact ⟨n0, n1, n2, n3, n4, n5, n6, n7, n8, h9, by rw [(e 91 (by omega)).1 h9]; decide⟩
  have n9 := Bool.eq_false_iff.2 h9
  by_cases h10 : ((c.toNat : Int) == 93) = true
  · right; right; right; right; right; right; right; right; right; right; left; exact ⟨n0, n1, n2, n3, n4, n5, n6, n7, n8, n9, h10, by rw [(e 93 (by omega)).1 h10]; decide⟩
  have n10 := Bool.eq_false_iff.2 h10
  by_cases h11 : ((c.toNat : Int) == 123) = true
  · right; right; right; right; right; right; right; right; right; right; right; left; exact ⟨n0, n1, n2, n3, n4, n5, n6, n7, n8, n9, n10, h11, by rw [(e 123 (by omega)).1 h11]; decide⟩
  have n11 := Bool.eq_false_iff.2 h11
  by_cases h12 : ((c.toNat : Int) == 125) = true
  · right; right; right; right; right; right; right; right; right; right; right; right; left; exact ⟨n0, n1, n2, n3, n4, n5, n6, n7, n8, n9, n10, n11, h12, by rw [(e 125 (by omega)).1 h12]; decide⟩
  have n12 := Bool.eq_false_iff.2 h12
  by_cases h13 : ((c.toNat : Int) == 44) = true
  · right; right; right; right; right; right; right; right; right; right; right; right; right; left; exact ⟨n0, n1, n2, n3, n4, n5, n6, n7, n8, n9, n10, n11, n12, h13, by rw [(e 44 (by omega)).1 h13]; decide⟩
  have n13 := Bool.eq_false_iff.2 h13
  by_cases h14 : ((c.toNat : Int) == 58) = true
  · right; right; right; right; right; right; right; right; right; right; right; right; right; right; left; exact ⟨n0, n1, n2, n3, n4, n5, n6, n7, n8, n9, n10, n11, n12, n13, h14, by rw [(e 58 (by omega)).1 h14]; decide⟩
  have n14 := Bool.eq_false_iff.2 h14
  by_cases h15 : ((c.toNat : Int) == 46) = true
  · right; right; right; right; right; right; right; right; right; right; right; right; right; right; right; left; exact ⟨n0, n1, n2, n3, n4, n5, n6, n7, n8, n9, n10, n11, n12, n13, n14, h15, by rw [(e 46 (by omega)).1 h15]; decide⟩
  have n15 := Bool.eq_false_iff.2 h15
  right; right; right; right; right; right; right; right; right; right; right; right; right; right; right; right; exact ⟨n0, n1, n2, n3, n4, n5, n6, n7, n8, n9, n10, n11, n12, n13, n14, n15, fun hm => by
    simp only [signs1, List.mem_cons, List.not_mem_nil, or_false] at hm
    rcases hm with rfl | rfl | rfl | rfl | rfl | rfl | rfl | rfl | rfl | rfl | rfl | rfl | rfl | rfl | rfl | rfl
    · exact h0 rfl
    · exact h1 rfl
    · exact h2 rfl
    · exact h3 rfl
    · exact h4 rfl
    · exact h5 rfl
    · exact h6 rfl
    · exact h7 rfl
    · exact h8 rfl
    · exact h9 rfl
    · exact h10 rfl
    · exact h11 rfl
    · exact h12 rfl
    · exact h13 rfl
    · exact h14 rfl
    · exact h15 rfl⟩
theorem sign2_cases (x : ByteArray) : ((x.toList == [42, 42]) = true ∧ x.data.toList ∈ signs2) ∨
    ((x.toList == [42, 42]) = false ∧ (x.toList == [60, 61]) = true ∧ x.data.toList ∈ signs2) ∨
    ((x.toList == [42, 42]) = false ∧ (x.toList == [60, 61]) = false ∧ (x.toList == [62, 61]) = true ∧ x.data.toList ∈ signs2) ∨
    ((x.toList == [42, 42]) = false ∧ (x.toList == [60, 61]) = false ∧ (x.toList == [62, 61]) = false ∧ (x.toList == [33, 61]) = true ∧ x.data.toList ∈ signs2) ∨
    ((x.toList == [42, 42]) = false ∧ (x.toList == [60, 61]) = false ∧ (x.toList == [62, 61]) = false ∧ (x.toList == [33, 61]) = false ∧ (x.toList == [46, 46]) = true ∧ x.data.toList ∈ signs2) ∨
    ((x.toList == [42, 42]) = false ∧ (x.toList == [60, 61]) = false ∧ (x.toList == [62, 61]) = false ∧ (x.toList == [33, 61]) = false ∧ (x.toList == [46, 46]) = false ∧ x.data.toList ∉ signs2) := by
  have e : ∀ l : List UInt8, (x.toList == l) = true ↔ x.data.toList = l := fun l => by rw [beq_iff_eq, Lib.toList_data]
  by_cases h0 : (x.toList == [42, 42]) = true
  · left; exact ⟨h0, by rw [(e _).1 h0]; decide⟩
  have n0 := Bool.eq_false_iff.2 h0
  by_cases h1 : (x.toList == [60, 61]) = true
  · right; left; exact ⟨n0, h1, by rw [(e _).1 h1]; decide⟩
  have n1 := Bool.eq_false_iff.2 h1
  by_cases h2 : (x.toList == [62, 61]) = true
  · right; right; left; exact ⟨n0, n1, h2, by rw [(e _).1 h2]; decide⟩
  have n2 := Bool.eq_false_iff.2 h2
  by_cases h3 : (x.toList == [33, 61]) = true
  · right; right; right; left; exact ⟨n0, n1, n2, h3, by rw [(e _).1 h3]; decide⟩
  have n3 := Bool.eq_false_iff.2 h3
  by_cases h4 : (x.toList == [46, 46]) = true
  · right; right; right; right; left; exact ⟨n0, n1, n2, n3, h4, by rw [(e _).1 h4]; decide⟩
  have n4 := Bool.eq_false_iff.2 h4
  right; right; right; right; right; exact ⟨n0, n1, n2, n3, n4, fun hm => by
    simp only [signs2, List.mem_cons, List.not_mem_nil, or_false] at hm
    rcases hm with hm | hm | hm | hm | hm
    · exact h0 ((e _).2 hm)
    · exact h1 ((e _).2 hm)
    · exact h2 ((e _).2 hm)
    · exact h3 ((e _).2 hm)
    · exact h4 ((e _).2 hm)⟩
end Go.Proofs.YtjnaikojoemkaaaDoor
