/-
  feellex: digits and numbers at a place of a text (plain).
-/
import Derived.Test.YtjnaikojoemkaaaDoorFM
import Derived.Test.YtjnaikojoemkaaaDoorX
import Derived.Test.YtjnaikojoemkaaaDoorR
namespace Go.Proofs.YtjnaikojoemkaaaDoor

/-- Is a digit there? -/
def digAt (s : ByteArray) (i : Nat) : Bool := decide (i < s.size) && dgC (s.get! i)
/-- The place behind the digits that begin at a place. -/
def digE (s : ByteArray) (k : Nat) : Nat := k + digN (s.extract k s.size)
theorem tail_list (s : ByteArray) (k : Nat) : (s.extract k s.size).data.toList = s.data.toList.drop k := by
  rw [extract_drop]
theorem digE_step (s : ByteArray) (k : Nat) (h : digAt s k = true) : digE s k = digE s (k + 1) := by
  unfold digAt at h
  simp only [Bool.and_eq_true, decide_eq_true_eq] at h
  unfold digE digN
  rw [tail_list, tail_list, byte_drop s k h.1, List.takeWhile_cons, if_pos h.2, List.length_cons]
  omega
theorem digE_stop (s : ByteArray) (k : Nat) (h : digAt s k = false) : digE s k = k := by
  unfold digAt at h
  unfold digE digN
  rw [tail_list]
  by_cases hk : k < s.size
  · rw [decide_eq_true hk, Bool.true_and] at h
    rw [byte_drop s k hk, List.takeWhile_cons, if_neg (by rw [h]; decide)]
    rfl
  · rw [List.drop_of_length_le (by have : s.data.toList.length = s.size := rfl; omega)]
    rfl
theorem digE_le (s : ByteArray) (k : Nat) (h : k ≤ s.size) : digE s k ≤ s.size := by
  have := digN_le (s.extract k s.size)
  simp at this
  unfold digE
  omega
theorem digE_ge (s : ByteArray) (k : Nat) : k ≤ digE s k := Nat.le_add_right _ _
theorem pre_one (s : ByteArray) (k : Nat) (c : UInt8) : Lib.hasPrefix (s.extract k s.size).data.toList [c] = true ↔ k < s.size ∧ s.get! k = c := by
  rw [tail_list]
  by_cases hk : k < s.size
  · rw [byte_drop s k hk]
    unfold Lib.hasPrefix
    simp [hk]
    exact ⟨fun h => h.symm, fun h => h.symm⟩
  · rw [List.drop_of_length_le (by have : s.data.toList.length = s.size := rfl; omega)]
    simp [Lib.hasPrefix, hk]
theorem numN_at (s : ByteArray) (i : Nat) (hi : i ≤ s.size) : i + numN (s.extract i s.size) =
    if digE s i < s.size ∧ s.get! (digE s i) = 46 ∧ digAt s (digE s i + 1) = true then digE s (digE s i + 1) else digE s i := by
  have hle := digE_le s i hi
  have hd : i + digN (s.extract i s.size) = digE s i := rfl
  have hsz : (s.extract i s.size).size = s.size - i := by simp
  unfold numN
  generalize hdd : digN (s.extract i s.size) = d at hd ⊢
  rw [show (s.extract i s.size).extract d (s.extract i s.size).size = s.extract (digE s i) s.size from by rw [extract_tail s i d (by omega), hd]]
  simp only [pre_one]
  by_cases h46 : digE s i < s.size ∧ s.get! (digE s i) = 46
  · have e1 : (s.extract i s.size).extract (d + 1) (s.extract i s.size).size = s.extract (digE s i + 1) s.size := by rw [extract_tail s i (d + 1) (by omega), ← hd, Nat.add_assoc]
    rw [e1]
    by_cases hg : digAt s (digE s i + 1) = true
    · have hst := digE_step s _ hg
      have hge := digE_ge s (digE s i + 1 + 1)
      have hx : digE s (digE s i + 1) = digE s i + 1 + digN (s.extract (digE s i + 1) s.size) := rfl
      rw [if_pos ⟨h46, by omega⟩, if_pos ⟨h46.1, h46.2, hg⟩, hx]
      omega
    · have hst := digE_stop s _ (by simpa using hg)
      have hx : digE s (digE s i + 1) = digE s i + 1 + digN (s.extract (digE s i + 1) s.size) := rfl
      rw [if_neg (fun h => by omega), if_neg (fun h => hg h.2.2)]
      omega
  · rw [if_neg (fun h => h46 h.1), if_neg (fun h => h46 ⟨h.1, h.2.1⟩)]
    omega
end Go.Proofs.YtjnaikojoemkaaaDoor
