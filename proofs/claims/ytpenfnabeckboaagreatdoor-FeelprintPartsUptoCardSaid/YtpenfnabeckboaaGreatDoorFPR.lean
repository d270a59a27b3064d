/-
  A part of a right expression is right (plain).
-/
import Derived.Test.YtpenfnabeckboaaGreatDoorFPQ
import Derived.Test.YtpenfnabeckboaaGreatDoorEXD
namespace Go.Proofs.YtpenfnabeckboaaGreatDoor
open Go.RowKit


theorem check_weak {e : Ex} (h : checkE e false = 0) : checkE e true = 0 := by
  rw [checkE_eq] at h ⊢
  have h1 : ownK e.k e.s e.ns e.l.length false = 0 := by
    split at h
    · assumption
    · exact h
  have h2 : ownK e.k e.s e.ns e.l.length true = 0 := by
    unfold ownK at h1 ⊢
    split at h1
    · cases h1
    · rename_i hk
      rw [if_neg hk]
      split at h1
      · cases h1
      · rename_i hf
        have hf2 : formE e.k e.s e.ns.length e.l.length true = true := by
          unfold formE at hf ⊢
          simp only [Bool.not_eq_false, Bool.and_eq_true] at hf ⊢
          exact ⟨hf.1, hf.2.1, hf.2.2.1, by simp⟩
        rw [if_neg (by rw [hf2]; simp)]
        exact h1
  rw [if_pos h1] at h
  rw [if_pos h2]
  exact h
theorem part_depth {e y : Ex} {j : Nat} (h : e.l[j]? = some y) : dE y < dE e := by
  rw [dE_eq e]
  have h1 := dsE_take e.l j y h
  have h2 : ∀ (l : List Ex) (n : Nat), dsE (l.take n) ≤ dsE l := by
    intro l
    induction l with
    | nil => intro n; rw [List.take_nil]; exact Nat.le_refl _
    | cons x r ih =>
      intro n
      cases n with
      | zero => rw [List.take_zero]; exact Nat.zero_le _
      | succ n =>
        rw [List.take_succ_cons]
        have := ih n
        unfold dsE
        omega
  have := h2 e.l (j + 1)
  omega
theorem part_right {e y : Ex} {j : Nat} (hc : CheckE e = 0) (h : e.l[j]? = some y) : CheckE y = 0 := by
  unfold CheckE at hc ⊢
  split at hc
  · cases hc
  · rename_i hd
    have h1 := checkE_part hc h
    have h2 : deepE y 200 = false := by
      rw [deepE_iff] at hd ⊢
      have := part_depth h
      simp at hd ⊢
      omega
    rw [h2]
    have h3 : checkE y true = 0 := by
      cases hb : (decide (e.k = 7) && j == 1) with
      | true => rw [hb] at h1; exact h1
      | false => rw [hb] at h1; exact check_weak h1
    simpa using h3
end Go.Proofs.YtpenfnabeckboaaGreatDoor
