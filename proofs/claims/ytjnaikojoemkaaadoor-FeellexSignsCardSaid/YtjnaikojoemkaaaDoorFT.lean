/-
  feellex: behind each token a right text is right (plain); the document's Check and Space.
-/
import Derived.Test.YtjnaikojoemkaaaDoorFS
import Derived.Test.YtjnaikojoemkaaaDoorFN
namespace Go.Proofs.YtjnaikojoemkaaaDoor
open Go.RowKit

theorem dgC_lt (c : UInt8) (h : dgC c = true) : c.toNat < 128 := by
  rw [dgC_iff] at h
  have := of_decide_eq_true h
  omega
theorem digE_last (s : ByteArray) : ∀ n k, digE s k = k + n → 0 < n → k + n ≤ s.size ∧ dgC (s.get! (k + n - 1)) = true
  | 0, _, _, h => absurd h (Nat.lt_irrefl _)
  | n + 1, k, he, _ => by
    by_cases hd : digAt s k = true
    · have hst := digE_step s k hd
      have hd2 := hd
      unfold digAt at hd2
      simp only [Bool.and_eq_true, decide_eq_true_eq] at hd2
      by_cases hn : n = 0
      · subst hn
        exact ⟨hd2.1, by rw [show k + (0 + 1) - 1 = k from by omega]; exact hd2.2⟩
      · have h1 := digE_last s n (k + 1) (by omega) (by omega)
        exact ⟨by omega, by rw [show k + (n + 1) - 1 = k + 1 + n - 1 from by omega]; exact h1.2⟩
    · have := digE_stop s k (by simpa using hd)
      omega
theorem num_last (s : ByteArray) (i : Nat) (hi : i ≤ s.size) (h : numN (s.extract i s.size) ≠ 0) : i + numN (s.extract i s.size) ≤ s.size ∧ (s.get! (i + numN (s.extract i s.size) - 1)).toNat < 128 := by
  have hn := numN_at s i hi
  have hge := digE_ge s i
  split at hn
  · rename_i h1
    have h2 := digE_step s _ h1.2.2
    have h3 := digE_ge s (digE s i + 1 + 1)
    obtain ⟨m, hm⟩ : ∃ m, digE s (digE s i + 1) = digE s i + 1 + m := ⟨digE s (digE s i + 1) - (digE s i + 1), by omega⟩
    have h4 := digE_last s m (digE s i + 1) hm (by omega)
    rw [hn, hm]
    exact ⟨h4.1, dgC_lt _ h4.2⟩
  · obtain ⟨m, hm⟩ : ∃ m, digE s i = i + m := ⟨digE s i - i, by omega⟩
    have h4 := digE_last s m i hm (by omega)
    rw [hn, hm]
    exact ⟨h4.1, dgC_lt _ h4.2⟩
theorem num_not0 (s : ByteArray) (i : Nat) (hi : i < s.size) : numN (s.extract i s.size) ≠ 0 ↔ (digAt s i = true ∨ s.get! i = 46 ∧ digAt s (i + 1) = true) := by
  have hn := numN_at s i (by omega)
  by_cases hd : digAt s i = true
  · have h1 := digE_step s i hd
    have h2 := digE_ge s (i + 1)
    have h3 := digE_ge s (digE s i + 1)
    constructor
    · intro _; exact .inl hd
    · intro _ h0
      split at hn <;> omega
  · have h1 := digE_stop s i (by simpa using hd)
    rw [h1] at hn
    by_cases h46 : s.get! i = 46 ∧ digAt s (i + 1) = true
    · rw [if_pos ⟨hi, h46.1, h46.2⟩] at hn
      have h2 := digE_step s _ h46.2
      have h3 := digE_ge s (i + 1 + 1)
      exact ⟨fun _ => .inr h46, fun _ h0 => by omega⟩
    · rw [if_neg (fun h => h46 h.2)] at hn
      exact ⟨fun h => absurd (by omega) h, fun h => h.elim (fun h => absurd h hd) (fun h => absurd h h46)⟩
theorem text_last (s : ByteArray) : ∀ b pos acc, pos ≤ s.size → (textF s b pos acc).2.2 = 0 → 1 ≤ (textF s b pos acc).2.1 ∧ (textF s b pos acc).2.1 ≤ s.size ∧ s.get! ((textF s b pos acc).2.1 - 1) = 34
  | 0, _, _, _, h => by cases h
  | b + 1, pos, acc, hp, h => by
    unfold textF at h ⊢
    by_cases h1 : pos < s.size
    · rw [if_pos h1] at h ⊢
      by_cases h2 : s.get! pos = 34
      · rw [if_pos h2]
        exact ⟨by show 1 ≤ pos + 1; omega, h1, h2⟩
      · rw [if_neg h2] at h ⊢
        by_cases h3 : s.get! pos = 92
        · rw [if_pos h3] at h ⊢
          by_cases h4 : (escS (s.extract pos s.size)).2 = 0
          · rw [if_pos h4] at h
            cases h
          · rw [if_neg h4] at h ⊢
            have := (escS_size (s.extract pos s.size)).1
            simp at this
            exact text_last s b _ _ (by omega) h
        · rw [if_neg h3] at h ⊢
          exact text_last s b _ _ h1 h
    · rw [if_neg h1] at h
      cases h
theorem word_ok (s : ByteArray) (i : Nat) : ∀ b k, OKat s k → k ≤ s.size → OKat s (rwordF s i b k) ∧ rwordF s i b k ≤ s.size
  | 0, k, h, hk => ⟨h, hk⟩
  | b + 1, k, h, hk => by
    unfold rwordF
    by_cases hp : k < s.size
    · rw [if_pos hp]
      split
      · have h0 := ok_rune s k h hp
        have hw := congrArg Prod.snd (runeN_width s k hp h0)
        simp only at hw
        rw [hw, Int.toNat_natCast]
        exact word_ok s i b _ (ok_step s k h hp) (decode_fits s k hp)
      · exact ⟨h, hk⟩
    · rw [if_neg hp]
      exact ⟨h, hk⟩
theorem signs_ascii : (signs1.all fun c => decide (c.toNat < 128)) = true ∧ (signs2.all fun l => match l with | [_, b] => decide (b.toNat < 128) | _ => false) = true := by decide
theorem sign_last (s : ByteArray) (k : Nat) (hk : k < s.size) (h : (signS (s.extract k s.size)).size ≠ 0) : k + (signS (s.extract k s.size)).size ≤ s.size ∧ (s.get! (k + (signS (s.extract k s.size)).size - 1)).toNat < 128 := by
  have hn := sign_at s k hk
  split at hn
  · rename_i h1
    rw [hn]
    refine ⟨h1.1, ?_⟩
    have h2 := List.all_eq_true.1 signs_ascii.2 _ h1.2
    rw [extract_piece, byte_drop s k hk, byte_drop s (k + 1) (by omega)] at h2
    simpa using h2
  · split at hn
    · rename_i h1
      rw [hn]
      refine ⟨hk, ?_⟩
      have h2 := List.all_eq_true.1 signs_ascii.1 _ h1
      simpa using h2
    · exact absurd hn h
/-- Behind a token a right text is right. -/
theorem lex_ok (s : ByteArray) (i : Nat) (h : OKat s i) (hi : i < s.size) (h0 : (oneS (s.extract i s.size)).2.2 = 0) : OKat s (i + (oneS (s.extract i s.size)).2.1) := by
  have hsz : (s.extract i s.size).size = s.size - i := by simp
  unfold oneS at h0 ⊢
  by_cases hw : wordN (s.extract i s.size) ≠ 0
  · rw [if_pos hw]
    have h1 := word_ok s i s.size i h (by omega)
    rw [show rwordF s i s.size i = rwordE s i from rfl, rword_at s i h (by omega)] at h1
    exact h1.1
  · rw [if_neg hw] at h0 ⊢
    by_cases hnu : numN (s.extract i s.size) ≠ 0
    · rw [if_pos hnu]
      have h1 := num_last s i (by omega) hnu
      dsimp only
      generalize numN (s.extract i s.size) = n at h1 hnu ⊢
      have h2 := ok_next s i (i + n - 1) h (by omega) (by omega) h1.2
      rwa [show i + n - 1 + 1 = i + n from by omega] at h2
    · rw [if_neg hnu] at h0 ⊢
      by_cases h34 : (s.extract i s.size).get! 0 = 34
      · rw [if_pos h34] at h0 ⊢
        have h1 := text_last (s.extract i s.size) _ 1 [] (by omega) h0
        dsimp only
        change (textS (s.extract i s.size)).2.2 = 0 at h0
        change 1 ≤ (textS (s.extract i s.size)).2.1 ∧ (textS (s.extract i s.size)).2.1 ≤ _ ∧ (s.extract i s.size).get! ((textS (s.extract i s.size)).2.1 - 1) = 34 at h1
        generalize (textS (s.extract i s.size)).2.1 = n at h1 ⊢
        rw [get_tail s i (n - 1) (by omega)] at h1
        have h2 := ok_next s i (i + (n - 1)) h (by omega) (by omega) (by rw [h1.2.2]; decide)
        rwa [show i + (n - 1) + 1 = i + n from by omega] at h2
      · rw [if_neg h34] at h0 ⊢
        by_cases hs : (signS (s.extract i s.size)).size = 0
        · rw [if_pos hs] at h0
          cases h0
        · rw [if_neg hs]
          have h1 := sign_last s i hi hs
          dsimp only
          generalize (signS (s.extract i s.size)).size = n at h1 hs ⊢
          have h2 := ok_next s i (i + n - 1) h (by omega) (by omega) h1.2
          rwa [show i + n - 1 + 1 = i + n from by omega] at h2
theorem space_lt (c : UInt8) (h : spaceC c.toNat = true) : c.toNat < 128 := by
  unfold spaceC at h
  have := of_decide_eq_true h
  omega
theorem space_ok (s : ByteArray) (i : Nat) (h : OKat s i) (hi : i < s.size) (hs : spaceC (s.get! i).toNat = true) : OKat s (i + 1) := ok_next s i i h (Nat.le_refl _) hi (space_lt _ hs)

end Go.Proofs.YtjnaikojoemkaaaDoor
