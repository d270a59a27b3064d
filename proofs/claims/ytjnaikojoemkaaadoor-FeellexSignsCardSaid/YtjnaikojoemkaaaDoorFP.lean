/-
  feellex: right texts; a word at a place of a text (plain).
-/
import Derived.Test.YtjnaikojoemkaaaDoorFO
import Derived.Test.YtjnaikojoemkaaaDoorV
namespace Go.Proofs.YtjnaikojoemkaaaDoor

/-- From a place on a text is right. -/
def OKat (s : ByteArray) (i : Nat) : Prop := charsAt s i ≠ none
theorem ok_rune (s : ByteArray) (i : Nat) (h : OKat s i) (hi : i < s.size) : (runeN (Utf8.decode s i)).2 ≠ 0 := by
  intro h0
  apply h
  rw [charsAt_step s i hi, if_pos h0]
theorem ok_step (s : ByteArray) (i : Nat) (h : OKat s i) (hi : i < s.size) : OKat s (i + (Utf8.decode s i).2) := by
  have h0 := ok_rune s i h hi
  intro hn
  apply h
  rw [charsAt_step s i hi, if_neg h0]
  have hw := congrArg Prod.snd (runeN_width s i hi h0)
  simp only at hw
  rw [hw, Int.toNat_natCast, hn]
  rfl
theorem ok_byte (s : ByteArray) (p : Nat) (hp : p < s.size) (hb : (s.get! p).toNat < 128) : ∀ k i, p = i + k → OKat s i → OKat s p ∧ (Utf8.decode s p) = ((s.get! p).toNat, 1) := by
  intro k
  induction k using Nat.strongRecOn with
  | _ k ih =>
    intro i hk h
    have hi : i < s.size := by omega
    have hok := runeN_ok _ (ok_rune s i h hi)
    have hpos := decode_pos s i hi
    rcases decode_bytes s i hi hok with ⟨h1, h2, h3⟩ | ⟨h1, _⟩
    · by_cases hk0 : k = 0
      · subst hk0
        obtain rfl : p = i := by omega
        exact ⟨h, Prod.ext h2 h1⟩
      · exact ih (k - 1) (by omega) (i + 1) (by omega) (by have := ok_step s i h hi; rwa [h1] at this)
    · by_cases hlt : p < i + (Utf8.decode s i).2
      · have := h1 p (by omega) hlt
        omega
      · exact ih (p - (i + (Utf8.decode s i).2)) (by omega) (i + (Utf8.decode s i).2) (by omega) (ok_step s i h hi)
/-- Behind a byte below 128 a right text is right. -/
theorem ok_next (s : ByteArray) (i p : Nat) (h : OKat s i) (hi : i ≤ p) (hp : p < s.size) (hb : (s.get! p).toNat < 128) : OKat s (p + 1) := by
  obtain ⟨h1, h2⟩ := ok_byte s p hp hb (p - i) i (by omega) h
  have := ok_step s p h1 hp
  rwa [h2] at this
theorem ok_end (s : ByteArray) (i : Nat) (h : s.size ≤ i) : OKat s i := by
  unfold OKat
  rw [charsAt_end s i h]
  simp

theorem chk_chars (s : ByteArray) : ∀ b pos, s.size ≤ pos + b → pos ≤ s.size → (chkF s b pos < s.size ↔ charsF s b pos = none)
  | 0, pos, h, hp => by simp [chkF, charsF]
  | b + 1, pos, h, hp => by
    rw [charsF_succ]
    unfold chkF
    by_cases hlt : pos < s.size
    · rw [if_pos hlt, if_pos hlt]
      have hpos := decode_pos s pos hlt
      have hfit := decode_fits s pos hlt
      rcases runeN_cases s pos hlt with ⟨h1, h2, h3⟩ | ⟨h1, h2, h3⟩ | ⟨h1, h2, h3, h4⟩
      · rw [if_pos h3, if_neg (by unfold runeAt; rw [if_pos (.inl ⟨h1, h2⟩)]; simp)]
        simp [hlt]
      · rw [if_pos h3, if_neg (by unfold runeAt; rw [if_pos (.inr h2)]; simp)]
        simp [hlt]
      · rw [if_neg h3, if_pos (by unfold runeAt; rw [if_neg (fun h => h.elim h1 (fun h => by rw [h2] at h; cases h))])]
        have hs := congrArg Prod.snd h4
        simp only at hs
        rw [hs, Int.toNat_natCast, chk_chars s b _ (by omega) hfit]
        simp
    · rw [if_neg hlt, if_neg hlt]
      simp
theorem chk_ok (s : ByteArray) (h : ¬ chkS s < s.size) : OKat s 0 := fun h0 => h ((chk_chars s s.size 0 (by omega) (Nat.zero_le _)).2 h0)
theorem ok_chk (s : ByteArray) (h : OKat s 0) : ¬ chkS s < s.size := fun h0 => h ((chk_chars s s.size 0 (by omega) (Nat.zero_le _)).1 h0)
theorem chkF_le (s : ByteArray) : ∀ b pos, pos ≤ s.size → chkF s b pos ≤ s.size
  | 0, _, _ => Nat.le_refl _
  | b + 1, pos, h => by
    unfold chkF
    split
    · rename_i hp
      split
      · exact chkF_le s b _ (decode_fits s pos hp)
      · exact h
    · exact Nat.le_refl _

theorem cut_two (s : ByteArray) (i : Nat) (h : i ≤ s.size) : s.extract 0 i ++ s.extract i s.size = s := by
  rw [ByteArray.extract_append_extract]
  simp [Nat.max_eq_right h]
theorem decode_from (s : ByteArray) (i j : Nat) (h : i ≤ s.size) : Utf8.decode (s.extract i s.size) j = Utf8.decode s (i + j) := by
  have h1 := decode_shift (s.extract 0 i) (s.extract i s.size) j
  rw [cut_two s i h] at h1
  rw [← h1]
  congr 1
  simp; omega

/-- The end of a word that begins at a place, by the document. -/
def rwordF (s : ByteArray) (i : Nat) : Nat → Nat → Nat
  | 0, k => k
  | b + 1, k => if k < s.size then
      if (nextC (runeN (Utf8.decode s k)).1 && (decide (k ≠ i) || firstC (runeN (Utf8.decode s k)).1)) = true then rwordF s i b (k + (runeN (Utf8.decode s k)).2.toNat) else k
    else k
def rwordE (s : ByteArray) (i : Nat) : Nat := rwordF s i s.size i
theorem rwordF_end (s : ByteArray) (i b k : Nat) (h : ¬ k < s.size) : rwordF s i b k = k := by
  cases b with
  | zero => rfl
  | succ b => rw [rwordF, if_neg h]
theorem rwordF_step (s : ByteArray) (i b k : Nat) (h : k < s.size) (hb : s.size ≤ k + b) : ∃ b', b = b' + 1 ∧ rwordF s i b k =
    if (nextC (runeN (Utf8.decode s k)).1 && (decide (k ≠ i) || firstC (runeN (Utf8.decode s k)).1)) = true then rwordF s i b' (k + (runeN (Utf8.decode s k)).2.toNat) else k := by
  cases b with
  | zero => omega
  | succ b => exact ⟨b, rfl, by rw [rwordF, if_pos h]⟩
theorem word_at (s : ByteArray) (i : Nat) : ∀ b b' k, OKat s k → i ≤ k → k ≤ s.size → s.size ≤ k + b → s.size ≤ k + b' → rwordF s i b k = i + wordF (s.extract i s.size) b' (k - i) := by
  intro b
  induction b with
  | zero =>
    intro b' k _ hik hk hb hb'
    rw [rwordF_end s i 0 k (by omega), wordF_end _ _ _ (by simp; omega)]
    omega
  | succ b ih =>
    intro b' k hok hik hk hb hb'
    by_cases hlt : k < s.size
    · obtain ⟨b1, e1, h1⟩ := rwordF_step s i (b + 1) k hlt hb
      obtain rfl : b = b1 := by omega
      rw [h1]
      have h0 := ok_rune s k hok hlt
      have hw := runeN_width s k hlt h0
      have hx : (s.extract i s.size).size = s.size - i := by simp
      have hdf := decode_from s i (k - i) (by omega)
      rw [show i + (k - i) = k from by omega] at hdf
      rw [hw]
      have hpos := decode_pos s k hlt
      have hfit := decode_fits s k hlt
      by_cases ht : (nextC (Utf8.decode s k).1 && (decide (k ≠ i) || firstC (Utf8.decode s k).1)) = true
      · rw [if_pos ht]
        obtain ⟨b2, e2, h2⟩ := wordF_step (s.extract i s.size) b' (k - i) (by omega) (by omega) (by rw [hdf, show (decide (k - i ≠ 0)) = decide (k ≠ i) from by rw [decide_eq_decide]; omega]; exact ht)
        rw [h2, hdf]
        simp only [Int.toNat_natCast]
        rw [ih b2 _ (ok_step s k hok hlt) (by omega) hfit (by omega) (by omega)]
        congr 2
        omega
      · rw [if_neg ht, wordF_stop _ _ _ (by omega) (by omega) (by rw [hdf, show (decide (k - i ≠ 0)) = decide (k ≠ i) from by rw [decide_eq_decide]; omega]; simpa using ht)]
        omega
    · rw [rwordF_end s i _ k hlt, wordF_end _ _ _ (by simp; omega)]
      omega
theorem rword_at (s : ByteArray) (i : Nat) (h : OKat s i) (hi : i ≤ s.size) : rwordE s i = i + wordN (s.extract i s.size) := by
  have := word_at s i s.size (s.extract i s.size).size i h (Nat.le_refl _) hi (by omega) (by simp; omega)
  rwa [Nat.sub_self] at this
end Go.Proofs.YtjnaikojoemkaaaDoor
