/-
  feellex: digits and numbers at a place of a text (plain).
  feellex: right texts; a word at a place of a text (plain).
  feellex: the document's answer: digit, number, hex.
  feellex: the document's answer: sign, word.
  feellex: the document's answer: text.
  feellex: behind each token a right text is right (plain); the document's Check and Space.
-/
import Derived.Test.YtpenfnabeckboaaGreatDoorUCA
import Derived.Test.YtpenfnabeckboaaGreatDoorMG
import Derived.Test.YtpenfnabeckboaaGreatDoorMK
import Derived.Test.YtpenfnabeckboaaGreatDoorMT
namespace Go.Proofs.YtpenfnabeckboaaGreatDoor
/-- Is a digit there? -/
def digAt (s : ByteArray) (i : Nat) : Bool := decide (i < s.size) && dgC (s.get! i)
/-- The place behind the digits that begin at a place. -/
def digE (s : ByteArray) (k : Nat) : Nat := k + digN (s.extract k s.size)
theorem tail_list (s : ByteArray) (k : Nat) : (s.extract k s.size).data.toList = s.data.toList.drop k := by
  rw [extract_drop]
theorem digE_step (s : ByteArray) (k : Nat) (h : digAt s k = true) : digE s k = digE s (k + 1) := by
  unfold digAt at h
  simp only [Bool.and_eq_true, decide_eq_true_eq] at h
  unfold digE digN
  rw [tail_list, tail_list, byte_drop s k h.1, List.takeWhile_cons, if_pos h.2, List.length_cons]
  omega
theorem digE_stop (s : ByteArray) (k : Nat) (h : digAt s k = false) : digE s k = k := by
  unfold digAt at h
  unfold digE digN
  rw [tail_list]
  by_cases hk : k < s.size
  · rw [decide_eq_true hk, Bool.true_and] at h
    rw [byte_drop s k hk, List.takeWhile_cons, if_neg (by rw [h]; decide)]
    rfl
  · rw [List.drop_of_length_le (by have : s.data.toList.length = s.size := rfl; omega)]
    rfl
theorem digE_le (s : ByteArray) (k : Nat) (h : k ≤ s.size) : digE s k ≤ s.size := by
  have := digN_le (s.extract k s.size)
  simp at this
  unfold digE
  omega
theorem digE_ge (s : ByteArray) (k : Nat) : k ≤ digE s k := Nat.le_add_right _ _
theorem pre_one (s : ByteArray) (k : Nat) (c : UInt8) : Lib.hasPrefix (s.extract k s.size).data.toList [c] = true ↔ k < s.size ∧ s.get! k = c := by
  rw [tail_list]
  by_cases hk : k < s.size
  · rw [byte_drop s k hk]
    unfold Lib.hasPrefix
    simp [hk]
    exact ⟨fun h => h.symm, fun h => h.symm⟩
  · rw [List.drop_of_length_le (by have : s.data.toList.length = s.size := rfl; omega)]
    simp [Lib.hasPrefix, hk]
theorem numN_at (s : ByteArray) (i : Nat) (hi : i ≤ s.size) : i + numN (s.extract i s.size) =
    if digE s i < s.size ∧ s.get! (digE s i) = 46 ∧ digAt s (digE s i + 1) = true then digE s (digE s i + 1) else digE s i := by
  have hle := digE_le s i hi
  have hd : i + digN (s.extract i s.size) = digE s i := rfl
  have hsz : (s.extract i s.size).size = s.size - i := by simp
  unfold numN
  generalize hdd : digN (s.extract i s.size) = d at hd ⊢
  rw [show (s.extract i s.size).extract d (s.extract i s.size).size = s.extract (digE s i) s.size from by rw [extract_tail s i d (by omega), hd]]
  simp only [pre_one]
  by_cases h46 : digE s i < s.size ∧ s.get! (digE s i) = 46
  · have e1 : (s.extract i s.size).extract (d + 1) (s.extract i s.size).size = s.extract (digE s i + 1) s.size := by rw [extract_tail s i (d + 1) (by omega), ← hd, Nat.add_assoc]
    rw [e1]
    by_cases hg : digAt s (digE s i + 1) = true
    · have hst := digE_step s _ hg
      have hge := digE_ge s (digE s i + 1 + 1)
      have hx : digE s (digE s i + 1) = digE s i + 1 + digN (s.extract (digE s i + 1) s.size) := rfl
      rw [if_pos ⟨h46, by omega⟩, if_pos ⟨h46.1, h46.2, hg⟩, hx]
      omega
    · have hst := digE_stop s _ (by simpa using hg)
      have hx : digE s (digE s i + 1) = digE s i + 1 + digN (s.extract (digE s i + 1) s.size) := rfl
      rw [if_neg (fun h => by omega), if_neg (fun h => hg h.2.2)]
      omega
  · rw [if_neg (fun h => h46 h.1), if_neg (fun h => h46 ⟨h.1, h.2.1⟩)]
    omega
end Go.Proofs.YtpenfnabeckboaaGreatDoor

namespace Go.Proofs.YtpenfnabeckboaaGreatDoor
/-- From a place on a text is right. -/
def OKat (s : ByteArray) (i : Nat) : Prop := charsAt s i ≠ none
theorem ok_rune (s : ByteArray) (i : Nat) (h : OKat s i) (hi : i < s.size) : (runeN (Utf8.decode s i)).2 ≠ 0 := by
  intro h0
  apply h
  rw [charsAt_step s i hi, if_pos h0]
theorem ok_step (s : ByteArray) (i : Nat) (h : OKat s i) (hi : i < s.size) : OKat s (i + (Utf8.decode s i).2) := by
  have h0 := ok_rune s i h hi
  intro hn
  apply h
  rw [charsAt_step s i hi, if_neg h0]
  have hw := congrArg Prod.snd (runeN_width s i hi h0)
  simp only at hw
  rw [hw, Int.toNat_natCast, hn]
  rfl
theorem ok_byte (s : ByteArray) (p : Nat) (hp : p < s.size) (hb : (s.get! p).toNat < 128) : ∀ k i, p = i + k → OKat s i → OKat s p ∧ (Utf8.decode s p) = ((s.get! p).toNat, 1) := by
  intro k
  induction k using Nat.strongRecOn with
  | _ k ih =>
    intro i hk h
    have hi : i < s.size := by omega
    have hok := runeN_ok _ (ok_rune s i h hi)
    have hpos := decode_pos s i hi
    rcases decode_bytes s i hi hok with ⟨h1, h2, h3⟩ | ⟨h1, _⟩
    · by_cases hk0 : k = 0
      · subst hk0
        obtain rfl : p = i := by omega
        exact ⟨h, Prod.ext h2 h1⟩
      · exact ih (k - 1) (by omega) (i + 1) (by omega) (by have := ok_step s i h hi; rwa [h1] at this)
    · by_cases hlt : p < i + (Utf8.decode s i).2
      · have := h1 p (by omega) hlt
        omega
      · exact ih (p - (i + (Utf8.decode s i).2)) (by omega) (i + (Utf8.decode s i).2) (by omega) (ok_step s i h hi)
/-- Behind a byte below 128 a right text is right. -/
theorem ok_next (s : ByteArray) (i p : Nat) (h : OKat s i) (hi : i ≤ p) (hp : p < s.size) (hb : (s.get! p).toNat < 128) : OKat s (p + 1) := by
  obtain ⟨h1, h2⟩ := ok_byte s p hp hb (p - i) i (by omega) h
  have := ok_step s p h1 hp
  rwa [h2] at this
theorem chk_chars (s : ByteArray) : ∀ b pos, s.size ≤ pos + b → pos ≤ s.size → (chkF s b pos < s.size ↔ charsF s b pos = none)
  | 0, pos, h, hp => by simp [chkF, charsF]
  | b + 1, pos, h, hp => by
    rw [charsF_succ]
    unfold chkF
    by_cases hlt : pos < s.size
    · rw [if_pos hlt, if_pos hlt]
      have hpos := decode_pos s pos hlt
      have hfit := decode_fits s pos hlt
      rcases runeN_cases s pos hlt with ⟨h1, h2, h3⟩ | ⟨h1, h2, h3⟩ | ⟨h1, h2, h3, h4⟩
      · rw [if_pos h3, if_neg (by unfold runeAt; rw [if_pos (.inl ⟨h1, h2⟩)]; simp)]
        simp [hlt]
      · rw [if_pos h3, if_neg (by unfold runeAt; rw [if_pos (.inr h2)]; simp)]
        simp [hlt]
      · rw [if_neg h3, if_pos (by unfold runeAt; rw [if_neg (fun h => h.elim h1 (fun h => by rw [h2] at h; cases h))])]
        have hs := congrArg Prod.snd h4
        simp only at hs
        rw [hs, Int.toNat_natCast, chk_chars s b _ (by omega) hfit]
        simp
    · rw [if_neg hlt, if_neg hlt]
      simp
theorem chk_ok (s : ByteArray) (h : ¬ chkS s < s.size) : OKat s 0 := fun h0 => h ((chk_chars s s.size 0 (by omega) (Nat.zero_le _)).2 h0)
theorem cut_two (s : ByteArray) (i : Nat) (h : i ≤ s.size) : s.extract 0 i ++ s.extract i s.size = s := by
  rw [ByteArray.extract_append_extract]
  simp [Nat.max_eq_right h]
theorem decode_from (s : ByteArray) (i j : Nat) (h : i ≤ s.size) : Utf8.decode (s.extract i s.size) j = Utf8.decode s (i + j) := by
  have h1 := decode_shift (s.extract 0 i) (s.extract i s.size) j
  rw [cut_two s i h] at h1
  rw [← h1]
  congr 1
  simp; omega
/-- The end of a word that begins at a place, by the document. -/
def rwordF (s : ByteArray) (i : Nat) : Nat → Nat → Nat
  | 0, k => k
  | b + 1, k => if k < s.size then
      if (nextC (runeN (Utf8.decode s k)).1 && (decide (k ≠ i) || firstC (runeN (Utf8.decode s k)).1)) = true then rwordF s i b (k + (runeN (Utf8.decode s k)).2.toNat) else k
    else k
def rwordE (s : ByteArray) (i : Nat) : Nat := rwordF s i s.size i
theorem rwordF_end (s : ByteArray) (i b k : Nat) (h : ¬ k < s.size) : rwordF s i b k = k := by
  cases b with
  | zero => rfl
  | succ b => rw [rwordF, if_neg h]
theorem rwordF_step (s : ByteArray) (i b k : Nat) (h : k < s.size) (hb : s.size ≤ k + b) : ∃ b', b = b' + 1 ∧ rwordF s i b k =
    if (nextC (runeN (Utf8.decode s k)).1 && (decide (k ≠ i) || firstC (runeN (Utf8.decode s k)).1)) = true then rwordF s i b' (k + (runeN (Utf8.decode s k)).2.toNat) else k := by
  cases b with
  | zero => omega
  | succ b => exact ⟨b, rfl, by rw [rwordF, if_pos h]⟩
theorem word_at (s : ByteArray) (i : Nat) : ∀ b b' k, OKat s k → i ≤ k → k ≤ s.size → s.size ≤ k + b → s.size ≤ k + b' → rwordF s i b k = i + wordF (s.extract i s.size) b' (k - i) := by
  intro b
  induction b with
  | zero =>
    intro b' k _ hik hk hb hb'
    rw [rwordF_end s i 0 k (by omega), wordF_end _ _ _ (by simp; omega)]
    omega
  | succ b ih =>
    intro b' k hok hik hk hb hb'
    by_cases hlt : k < s.size
    · obtain ⟨b1, e1, h1⟩ := rwordF_step s i (b + 1) k hlt hb
      obtain rfl : b = b1 := by omega
      rw [h1]
      have h0 := ok_rune s k hok hlt
      have hw := runeN_width s k hlt h0
      have hx : (s.extract i s.size).size = s.size - i := by simp
      have hdf := decode_from s i (k - i) (by omega)
      rw [show i + (k - i) = k from by omega] at hdf
      rw [hw]
      have hpos := decode_pos s k hlt
      have hfit := decode_fits s k hlt
      by_cases ht : (nextC (Utf8.decode s k).1 && (decide (k ≠ i) || firstC (Utf8.decode s k).1)) = true
      · rw [if_pos ht]
        obtain ⟨b2, e2, h2⟩ := wordF_step (s.extract i s.size) b' (k - i) (by omega) (by omega) (by rw [hdf, show (decide (k - i ≠ 0)) = decide (k ≠ i) from by rw [decide_eq_decide]; omega]; exact ht)
        rw [h2, hdf]
        simp only [Int.toNat_natCast]
        rw [ih b2 _ (ok_step s k hok hlt) (by omega) hfit (by omega) (by omega)]
        congr 2
        omega
      · rw [if_neg ht, wordF_stop _ _ _ (by omega) (by omega) (by rw [hdf, show (decide (k - i ≠ 0)) = decide (k ≠ i) from by rw [decide_eq_decide]; omega]; simpa using ht)]
        omega
    · rw [rwordF_end s i _ k hlt, wordF_end _ _ _ (by simp; omega)]
      omega
theorem rword_at (s : ByteArray) (i : Nat) (h : OKat s i) (hi : i ≤ s.size) : rwordE s i = i + wordN (s.extract i s.size) := by
  have := word_at s i s.size (s.extract i s.size).size i h (Nat.le_refl _) hi (by omega) (by simp; omega)
  rwa [Nat.sub_self] at this
end Go.Proofs.YtpenfnabeckboaaGreatDoor

namespace Go.Proofs.YtpenfnabeckboaaGreatDoor
open Go.RowKit
theorem dg_all : ((List.range 256).all fun i => dgC i.toUInt8 == decide (48 ≤ i ∧ i ≤ 57)) = true := by decide +kernel
theorem dgC_iff (c : UInt8) : dgC c = decide (48 ≤ (c.toNat : Int) ∧ (c.toNat : Int) ≤ 57) := by
  have h1 := List.all_eq_true.1 dg_all c.toNat (List.mem_range.2 c.toNat_lt)
  rw [show c.toNat.toUInt8 = c from by simp] at h1
  rw [beq_iff_eq.1 h1, decide_eq_decide]
  omega
end Go.Proofs.YtpenfnabeckboaaGreatDoor

namespace Go.Proofs.YtpenfnabeckboaaGreatDoor
open Go.RowKit
def signs2 : List (List UInt8) := [[42, 42], [60, 61], [62, 61], [33, 61], [46, 46]]
def signs1 : List UInt8 := [43, 45, 42, 47, 60, 62, 61, 40, 41, 91, 93, 123, 125, 44, 58, 46]
theorem signIn_len (s : ByteArray) (n : Nat) : ∀ A B : List (List UInt8), (∀ l ∈ A, l.length = n) → (signIn s (A ++ B)).length = if (A.any fun l => Lib.hasPrefix s.data.toList l) = true then n else (signIn s B).length
  | [], B, _ => by simp
  | x :: A, B, h => by
    have e : signIn s (x :: (A ++ B)) = if Lib.hasPrefix s.data.toList x = true then x else signIn s (A ++ B) := rfl
    rw [List.cons_append, e]
    by_cases hx : Lib.hasPrefix s.data.toList x = true
    · rw [if_pos hx, List.any_cons, hx, Bool.true_or, if_pos rfl]
      exact h x (by simp)
    · rw [if_neg hx, signIn_len s n A B (fun l hl => h l (by simp [hl])), List.any_cons, Bool.eq_false_iff.2 hx, Bool.false_or]
theorem sign_len (s : ByteArray) : (signS s).size = if (signs2.any fun l => Lib.hasPrefix s.data.toList l) = true then 2 else if (signs1.any fun c => Lib.hasPrefix s.data.toList [c]) = true then 1 else 0 := by
  have e : signsL = signs2 ++ (signs1.map (fun c => [c]) ++ []) := rfl
  show (signIn s signsL).length = _
  rw [e, signIn_len s 2 signs2 _ (by decide), signIn_len s 1 _ [] (by decide), List.any_map]
  rfl
theorem extract_piece (s : ByteArray) (i n : Nat) : (s.extract i (i + n)).data.toList = (s.data.toList.drop i).take n := by
  rw [ByteArray.data_extract, Array.toList_extract]
  simp [List.extract_eq_take_drop]
theorem pre_two (s : ByteArray) (k : Nat) (a b : UInt8) : Lib.hasPrefix (s.extract k s.size).data.toList [a, b] = true ↔ k + 2 ≤ s.size ∧ (s.extract k (k + 2)).data.toList = [a, b] := by
  have hl : s.data.toList.length = s.size := rfl
  have e2 : (s.extract k (k + 2)).data.toList = (s.data.toList.drop k).take 2 := by
    rw [extract_piece]
  rw [tail_list, e2]
  have hd : (s.data.toList.drop k).length = s.size - k := by simp
  generalize s.data.toList.drop k = L at hd ⊢
  match L, hd with
  | [], hd => simp [Lib.hasPrefix]
  | [x], hd => simp [Lib.hasPrefix]
  | x :: y :: L, hd =>
    simp at hd
    simp [Lib.hasPrefix]
    constructor
    · rintro ⟨rfl, rfl⟩; exact ⟨by omega, rfl, rfl⟩
    · rintro ⟨_, rfl, rfl⟩; exact ⟨rfl, rfl⟩
theorem sign_at (s : ByteArray) (k : Nat) (hk : k < s.size) : (signS (s.extract k s.size)).size =
    if k + 2 ≤ s.size ∧ (s.extract k (k + 2)).data.toList ∈ signs2 then 2 else if s.get! k ∈ signs1 then 1 else 0 := by
  rw [sign_len]
  congr 1
  · rw [List.any_eq_true, eq_iff_iff]
    constructor
    · rintro ⟨l, hl, h⟩
      have : ∃ a b, l = [a, b] := by
        simp only [signs2, List.mem_cons, List.not_mem_nil, or_false] at hl
        rcases hl with rfl | rfl | rfl | rfl | rfl <;> exact ⟨_, _, rfl⟩
      obtain ⟨a, b, rfl⟩ := this
      obtain ⟨h1, h2⟩ := (pre_two s k a b).1 h
      exact ⟨h1, by rw [h2]; exact hl⟩
    · rintro ⟨h1, h2⟩
      refine ⟨_, h2, ?_⟩
      have : ∃ a b, (s.extract k (k + 2)).data.toList = [a, b] := by
        simp only [signs2, List.mem_cons, List.not_mem_nil, or_false] at h2
        rcases h2 with h | h | h | h | h <;> exact ⟨_, _, h⟩
      obtain ⟨a, b, hab⟩ := this
      rw [hab]
      exact (pre_two s k a b).2 ⟨h1, hab⟩
  · congr 1
    rw [List.any_eq_true, eq_iff_iff]
    constructor
    · rintro ⟨c, hc, h⟩
      rw [((pre_one s k c).1 h).2]
      exact hc
    · intro h
      exact ⟨_, h, (pre_one s k _).2 ⟨hk, rfl⟩⟩
end Go.Proofs.YtpenfnabeckboaaGreatDoor

namespace Go.Proofs.YtpenfnabeckboaaGreatDoor
open Go.RowKit
theorem get_tail (s : ByteArray) (k j : Nat) (h : k + j < s.size) : (s.extract k s.size).get! j = s.get! (k + j) := get_extract s k j h
end Go.Proofs.YtpenfnabeckboaaGreatDoor

namespace Go.Proofs.YtpenfnabeckboaaGreatDoor
open Go.RowKit
theorem dgC_lt (c : UInt8) (h : dgC c = true) : c.toNat < 128 := by
  rw [dgC_iff] at h
  have := of_decide_eq_true h
  omega
theorem digE_last (s : ByteArray) : ∀ n k, digE s k = k + n → 0 < n → k + n ≤ s.size ∧ dgC (s.get! (k + n - 1)) = true
  | 0, _, _, h => absurd h (Nat.lt_irrefl _)
  | n + 1, k, he, _ => by
    by_cases hd : digAt s k = true
    · have hst := digE_step s k hd
      have hd2 := hd
      unfold digAt at hd2
      simp only [Bool.and_eq_true, decide_eq_true_eq] at hd2
      by_cases hn : n = 0
      · subst hn
        exact ⟨hd2.1, by rw [show k + (0 + 1) - 1 = k from by omega]; exact hd2.2⟩
      · have h1 := digE_last s n (k + 1) (by omega) (by omega)
        exact ⟨by omega, by rw [show k + (n + 1) - 1 = k + 1 + n - 1 from by omega]; exact h1.2⟩
    · have := digE_stop s k (by simpa using hd)
      omega
theorem num_last (s : ByteArray) (i : Nat) (hi : i ≤ s.size) (h : numN (s.extract i s.size) ≠ 0) : i + numN (s.extract i s.size) ≤ s.size ∧ (s.get! (i + numN (s.extract i s.size) - 1)).toNat < 128 := by
  have hn := numN_at s i hi
  have hge := digE_ge s i
  split at hn
  · rename_i h1
    have h2 := digE_step s _ h1.2.2
    have h3 := digE_ge s (digE s i + 1 + 1)
    obtain ⟨m, hm⟩ : ∃ m, digE s (digE s i + 1) = digE s i + 1 + m := ⟨digE s (digE s i + 1) - (digE s i + 1), by omega⟩
    have h4 := digE_last s m (digE s i + 1) hm (by omega)
    rw [hn, hm]
    exact ⟨h4.1, dgC_lt _ h4.2⟩
  · obtain ⟨m, hm⟩ : ∃ m, digE s i = i + m := ⟨digE s i - i, by omega⟩
    have h4 := digE_last s m i hm (by omega)
    rw [hn, hm]
    exact ⟨h4.1, dgC_lt _ h4.2⟩
theorem text_last (s : ByteArray) : ∀ b pos acc, pos ≤ s.size → (textF s b pos acc).2.2 = 0 → 1 ≤ (textF s b pos acc).2.1 ∧ (textF s b pos acc).2.1 ≤ s.size ∧ s.get! ((textF s b pos acc).2.1 - 1) = 34
  | 0, _, _, _, h => by cases h
  | b + 1, pos, acc, hp, h => by
    unfold textF at h ⊢
    by_cases h1 : pos < s.size
    · rw [if_pos h1] at h ⊢
      by_cases h2 : s.get! pos = 34
      · rw [if_pos h2]
        exact ⟨by show 1 ≤ pos + 1; omega, h1, h2⟩
      · rw [if_neg h2] at h ⊢
        by_cases h3 : s.get! pos = 92
        · rw [if_pos h3] at h ⊢
          by_cases h4 : (escS (s.extract pos s.size)).2 = 0
          · rw [if_pos h4] at h
            cases h
          · rw [if_neg h4] at h ⊢
            have := (escS_size (s.extract pos s.size)).1
            simp at this
            exact text_last s b _ _ (by omega) h
        · rw [if_neg h3] at h ⊢
          exact text_last s b _ _ h1 h
    · rw [if_neg h1] at h
      cases h
theorem word_ok (s : ByteArray) (i : Nat) : ∀ b k, OKat s k → k ≤ s.size → OKat s (rwordF s i b k) ∧ rwordF s i b k ≤ s.size
  | 0, k, h, hk => ⟨h, hk⟩
  | b + 1, k, h, hk => by
    unfold rwordF
    by_cases hp : k < s.size
    · rw [if_pos hp]
      split
      · have h0 := ok_rune s k h hp
        have hw := congrArg Prod.snd (runeN_width s k hp h0)
        simp only at hw
        rw [hw, Int.toNat_natCast]
        exact word_ok s i b _ (ok_step s k h hp) (decode_fits s k hp)
      · exact ⟨h, hk⟩
    · rw [if_neg hp]
      exact ⟨h, hk⟩
theorem signs_ascii : (signs1.all fun c => decide (c.toNat < 128)) = true ∧ (signs2.all fun l => match l with | [_, b] => decide (b.toNat < 128) | _ => false) = true := by decide
theorem sign_last (s : ByteArray) (k : Nat) (hk : k < s.size) (h : (signS (s.extract k s.size)).size ≠ 0) : k + (signS (s.extract k s.size)).size ≤ s.size ∧ (s.get! (k + (signS (s.extract k s.size)).size - 1)).toNat < 128 := by
  have hn := sign_at s k hk
  split at hn
  · rename_i h1
    rw [hn]
    refine ⟨h1.1, ?_⟩
    have h2 := List.all_eq_true.1 signs_ascii.2 _ h1.2
    rw [extract_piece, byte_drop s k hk, byte_drop s (k + 1) (by omega)] at h2
    simpa using h2
  · split at hn
    · rename_i h1
      rw [hn]
      refine ⟨hk, ?_⟩
      have h2 := List.all_eq_true.1 signs_ascii.1 _ h1
      simpa using h2
    · exact absurd hn h
/-- Behind a token a right text is right. -/
theorem lex_ok (s : ByteArray) (i : Nat) (h : OKat s i) (hi : i < s.size) (h0 : (oneS (s.extract i s.size)).2.2 = 0) : OKat s (i + (oneS (s.extract i s.size)).2.1) := by
  have hsz : (s.extract i s.size).size = s.size - i := by simp
  unfold oneS at h0 ⊢
  by_cases hw : wordN (s.extract i s.size) ≠ 0
  · rw [if_pos hw]
    have h1 := word_ok s i s.size i h (by omega)
    rw [show rwordF s i s.size i = rwordE s i from rfl, rword_at s i h (by omega)] at h1
    exact h1.1
  · rw [if_neg hw] at h0 ⊢
    by_cases hnu : numN (s.extract i s.size) ≠ 0
    · rw [if_pos hnu]
      have h1 := num_last s i (by omega) hnu
      dsimp only
      generalize numN (s.extract i s.size) = n at h1 hnu ⊢
      have h2 := ok_next s i (i + n - 1) h (by omega) (by omega) h1.2
      rwa [show i + n - 1 + 1 = i + n from by omega] at h2
    · rw [if_neg hnu] at h0 ⊢
      by_cases h34 : (s.extract i s.size).get! 0 = 34
      · rw [if_pos h34] at h0 ⊢
        have h1 := text_last (s.extract i s.size) _ 1 [] (by omega) h0
        dsimp only
        change (textS (s.extract i s.size)).2.2 = 0 at h0
        change 1 ≤ (textS (s.extract i s.size)).2.1 ∧ (textS (s.extract i s.size)).2.1 ≤ _ ∧ (s.extract i s.size).get! ((textS (s.extract i s.size)).2.1 - 1) = 34 at h1
        generalize (textS (s.extract i s.size)).2.1 = n at h1 ⊢
        rw [get_tail s i (n - 1) (by omega)] at h1
        have h2 := ok_next s i (i + (n - 1)) h (by omega) (by omega) (by rw [h1.2.2]; decide)
        rwa [show i + (n - 1) + 1 = i + n from by omega] at h2
      · rw [if_neg h34] at h0 ⊢
        by_cases hs : (signS (s.extract i s.size)).size = 0
        · rw [if_pos hs] at h0
          cases h0
        · rw [if_neg hs]
          have h1 := sign_last s i hi hs
          dsimp only
          generalize (signS (s.extract i s.size)).size = n at h1 hs ⊢
          have h2 := ok_next s i (i + n - 1) h (by omega) (by omega) h1.2
          rwa [show i + n - 1 + 1 = i + n from by omega] at h2
theorem space_lt (c : UInt8) (h : spaceC c.toNat = true) : c.toNat < 128 := by
  unfold spaceC at h
  have := of_decide_eq_true h
  omega
theorem space_ok (s : ByteArray) (i : Nat) (h : OKat s i) (hi : i < s.size) (hs : spaceC (s.get! i).toNat = true) : OKat s (i + 1) := ok_next s i i h (Nat.le_refl _) hi (space_lt _ hs)
end Go.Proofs.YtpenfnabeckboaaGreatDoor
