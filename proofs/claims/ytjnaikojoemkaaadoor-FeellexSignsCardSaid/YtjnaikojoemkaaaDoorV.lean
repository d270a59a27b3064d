/-
  Plain laws of names: beginnings, a digit behind and ahead, words.
-/
import Derived.Test.YtjnaikojoemkaaaDoorT
namespace Go.Proofs.YtjnaikojoemkaaaDoor
open Go.Lib

theorem decodeN_cut (n n' b0 b1 b2 b3 c1 c2 c3 : Nat) (hn : n' ≤ n) (hw : (decodeN n b0 b1 b2 b3).2 ≤ n') (h1 : 1 < n' → c1 = b1) (h2 : 2 < n' → c2 = b2) (h3 : 3 < n' → c3 = b3) (ok : okD (decodeN n b0 b1 b2 b3)) :
    decodeN n' b0 c1 c2 c3 = decodeN n b0 b1 b2 b3 := by
  unfold okD at ok
  by_cases k1 : 1 < n'
  · obtain rfl := h1 k1
    by_cases k2 : 2 < n'
    · obtain rfl := h2 k2
      by_cases k3 : 3 < n'
      · obtain rfl := h3 k3
        unfold decodeN at ok hw ⊢
        grind
      · unfold decodeN at ok hw ⊢
        grind
    · unfold decodeN at ok hw ⊢
      grind
  · unfold decodeN at ok hw ⊢
    grind

theorem get_piece (s : ByteArray) (k j i : Nat) (hj : j ≤ s.size) (h : k + i < j) : (s.extract k j).get! i = s.get! (k + i) := by
  have h1 : i < (s.extract k j).data.size := by show i < (s.extract k j).size; simp; omega
  have h2 : k + i < s.size := by omega
  rw [get_bang _ _ h1, get_bang _ _ h2]
  simp

theorem decode_piece (s : ByteArray) (k : Nat) (h : k < s.size) (ok : okD (Utf8.decode s k)) :
    Utf8.decode (s.extract k (k + (Utf8.decode s k).2)) 0 = Utf8.decode s k := by
  have hf := decode_fits s k h
  have hp := decode_pos s k h
  obtain ⟨w, hw⟩ : ∃ w, (Utf8.decode s k).2 = w := ⟨_, rfl⟩
  rw [hw] at hf hp ⊢
  have hsz : (s.extract k (k + w)).size = w := by simp; omega
  rw [decode_at] at ok hw
  rw [decode_at, decode_at, hsz, get_piece s k (k + w) 0 hf (by omega), Nat.add_zero]
  refine decodeN_cut _ _ _ _ _ _ _ _ _ (by omega) (by omega) (fun h1 => ?_) (fun h1 => ?_) (fun h1 => ?_) ok
  · rw [get_piece s k (k + w) (0 + 1) hf (by omega), Nat.zero_add]
  · rw [get_piece s k (k + w) (0 + 2) hf (by omega), Nat.zero_add]
  · rw [get_piece s k (k + w) (0 + 3) hf (by omega), Nat.zero_add]

theorem runeN_width (s : ByteArray) (k : Nat) (h : k < s.size) (h0 : (runeN (Utf8.decode s k)).2 ≠ 0) : runeN (Utf8.decode s k) = (((Utf8.decode s k).1 : Int), ((Utf8.decode s k).2 : Int)) := by
  rcases runeN_cases s k h with ⟨_, _, h1⟩ | ⟨_, _, h1⟩ | ⟨_, _, _, h1⟩
  · exact absurd h1 h0
  · exact absurd h1 h0
  · exact h1

theorem chars_piece (s : ByteArray) (k : Nat) (h : k < s.size) (h0 : (runeN (Utf8.decode s k)).2 ≠ 0) :
    charsS (s.extract k (k + (Utf8.decode s k).2)) = some [((Utf8.decode s k).1 : Int)] := by
  have hd := decode_piece s k h (runeN_ok _ h0)
  have hr := runeN_width s k h h0
  have hf := decode_fits s k h
  have hp := decode_pos s k h
  have hsz : (s.extract k (k + (Utf8.decode s k).2)).size = (Utf8.decode s k).2 := by simp; omega
  show charsAt _ 0 = _
  rw [charsAt_step _ 0 (by omega), hd, hr]
  rw [if_neg (by show ¬ ((Utf8.decode s k).2 : Int) = 0; omega), charsAt_end _ _ (by simp; omega)]
  rfl

/-- The place is between characters: those ahead and those behind it. -/
def Pre (s : ByteArray) (k : Nat) : Prop := ∃ l1 l2, charsS (s.extract 0 k) = some l1 ∧ charsAt s k = some l2 ∧ listS firstC partC (l1 ++ l2) = true
theorem Pre.start (s : ByteArray) (h : plainS s = true) : Pre s 0 := by
  obtain ⟨c, l, hc, h1, h2⟩ := (plain_iff s).1 h
  refine ⟨[], c :: l, by rw [ByteArray.extract_same]; rfl, hc, ?_⟩
  simp only [List.nil_append, listS, h1, h2, Bool.and_self]
theorem Pre.step (s : ByteArray) (k : Nat) (h : Pre s k) (hk : k < s.size) : Pre s (k + (Utf8.decode s k).2) := by
  obtain ⟨l1, l2, h1, h2, h3⟩ := h
  rw [charsAt_step s k hk] at h2
  by_cases h0 : (runeN (Utf8.decode s k)).2 = 0
  · rw [if_pos h0] at h2; cases h2
  · rw [if_neg h0, runeN_width s k hk h0] at h2
    obtain ⟨l', h4, rfl⟩ := Option.map_eq_some_iff.1 h2
    have hp := chars_piece s k hk h0
    refine ⟨l1 ++ [((Utf8.decode s k).1 : Int)], l', ?_, by simpa using h4, by rw [List.append_assoc]; exact h3⟩
    have he : s.extract 0 (k + (Utf8.decode s k).2) = s.extract 0 k ++ s.extract k (k + (Utf8.decode s k).2) := by
      rw [ByteArray.extract_append_extract]; simp
    rw [he, chars_append _ _ l1 h1, hp]
    rfl
theorem Pre.plain (s : ByteArray) (k : Nat) (h : Pre s k) (h0 : 0 < k) (hk : k ≤ s.size) : plainS (s.extract 0 k) = true := by
  obtain ⟨l1, l2, h1, h2, h3⟩ := h
  cases l1 with
  | nil =>
    exfalso
    have hsz : (s.extract 0 k).size = k := by simp; omega
    have : charsAt (s.extract 0 k) 0 = some [] := h1
    rw [charsAt_step _ 0 (by omega)] at this
    split at this
    · cases this
    · obtain ⟨_, _, h⟩ := Option.map_eq_some_iff.1 this
      cases h
  | cons c l =>
    rw [plain_iff]
    simp only [List.cons_append, listS, Bool.and_eq_true, List.all_append] at h3
    exact ⟨c, l, h1, h3.1, h3.2.1⟩

theorem made_iff (p q : Int → Bool) (hp : ∀ c, p c = true → fineC c = true) (hq : ∀ c, q c = true → fineC c = true) (s : ByteArray) : madeS p q s = true ↔ ∃ c l, charsS s = some (c :: l) ∧ p c = true ∧ l.all q = true := by
  rw [made_chars p q hp hq]
  unfold charsB
  constructor
  · intro h
    split at h
    · cases h
    · rename_i l hl
      cases l with
      | nil => simp [listS] at h
      | cons c l =>
        refine ⟨c, l, hl, ?_⟩
        simpa [listS] using h
  · rintro ⟨c, l, hc, h1, h2⟩
    rw [hc]
    simp only [listS, h1, h2, Bool.and_self]

theorem chars_7 : charsS ⟨#[55]⟩ = some [55] := by decide +kernel
theorem chars_blank : charsS ⟨#[32]⟩ = some [32] := by decide +kernel
theorem first_55 : firstC 55 = false := by decide +kernel
theorem next_55 : nextC 55 = true := by decide +kernel
theorem part_55 : partC 55 = true := by decide +kernel
theorem part_32 : partC 32 = false := by decide +kernel
theorem first_32 : firstC 32 = false := by decide +kernel

theorem not_true {b : Bool} (h : b ≠ true) : b = false := by simpa using h

theorem plain_empty : plainS ⟨#[]⟩ = false := by decide +kernel
theorem plain_7 (s : ByteArray) (h : plainS s = true) : plainS (s ++ ⟨#[55]⟩) = true := by
  obtain ⟨c, l, hc, h1, h2⟩ := (plain_iff s).1 h
  rw [plain_iff]
  refine ⟨c, l ++ [55], by rw [chars_append _ _ _ hc, chars_7]; rfl, h1, ?_⟩
  rw [List.all_append, h2]; simp [part_55]
theorem made_first7 (p q : Int → Bool) (hp : ∀ c, p c = true → fineC c = true) (hq : ∀ c, q c = true → fineC c = true) (h55 : p 55 = false) (s : ByteArray) : madeS p q (⟨#[55]⟩ ++ s) = false := by
  refine not_true fun h => ?_
  obtain ⟨c, l, hc, h1, h2⟩ := (made_iff p q hp hq _).1 h
  rw [chars_append _ _ _ chars_7] at hc
  obtain ⟨l', _, he⟩ := Option.map_eq_some_iff.1 hc
  injection he with he1 he2
  rw [← he1, h55] at h1; cases h1
theorem plain_first7 (s : ByteArray) : plainS (⟨#[55]⟩ ++ s) = false := made_first7 _ _ fine_of_first fine_of_part first_55 s
theorem plain_blank (s : ByteArray) (h : plainS s = true) : plainS (s ++ ⟨#[32]⟩) = false := by
  obtain ⟨c, l, hc, _, _⟩ := (plain_iff s).1 h
  refine not_true fun h => ?_
  obtain ⟨c', l', hc', h1, h2⟩ := (plain_iff _).1 h
  rw [chars_append _ _ _ hc, chars_blank] at hc'
  have he : c :: (l ++ [32]) = c' :: l' := by simpa using hc'
  injection he with he1 he2
  rw [← he2] at h2
  simp [part_32] at h2

theorem word_made (s : ByteArray) (h : wordS s = true) : madeS firstC nextC s = true := by
  unfold wordS at h; rw [Bool.and_eq_true] at h; exact h.1
theorem word_iff (s : ByteArray) : madeS firstC nextC s = true ↔ ∃ c l, charsS s = some (c :: l) ∧ firstC c = true ∧ l.all nextC = true := made_iff _ _ fine_of_first fine_of_next s
theorem word_plain (s : ByteArray) (h : wordS s = true) : plainS s = true := by
  obtain ⟨c, l, hc, h1, h2⟩ := (word_iff s).1 (word_made s h)
  rw [plain_iff]
  refine ⟨c, l, hc, h1, List.all_eq_true.2 fun x hx => ?_⟩
  unfold partC
  rw [List.all_eq_true.1 h2 x hx]; rfl
theorem kw_7 (s : ByteArray) : isKw (s ++ ⟨#[55]⟩) = false := by
  unfold isKw
  rw [List.any_eq_false]
  intro l hl
  have hk : kwL.all (fun l => l.getLast? != some 55) = true := by decide +kernel
  have h1 := List.all_eq_true.1 hk l hl
  intro he
  have he2 : l = s.data.toList ++ [55] := by rw [eq_of_beq he]; simp [ByteArray.data_append]
  rw [he2] at h1
  simp at h1
theorem word_7 (s : ByteArray) (h : wordS s = true) : wordS (s ++ ⟨#[55]⟩) = true := by
  obtain ⟨c, l, hc, h1, h2⟩ := (word_iff s).1 (word_made s h)
  unfold wordS
  rw [kw_7]
  have : madeS firstC nextC (s ++ ⟨#[55]⟩) = true := by
    rw [word_iff]
    refine ⟨c, l ++ [55], by rw [chars_append _ _ _ hc, chars_7]; rfl, h1, ?_⟩
    rw [List.all_append, h2]; simp [next_55]
  rw [this]; rfl
theorem word_first7 (s : ByteArray) : wordS (⟨#[55]⟩ ++ s) = false := by
  unfold wordS
  rw [made_first7 _ _ fine_of_first fine_of_next first_55 s]; rfl

theorem parts_one (s : ByteArray) (h : (32 : UInt8) ∉ s.data.toList) : partsS s = [s] := by
  have : Lib.countB s ⟨#[32]⟩ = 0 := by
    show Lib.count s.data.toList [32] = 0
    rw [Lib.count_one, List.count_eq_zero.2 h]
  unfold partsS
  rw [this, Lib.splitB_zero]
theorem plain_no32 (s : ByteArray) (h : plainS s = true) : (32 : UInt8) ∉ s.data.toList := plain_no s 32 (by decide) (by decide +kernel) (by decide +kernel) h
theorem words_word (s : ByteArray) (h : wordS s = true) : wordsS s = some [s] := by
  unfold wordsS
  rw [parts_one s (plain_no32 s (word_plain s h))]
  simp [h]
end Go.Proofs.YtjnaikojoemkaaaDoor
