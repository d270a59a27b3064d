/-
  The plain laws of names: what the program's functions answer is what the document's do.
-/
import Derived.Test.YtjnaikojoemkaaaDoorK
import Derived.Test.YtjnaikojoemkaaaDoorO
namespace Go.Proofs.YtjnaikojoemkaaaDoor

theorem runeN_cases (s : ByteArray) (pos : Nat) (h : pos < s.size) :
    ((Utf8.decode s pos).1 = 65533 ∧ (Utf8.decode s pos).2 < 2 ∧ (runeN (Utf8.decode s pos)).2 = 0) ∨
    (¬ ((Utf8.decode s pos).1 = 65533 ∧ (Utf8.decode s pos).2 < 2) ∧ fineC (Utf8.decode s pos).1 = false ∧ (runeN (Utf8.decode s pos)).2 = 0) ∨
    (¬ ((Utf8.decode s pos).1 = 65533 ∧ (Utf8.decode s pos).2 < 2) ∧ fineC (Utf8.decode s pos).1 = true ∧ (runeN (Utf8.decode s pos)).2 ≠ 0 ∧ runeN (Utf8.decode s pos) = (((Utf8.decode s pos).1 : Int), ((Utf8.decode s pos).2 : Int))) := by
  have hp := decode_pos s pos h
  unfold runeN
  by_cases h1 : (Utf8.decode s pos).1 = 65533 ∧ (Utf8.decode s pos).2 < 2
  · exact .inl ⟨h1.1, h1.2, by rw [if_pos (.inl h1)]⟩
  · by_cases h2 : fineC (Utf8.decode s pos).1 = false
    · exact .inr (.inl ⟨h1, h2, by rw [if_pos (.inr h2)]⟩)
    · have h3 : ¬ ((Utf8.decode s pos).1 = 65533 ∧ (Utf8.decode s pos).2 < 2 ∨ fineC (Utf8.decode s pos).1 = false) := fun h => h.elim h1 h2
      refine .inr (.inr ⟨h1, by simpa using h2, ?_, ?_⟩)
      · rw [if_neg h3]; show ((Utf8.decode s pos).2 : Int) ≠ 0; omega
      · rw [if_neg h3]

theorem scan_chars (s : ByteArray) (q : Int → Bool) (hq : ∀ c, q c = true → fineC c = true) : ∀ b pos (p : Int → Bool), (∀ c, p c = true → fineC c = true) → s.size ≤ pos + b →
    match charsF s b pos with
    | none => scanG s q b pos p = false
    | some [] => scanG s q b pos p = true ∧ ¬ pos < s.size
    | some (c :: l) => scanG s q b pos p = (p c && l.all q) ∧ pos < s.size
  | 0, pos, p, hp, hb => by simp [charsF, scanG]; omega
  | b + 1, pos, p, hp, hb => by
    by_cases hlt : pos < s.size
    · rcases runeN_cases s pos hlt with ⟨h1, h2, h3⟩ | ⟨h1, h2, h3⟩ | ⟨h1, h2, h3, h4⟩
      · rw [charsF_bad s (b + 1) pos hlt hb h3]
        exact scanG_bad s q p (b + 1) pos hlt hb ⟨h1, h2⟩
      · rw [charsF_bad s (b + 1) pos hlt hb h3]
        refine scanG_no s q p (b + 1) pos hlt hb ?_
        cases hpc : p ((Utf8.decode s pos).1 : Int)
        · rfl
        · rw [hp _ hpc] at h2; cases h2
      · have hw := decode_pos s pos hlt
        rw [h4] at h3
        unfold charsF scanG
        rw [if_pos hlt, if_pos hlt, if_neg h1, h4, if_neg h3]
        have ih := scan_chars s q hq b (pos + (Utf8.decode s pos).2) q hq (by omega)
        simp only [Int.toNat_natCast]
        rcases hcf : charsF s b (pos + (Utf8.decode s pos).2) with _ | ⟨_ | ⟨c, l⟩⟩
        · rw [hcf] at ih
          show (if _ then _ else _) = false
          rw [ih]; simp
        · rw [hcf] at ih
          show (if _ then _ else _) = _ ∧ _
          rw [ih.1]; simp; exact hlt
        · rw [hcf] at ih
          show (if _ then _ else _) = _ ∧ _
          rw [ih.1]; simp only [Bool.if_false_right, Bool.decide_eq_true, List.all_cons]; exact ⟨trivial, hlt⟩
    · rw [charsF_end s (b + 1) pos hlt]
      exact ⟨scanG_end s q p (b + 1) pos hlt, hlt⟩

theorem made_chars (p q : Int → Bool) (hp : ∀ c, p c = true → fineC c = true) (hq : ∀ c, q c = true → fineC c = true) (s : ByteArray) : madeS p q s = charsB p q s := by
  have h := scan_chars s q hq s.size 0 p hp (by omega)
  unfold madeS charsB charsS
  have he : s.toList.isEmpty = decide (s.size = 0) := by
    rw [Lib.toList_data]
    have : s.size = s.data.toList.length := rfl
    rw [this]
    cases s.data.toList <;> simp
  rw [he]
  rcases hc : charsF s s.size 0 with _ | ⟨_ | ⟨c, l⟩⟩
  · rw [hc] at h; simp [h]
  · rw [hc] at h
    have hz : s.size = 0 := by have := h.2; omega
    rw [h.1]; simp [listS, hz]
  · rw [hc] at h; rw [h.1]
    have : ¬ s.size = 0 := by omega
    simp [listS, this]

theorem plain_same (s : ByteArray) : plainS s = rplainS s := made_chars _ _ fine_of_first fine_of_part s

theorem rsplit_index (s : ByteArray) : ∀ b k, s.size ≤ k + b → k ≤ s.size →
    rsplitF s b k = if 0 ≤ Lib.index (s.data.toList.drop k) [58] then
        (if rplainS (s.extract 0 (k + (Lib.index (s.data.toList.drop k) [58]).toNat)) = true ∧ rplainS (s.extract (k + (Lib.index (s.data.toList.drop k) [58]).toNat + 1) s.size) = true
          then (s.extract 0 (k + (Lib.index (s.data.toList.drop k) [58]).toNat), s.extract (k + (Lib.index (s.data.toList.drop k) [58]).toNat + 1) s.size, true) else (⟨#[]⟩, ⟨#[]⟩, false))
      else if rplainS s = true then (⟨#[]⟩, s, true) else (⟨#[]⟩, ⟨#[]⟩, false)
  | 0, k, hb, hk => by
    have : s.data.toList.drop k = [] := List.drop_of_length_le (by have : s.size = s.data.toList.length := rfl; omega)
    rw [this]; simp [rsplitF, Lib.index]
  | b + 1, k, hb, hk => by
    by_cases hlt : k < s.size
    · have hl : k < s.data.toList.length := hlt
      have hd := List.drop_eq_getElem_cons hl
      have hg : s.get! k = s.data.toList[k] := by rw [get_bang s k hlt]; simp
      rw [hd]
      unfold rsplitF Lib.index
      rw [if_pos hlt, hg]
      by_cases h58 : s.data.toList[k] = 58
      · have hp : List.isPrefixOf [58] (s.data.toList[k] :: s.data.toList.drop (k + 1)) = true := by simp [List.isPrefixOf, h58]
        rw [if_pos h58, if_pos hp]
        simp
      · have hp : ¬ List.isPrefixOf [58] (s.data.toList[k] :: s.data.toList.drop (k + 1)) = true := by simp [List.isPrefixOf]; exact fun h => h58 h.symm
        rw [if_neg h58, if_neg hp, rsplit_index s b (k + 1) (by omega) (by omega)]
        have hge := Lib.index_ge (s.data.toList.drop (k + 1)) [58]
        obtain ⟨r, hr⟩ : ∃ r, Lib.index (s.data.toList.drop (k + 1)) [58] = r := ⟨_, rfl⟩
        rw [hr] at hge ⊢
        by_cases hm : r = -1
        · subst hm; simp
        · have hm2 : (r == -1) = false := by simpa using hm
          rw [hm2]
          have h0 : 0 ≤ r := by omega
          have h1 : 0 ≤ r + 1 := by omega
          rw [if_pos h0]
          simp only [Bool.false_eq_true, if_false]
          rw [if_pos h1]
          rw [show k + 1 + r.toNat = k + (r + 1).toNat from by omega]
    · obtain rfl : k = s.size := by omega
      have : s.data.toList.drop s.size = [] := List.drop_of_length_le (Nat.le_refl _)
      rw [this]; simp [rsplitF, Lib.index]

theorem extract_take (s : ByteArray) (i : Nat) : s.extract 0 i = ⟨(s.data.toList.take i).toArray⟩ := by
  apply ByteArray.ext; apply Array.ext'; simp [List.extract_eq_take_drop]
theorem extract_drop (s : ByteArray) (i : Nat) : s.extract i s.size = ⟨(s.data.toList.drop i).toArray⟩ := by
  apply ByteArray.ext; apply Array.ext'
  have : s.size = s.data.toList.length := rfl
  simp only [ByteArray.data_extract, Array.toList_extract, List.extract_eq_take_drop]
  rw [this, List.take_of_length_le (by simp)]

theorem split_same (s : ByteArray) : splitS s = ((rsplitS s).1, (rsplitS s).2.1, if (rsplitS s).2.2 = true then 0 else 6) := by
  have h := rsplit_index s s.size 0 (by omega) (Nat.zero_le _)
  rw [List.drop_zero] at h
  unfold rsplitS
  rw [h]
  unfold splitS Lib.cut
  obtain ⟨r, hr⟩ : ∃ r, Lib.index s.data.toList [58] = r := ⟨_, rfl⟩
  rw [hr]
  simp only [Nat.zero_add, plain_same]
  by_cases h0 : 0 ≤ r
  · simp only [if_pos h0]
    have e1 := extract_take s r.toNat
    have e2 := extract_drop s (r.toNat + 1)
    rw [e1, e2]
    simp only [List.length_cons, List.length_nil, Nat.zero_add, true_and]
    split <;> simp
  · simp only [if_neg h0]
    by_cases hr : rplainS s = true
    · simp [hr]
    · simp [hr]
end Go.Proofs.YtjnaikojoemkaaaDoor
