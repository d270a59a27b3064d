/-
  The plain laws of names: what the program's functions answer is what the document's do.
  Plain laws on a text's characters: texts behind each other, beginnings, bytes below 128.
  Plain laws of names: prefixes, and texts behind each other.
  Plain laws of names: beginnings, a digit behind and ahead, words.
  Plain laws of names: words.
-/
import Derived.Test.YtojeclfcgnamoaaDoorMR
import Derived.Test.YtojeclfcgnamoaaDoorMK
namespace Go.Proofs.YtojeclfcgnamoaaDoor

theorem runeN_cases (s : ByteArray) (pos : Nat) (h : pos < s.size) :
    ((Utf8.decode s pos).1 = 65533 ∧ (Utf8.decode s pos).2 < 2 ∧ (runeN (Utf8.decode s pos)).2 = 0) ∨
    (¬ ((Utf8.decode s pos).1 = 65533 ∧ (Utf8.decode s pos).2 < 2) ∧ fineC (Utf8.decode s pos).1 = false ∧ (runeN (Utf8.decode s pos)).2 = 0) ∨
    (¬ ((Utf8.decode s pos).1 = 65533 ∧ (Utf8.decode s pos).2 < 2) ∧ fineC (Utf8.decode s pos).1 = true ∧ (runeN (Utf8.decode s pos)).2 ≠ 0 ∧ runeN (Utf8.decode s pos) = (((Utf8.decode s pos).1 : Int), ((Utf8.decode s pos).2 : Int))) := by
  have hp := decode_pos s pos h
  unfold runeN
  by_cases h1 : (Utf8.decode s pos).1 = 65533 ∧ (Utf8.decode s pos).2 < 2
  · exact .inl ⟨h1.1, h1.2, by rw [if_pos (.inl h1)]⟩
  · by_cases h2 : fineC (Utf8.decode s pos).1 = false
    · exact .inr (.inl ⟨h1, h2, by rw [if_pos (.inr h2)]⟩)
    · have h3 : ¬ ((Utf8.decode s pos).1 = 65533 ∧ (Utf8.decode s pos).2 < 2 ∨ fineC (Utf8.decode s pos).1 = false) := fun h => h.elim h1 h2
      refine .inr (.inr ⟨h1, by simpa using h2, ?_, ?_⟩)
      · rw [if_neg h3]; show ((Utf8.decode s pos).2 : Int) ≠ 0; omega
      · rw [if_neg h3]

theorem scan_chars (s : ByteArray) (q : Int → Bool) (hq : ∀ c, q c = true → fineC c = true) : ∀ b pos (p : Int → Bool), (∀ c, p c = true → fineC c = true) → s.size ≤ pos + b →
    match charsF s b pos with
    | none => scanG s q b pos p = false
    | some [] => scanG s q b pos p = true ∧ ¬ pos < s.size
    | some (c :: l) => scanG s q b pos p = (p c && l.all q) ∧ pos < s.size
  | 0, pos, p, hp, hb => by simp [charsF, scanG]; omega
  | b + 1, pos, p, hp, hb => by
    by_cases hlt : pos < s.size
    · rcases runeN_cases s pos hlt with ⟨h1, h2, h3⟩ | ⟨h1, h2, h3⟩ | ⟨h1, h2, h3, h4⟩
      · rw [charsF_bad s (b + 1) pos hlt hb h3]
        exact scanG_bad s q p (b + 1) pos hlt hb ⟨h1, h2⟩
      · rw [charsF_bad s (b + 1) pos hlt hb h3]
        refine scanG_no s q p (b + 1) pos hlt hb ?_
        cases hpc : p ((Utf8.decode s pos).1 : Int)
        · rfl
        · rw [hp _ hpc] at h2; cases h2
      · have hw := decode_pos s pos hlt
        rw [h4] at h3
        unfold charsF scanG
        rw [if_pos hlt, if_pos hlt, if_neg h1, h4, if_neg h3]
        have ih := scan_chars s q hq b (pos + (Utf8.decode s pos).2) q hq (by omega)
        simp only [Int.toNat_natCast]
        rcases hcf : charsF s b (pos + (Utf8.decode s pos).2) with _ | ⟨_ | ⟨c, l⟩⟩
        · rw [hcf] at ih
          show (if _ then _ else _) = false
          rw [ih]; simp
        · rw [hcf] at ih
          show (if _ then _ else _) = _ ∧ _
          rw [ih.1]; simp; exact hlt
        · rw [hcf] at ih
          show (if _ then _ else _) = _ ∧ _
          rw [ih.1]; simp only [Bool.if_false_right, Bool.decide_eq_true, List.all_cons]; exact ⟨trivial, hlt⟩
    · rw [charsF_end s (b + 1) pos hlt]
      exact ⟨scanG_end s q p (b + 1) pos hlt, hlt⟩

theorem made_chars (p q : Int → Bool) (hp : ∀ c, p c = true → fineC c = true) (hq : ∀ c, q c = true → fineC c = true) (s : ByteArray) : madeS p q s = charsB p q s := by
  have h := scan_chars s q hq s.size 0 p hp (by omega)
  unfold madeS charsB charsS
  have he : s.toList.isEmpty = decide (s.size = 0) := by
    rw [Lib.toList_data]
    have : s.size = s.data.toList.length := rfl
    rw [this]
    cases s.data.toList <;> simp
  rw [he]
  rcases hc : charsF s s.size 0 with _ | ⟨_ | ⟨c, l⟩⟩
  · rw [hc] at h; simp [h]
  · rw [hc] at h
    have hz : s.size = 0 := by have := h.2; omega
    rw [h.1]; simp [listS, hz]
  · rw [hc] at h; rw [h.1]
    have : ¬ s.size = 0 := by omega
    simp [listS, this]

theorem plain_same (s : ByteArray) : plainS s = rplainS s := made_chars _ _ fine_of_first fine_of_part s

theorem rsplit_index (s : ByteArray) : ∀ b k, s.size ≤ k + b → k ≤ s.size →
    rsplitF s b k = if 0 ≤ Lib.index (s.data.toList.drop k) [58] then
        (if rplainS (s.extract 0 (k + (Lib.index (s.data.toList.drop k) [58]).toNat)) = true ∧ rplainS (s.extract (k + (Lib.index (s.data.toList.drop k) [58]).toNat + 1) s.size) = true
          then (s.extract 0 (k + (Lib.index (s.data.toList.drop k) [58]).toNat), s.extract (k + (Lib.index (s.data.toList.drop k) [58]).toNat + 1) s.size, true) else (⟨#[]⟩, ⟨#[]⟩, false))
      else if rplainS s = true then (⟨#[]⟩, s, true) else (⟨#[]⟩, ⟨#[]⟩, false)
  | 0, k, hb, hk => by
    have : s.data.toList.drop k = [] := List.drop_of_length_le (by have : s.size = s.data.toList.length := rfl; omega)
    rw [this]; simp [rsplitF, Lib.index]
  | b + 1, k, hb, hk => by
    by_cases hlt : k < s.size
    · have hl : k < s.data.toList.length := hlt
      have hd := List.drop_eq_getElem_cons hl
      have hg : s.get! k = s.data.toList[k] := by rw [get_bang s k hlt]; simp
      rw [hd]
      unfold rsplitF Lib.index
      rw [if_pos hlt, hg]
      by_cases h58 : s.data.toList[k] = 58
      · have hp : List.isPrefixOf [58] (s.data.toList[k] :: s.data.toList.drop (k + 1)) = true := by simp [List.isPrefixOf, h58]
        rw [if_pos h58, if_pos hp]
        simp
      · have hp : ¬ List.isPrefixOf [58] (s.data.toList[k] :: s.data.toList.drop (k + 1)) = true := by simp [List.isPrefixOf]; exact fun h => h58 h.symm
        rw [if_neg h58, if_neg hp, rsplit_index s b (k + 1) (by omega) (by omega)]
        have hge := Lib.index_ge (s.data.toList.drop (k + 1)) [58]
        obtain ⟨r, hr⟩ : ∃ r, Lib.index (s.data.toList.drop (k + 1)) [58] = r := ⟨_, rfl⟩
        rw [hr] at hge ⊢
        by_cases hm : r = -1
        · subst hm; simp
        · have hm2 : (r == -1) = false := by simpa using hm
          rw [hm2]
          have h0 : 0 ≤ r := by omega
          have h1 : 0 ≤ r + 1 := by omega
          rw [if_pos h0]
          simp only [Bool.false_eq_true, if_false]
          rw [if_pos h1]
          rw [show k + 1 + r.toNat = k + (r + 1).toNat from by omega]
    · obtain rfl : k = s.size := by omega
      have : s.data.toList.drop s.size = [] := List.drop_of_length_le (Nat.le_refl _)
      rw [this]; simp [rsplitF, Lib.index]

theorem extract_take (s : ByteArray) (i : Nat) : s.extract 0 i = ⟨(s.data.toList.take i).toArray⟩ := by
  apply ByteArray.ext; apply Array.ext'; simp [List.extract_eq_take_drop]
theorem extract_drop (s : ByteArray) (i : Nat) : s.extract i s.size = ⟨(s.data.toList.drop i).toArray⟩ := by
  apply ByteArray.ext; apply Array.ext'
  have : s.size = s.data.toList.length := rfl
  simp only [ByteArray.data_extract, Array.toList_extract, List.extract_eq_take_drop]
  rw [this, List.take_of_length_le (by simp)]

theorem split_same (s : ByteArray) : splitS s = ((rsplitS s).1, (rsplitS s).2.1, if (rsplitS s).2.2 = true then 0 else 6) := by
  have h := rsplit_index s s.size 0 (by omega) (Nat.zero_le _)
  rw [List.drop_zero] at h
  unfold rsplitS
  rw [h]
  unfold splitS Lib.cut
  obtain ⟨r, hr⟩ : ∃ r, Lib.index s.data.toList [58] = r := ⟨_, rfl⟩
  rw [hr]
  simp only [Nat.zero_add, plain_same]
  by_cases h0 : 0 ≤ r
  · simp only [if_pos h0]
    have e1 := extract_take s r.toNat
    have e2 := extract_drop s (r.toNat + 1)
    rw [e1, e2]
    simp only [List.length_cons, List.length_nil, Nat.zero_add, true_and]
    split <;> simp
  · simp only [if_neg h0]
    by_cases hr : rplainS s = true
    · simp [hr]
    · simp [hr]
end Go.Proofs.YtojeclfcgnamoaaDoor

namespace Go.Proofs.YtojeclfcgnamoaaDoor
open Go.Lib

/-- A character that is one: the decoder told it, and did not tell an error. -/
def okD (d : Nat × Nat) : Prop := ¬ (d.1 = 65533 ∧ d.2 < 2)

theorem decodeN_mono (n n' b0 b1 b2 b3 c1 c2 c3 : Nat) (hn : n ≤ n') (h1 : 1 < n → c1 = b1) (h2 : 2 < n → c2 = b2) (h3 : 3 < n → c3 = b3) (ok : okD (decodeN n b0 b1 b2 b3)) :
    decodeN n' b0 c1 c2 c3 = decodeN n b0 b1 b2 b3 := by
  unfold okD at ok
  by_cases k1 : 1 < n
  · obtain rfl := h1 k1
    by_cases k2 : 2 < n
    · obtain rfl := h2 k2
      by_cases k3 : 3 < n
      · obtain rfl := h3 k3
        unfold decodeN at ok ⊢
        grind
      · unfold decodeN at ok ⊢
        grind
    · unfold decodeN at ok ⊢
      grind
  · unfold decodeN at ok ⊢
    grind

theorem get_append_left (s t : ByteArray) (i : Nat) (h : i < s.size) : (s ++ t).get! i = s.get! i := by
  have h2 : i < (s ++ t).data.size := by show i < (s ++ t).size; simp; omega
  rw [get_bang _ _ h2, get_bang _ _ h]
  have h3 : i < s.data.size := h
  simp only [ByteArray.data_append, Array.getElem_append]
  exact dif_pos h3
theorem get_append_right (s t : ByteArray) (i : Nat) (h : i < t.size) : (s ++ t).get! (s.size + i) = t.get! i := by
  have h2 : s.size + i < (s ++ t).data.size := by show s.size + i < (s ++ t).size; simp; omega
  rw [get_bang _ _ h2, get_bang _ _ h]
  simp [ByteArray.data_append]
theorem get_over (s : ByteArray) (i : Nat) (h : s.size ≤ i) : s.get! i = 0 := by
  have : ¬ i < s.data.size := by show ¬ i < s.size; omega
  unfold ByteArray.get!
  simp [getElem!_def, Array.getElem?_eq_none (by omega : s.data.size ≤ i)]
  rfl
theorem get_append_right' (s t : ByteArray) (i : Nat) : (s ++ t).get! (s.size + i) = t.get! i := by
  by_cases h : i < t.size
  · exact get_append_right s t i h
  · rw [get_over t i (by omega), get_over _ _ (by simp; omega)]

theorem decode_append (s t : ByteArray) (pos : Nat) (h : pos < s.size) (ok : okD (Utf8.decode s pos)) : Utf8.decode (s ++ t) pos = Utf8.decode s pos := by
  rw [decode_at] at ok
  rw [decode_at, decode_at, get_append_left s t pos h]
  refine decodeN_mono _ _ _ _ _ _ _ _ _ (by simp; omega) (fun h1 => ?_) (fun h1 => ?_) (fun h1 => ?_) ok
  · rw [get_append_left s t _ (by omega)]
  · rw [get_append_left s t _ (by omega)]
  · rw [get_append_left s t _ (by omega)]
theorem decode_shift (s t : ByteArray) (pos : Nat) : Utf8.decode (s ++ t) (s.size + pos) = Utf8.decode t pos := by
  rw [decode_at, decode_at, get_append_right', Nat.add_assoc, Nat.add_assoc, Nat.add_assoc, get_append_right', get_append_right', get_append_right']
  congr 1
  simp; omega

theorem runeN_ok (d : Nat × Nat) (h : (runeN d).2 ≠ 0) : okD d := by
  unfold runeN at h
  unfold okD
  intro hb
  rw [if_pos (.inl hb)] at h
  exact h rfl

/-- The fuel plays no part. -/
theorem charsF_fuel (s : ByteArray) : ∀ b b' pos, s.size ≤ pos + b → s.size ≤ pos + b' → charsF s b pos = charsF s b' pos
  | 0, b', pos, h, h' => by rw [charsF_end s b' pos (by omega)]; rfl
  | b + 1, 0, pos, h, h' => by rw [charsF_end s (b + 1) pos (by omega)]; rfl
  | b + 1, b' + 1, pos, h, h' => by
    unfold charsF
    by_cases hp : pos < s.size
    · rw [if_pos hp, if_pos hp]
      by_cases h0 : (runeN (Utf8.decode s pos)).2 = 0
      · rw [if_pos h0, if_pos h0]
      · rw [if_neg h0, if_neg h0]
        have := runeN_snd s pos hp
        rw [charsF_fuel s b b' _ (by omega) (by omega)]
    · rw [if_neg hp, if_neg hp]
theorem charsF_succ (s : ByteArray) (b pos : Nat) : charsF s (b + 1) pos = if pos < s.size then if (runeN (Utf8.decode s pos)).2 = 0 then none else (charsF s b (pos + (runeN (Utf8.decode s pos)).2.toNat)).map ((runeN (Utf8.decode s pos)).1 :: ·) else some [] := rfl
/-- The characters from a place on. -/
def charsAt (s : ByteArray) (pos : Nat) : Option (List Int) := charsF s s.size pos
theorem charsAt_end (s : ByteArray) (pos : Nat) (h : s.size ≤ pos) : charsAt s pos = some [] := charsF_end s _ pos (by omega)
theorem charsAt_step (s : ByteArray) (pos : Nat) (h : pos < s.size) :
    charsAt s pos = if (runeN (Utf8.decode s pos)).2 = 0 then none else (charsAt s (pos + (runeN (Utf8.decode s pos)).2.toNat)).map ((runeN (Utf8.decode s pos)).1 :: ·) := by
  unfold charsAt
  obtain ⟨b, hb⟩ : ∃ b, s.size = b + 1 := ⟨s.size - 1, by omega⟩
  rw [show charsF s s.size pos = charsF s (b + 1) pos from by rw [hb], charsF_succ, if_pos h]
  by_cases h0 : (runeN (Utf8.decode s pos)).2 = 0
  · rw [if_pos h0, if_pos h0]
  · rw [if_neg h0, if_neg h0]
    have := runeN_snd s pos h
    rw [charsF_fuel s b s.size _ (by omega) (by omega)]

theorem chars_shift (s t : ByteArray) : ∀ k pos, t.size = pos + k → charsAt (s ++ t) (s.size + pos) = charsAt t pos := by
  intro k
  induction k using Nat.strongRecOn with
  | _ k ih =>
    intro pos hk
    by_cases hp : pos < t.size
    · rw [charsAt_step t pos hp, charsAt_step _ _ (by simp; omega), decode_shift]
      by_cases h0 : (runeN (Utf8.decode t pos)).2 = 0
      · rw [if_pos h0, if_pos h0]
      · rw [if_neg h0, if_neg h0]
        have h1 := runeN_snd t pos hp
        have h2 := runeN_fits t pos hp
        rw [Nat.add_assoc, ih (t.size - (pos + (runeN (Utf8.decode t pos)).2.toNat)) (by omega) _ (by omega)]
    · rw [charsAt_end t pos (by omega), charsAt_end _ _ (by simp; omega)]

theorem chars_app_at (s t : ByteArray) : ∀ k pos l, s.size = pos + k → charsAt s pos = some l → charsAt (s ++ t) pos = (charsAt t 0).map (l ++ ·) := by
  intro k
  induction k using Nat.strongRecOn with
  | _ k ih =>
    intro pos l hk hl
    by_cases hp : pos < s.size
    · rw [charsAt_step s pos hp] at hl
      by_cases h0 : (runeN (Utf8.decode s pos)).2 = 0
      · rw [if_pos h0] at hl; cases hl
      · rw [if_neg h0] at hl
        obtain ⟨l', h3, rfl⟩ := Option.map_eq_some_iff.1 hl
        have h1 := runeN_snd s pos hp
        have h2 := runeN_fits s pos hp
        rw [charsAt_step _ pos (by simp; omega), decode_append s t pos hp (runeN_ok _ h0), if_neg h0, ih (s.size - (pos + (runeN (Utf8.decode s pos)).2.toNat)) (by omega) _ l' (by omega) h3]
        cases charsAt t 0 <;> simp
    · obtain rfl : pos = s.size := by omega
      rw [charsAt_end s _ (Nat.le_refl _)] at hl
      cases hl
      have := chars_shift s t t.size 0 (by omega)
      rw [Nat.add_zero] at this
      rw [this]
      cases charsAt t 0 <;> simp

/-- Two texts behind each other have the characters of both, if the first one is right. -/
theorem chars_append (s t : ByteArray) (l : List Int) (h : charsS s = some l) : charsS (s ++ t) = (charsS t).map (l ++ ·) := chars_app_at s t s.size 0 l (by omega) h
theorem chars_append_none (s t : ByteArray) (l : List Int) (h : charsS s = some l) (h2 : charsS t = none) : charsS (s ++ t) = none := by rw [chars_append s t l h, h2]; rfl

theorem decode_bytes (s : ByteArray) (pos : Nat) (h : pos < s.size) (ok : okD (Utf8.decode s pos)) :
    ((Utf8.decode s pos).2 = 1 ∧ (Utf8.decode s pos).1 = (s.get! pos).toNat ∧ (s.get! pos).toNat < 128) ∨
    (∀ i, pos ≤ i → i < pos + (Utf8.decode s pos).2 → 128 ≤ (s.get! i).toNat) ∧ 128 ≤ (Utf8.decode s pos).1 := by
  rw [decode_at] at ok ⊢
  obtain ⟨b0, e0⟩ : ∃ x, (s.get! pos).toNat = x := ⟨_, rfl⟩
  obtain ⟨b1, e1⟩ : ∃ x, (s.get! (pos + 1)).toNat = x := ⟨_, rfl⟩
  obtain ⟨b2, e2⟩ : ∃ x, (s.get! (pos + 2)).toNat = x := ⟨_, rfl⟩
  obtain ⟨b3, e3⟩ : ∃ x, (s.get! (pos + 3)).toNat = x := ⟨_, rfl⟩
  rw [e0, e1, e2, e3] at ok ⊢
  have key : (decodeN (s.size - pos) b0 b1 b2 b3).2 = 1 ∧ (decodeN (s.size - pos) b0 b1 b2 b3).1 = b0 ∧ b0 < 128 ∨
      128 ≤ b0 ∧ 128 ≤ (decodeN (s.size - pos) b0 b1 b2 b3).1 ∧ (1 < (decodeN (s.size - pos) b0 b1 b2 b3).2 → 128 ≤ b1) ∧ (2 < (decodeN (s.size - pos) b0 b1 b2 b3).2 → 128 ≤ b2) ∧ (3 < (decodeN (s.size - pos) b0 b1 b2 b3).2 → 128 ≤ b3) ∧ (decodeN (s.size - pos) b0 b1 b2 b3).2 ≤ 4 := by
    unfold okD at ok
    unfold decodeN at ok ⊢
    grind
  rcases key with h1 | ⟨k0, kc, k1, k2, k3, k4⟩
  · exact .inl h1
  · refine .inr ⟨fun i hi hi2 => ?_, kc⟩
    have hcase : i = pos ∨ i = pos + 1 ∨ i = pos + 2 ∨ i = pos + 3 := by omega
    rcases hcase with rfl | rfl | rfl | rfl
    · rw [e0]; exact k0
    · rw [e1]; exact k1 (by omega)
    · rw [e2]; exact k2 (by omega)
    · rw [e3]; exact k3 (by omega)

/-- A byte below 128 stands for itself: what is no character of a right text is no byte of it. -/
theorem no_byte (s : ByteArray) (a : Nat) (ha : a < 128) : ∀ k pos l, s.size = pos + k → charsAt s pos = some l → (a : Int) ∉ l → ∀ i, pos ≤ i → i < s.size → (s.get! i).toNat ≠ a := by
  intro k
  induction k using Nat.strongRecOn with
  | _ k ih =>
    intro pos l hk hl hal i hi his
    have hp : pos < s.size := by omega
    rw [charsAt_step s pos hp] at hl
    by_cases h0 : (runeN (Utf8.decode s pos)).2 = 0
    · rw [if_pos h0] at hl; cases hl
    · rw [if_neg h0] at hl
      obtain ⟨l', h3, rfl⟩ := Option.map_eq_some_iff.1 hl
      have ok := runeN_ok _ h0
      have hcs : runeN (Utf8.decode s pos) = (((Utf8.decode s pos).1 : Int), ((Utf8.decode s pos).2 : Int)) := by
        rcases runeN_cases s pos hp with ⟨_, _, h⟩ | ⟨_, _, h⟩ | ⟨_, _, _, h⟩
        · exact absurd h h0
        · exact absurd h h0
        · exact h
      rw [hcs] at h3 hal
      simp only [Int.toNat_natCast, List.mem_cons, not_or] at h3 hal
      have h1 := decode_pos s pos hp
      by_cases hin : i < pos + (Utf8.decode s pos).2
      · rcases decode_bytes s pos hp ok with ⟨e1, e2, e3⟩ | ⟨hall, _⟩
        · obtain rfl : i = pos := by omega
          intro he
          exact hal.1 (by rw [e2, he])
        · have := hall i hi hin; omega
      · exact ih (s.size - (pos + (Utf8.decode s pos).2)) (by omega) _ l' (by have := decode_fits s pos hp; omega) h3 hal.2 i (by omega) his
end Go.Proofs.YtojeclfcgnamoaaDoor

namespace Go.Proofs.YtojeclfcgnamoaaDoor
open Go.Lib

theorem plain_iff (s : ByteArray) : plainS s = true ↔ ∃ c l, charsS s = some (c :: l) ∧ firstC c = true ∧ l.all partC = true := by
  rw [plain_same]
  unfold rplainS charsB
  constructor
  · intro h
    split at h
    · cases h
    · rename_i l hl
      cases l with
      | nil => simp [listS] at h
      | cons c l =>
        refine ⟨c, l, hl, ?_⟩
        simpa [listS] using h
  · rintro ⟨c, l, hc, h1, h2⟩
    rw [hc]
    simp only [listS, h1, h2, Bool.and_self]

theorem byte_of_mem (s : ByteArray) (a : UInt8) (h : a ∈ s.data.toList) : ∃ i, i < s.size ∧ s.get! i = a := by
  obtain ⟨i, hi, rfl⟩ := List.getElem_of_mem h
  have hi2 : i < s.data.size := by simpa using hi
  refine ⟨i, hi2, ?_⟩
  rw [get_bang s i hi2]
  simp

theorem plain_no (s : ByteArray) (a : UInt8) (ha : a.toNat < 128) (h1 : firstC a.toNat = false) (h2 : partC a.toNat = false) (h : plainS s = true) : a ∉ s.data.toList := by
  intro hm
  obtain ⟨c, l, hc, hf, hp⟩ := (plain_iff s).1 h
  obtain ⟨i, hi, he⟩ := byte_of_mem s a hm
  refine no_byte s a.toNat ha s.size 0 (c :: l) (by omega) hc ?_ i (by omega) hi (by rw [he])
  rw [List.mem_cons, not_or]
  constructor
  · intro hh; rw [← hh, h1] at hf; cases hf
  · intro hh
    have := List.all_eq_true.1 hp _ hh
    rw [h2] at this; cases this
theorem plain_no58 (s : ByteArray) (h : plainS s = true) : (58 : UInt8) ∉ s.data.toList := plain_no s 58 (by decide) (by decide +kernel) (by decide +kernel) h

theorem index_skip (a : UInt8) : ∀ (A B : List UInt8), a ∉ A → Lib.index (A ++ a :: B) [a] = A.length
  | [], B, _ => by simp [Lib.index, List.isPrefixOf]
  | x :: A, B, h => by
    rw [List.mem_cons, not_or] at h
    have ih := index_skip a A B h.2
    have hp : List.isPrefixOf [a] (x :: (A ++ a :: B)) = false := by simp [List.isPrefixOf]; exact h.1
    rw [List.cons_append, Lib.index, hp, ih]
    have : (((A.length : Nat) : Int) == -1) = false := by simp
    rw [this]; simp
theorem index_none (a : UInt8) : ∀ (A : List UInt8), a ∉ A → Lib.index A [a] = -1
  | [], _ => by simp [Lib.index]
  | x :: A, h => by
    rw [List.mem_cons, not_or] at h
    have hp : List.isPrefixOf [a] (x :: A) = false := by simp [List.isPrefixOf]; exact h.1
    rw [Lib.index, hp, index_none a A h.2]; simp

theorem split_at (s : ByteArray) (A B : List UInt8) (h : s.data.toList = A ++ 58 :: B) (ha : (58 : UInt8) ∉ A) :
    splitS s = if plainS ⟨A.toArray⟩ = true ∧ plainS ⟨B.toArray⟩ = true then (⟨A.toArray⟩, ⟨B.toArray⟩, 0) else (⟨#[]⟩, ⟨#[]⟩, 6) := by
  have hc : Lib.cut s.data.toList [58] = (A, B, true) := by
    unfold Lib.cut
    rw [h, index_skip 58 A B ha]
    simp
  unfold splitS
  rw [hc]
  simp
theorem split_none (s : ByteArray) (h : (58 : UInt8) ∉ s.data.toList) : splitS s = if plainS s = true then (⟨#[]⟩, s, 0) else (⟨#[]⟩, ⟨#[]⟩, 6) := by
  have hc : Lib.cut s.data.toList [58] = (s.data.toList, [], false) := by
    unfold Lib.cut
    rw [index_none 58 _ h]
    simp
  unfold splitS
  rw [hc]
  simp

theorem mk_data (s : ByteArray) : (⟨s.data.toList.toArray⟩ : ByteArray) = s := by cases s; rfl

/-- A prefix and a name behind it, a colon between. -/
theorem split_colon (s t : ByteArray) : splitS (s ++ ⟨#[58]⟩ ++ t) = if plainS s = true ∧ plainS t = true then (s, t, 0) else (⟨#[]⟩, ⟨#[]⟩, 6) := by
  have hl : (s ++ ⟨#[58]⟩ ++ t).data.toList = s.data.toList ++ 58 :: t.data.toList := by simp [ByteArray.data_append]
  by_cases hm : (58 : UInt8) ∈ s.data.toList
  · obtain ⟨A, B, hAB, hA⟩ := List.eq_append_cons_of_mem hm
    have hno : plainS s = false := by
      cases h : plainS s
      · rfl
      · exact absurd hm (plain_no58 s h)
    have hno2 : plainS ⟨(B ++ 58 :: t.data.toList).toArray⟩ = false := by
      cases h : plainS ⟨(B ++ 58 :: t.data.toList).toArray⟩
      · rfl
      · exact absurd (by simp) (plain_no58 _ h)
    rw [split_at _ A (B ++ 58 :: t.data.toList) (by rw [hl, hAB]; simp) hA, hno, hno2]
    simp
  · rw [split_at _ _ _ hl hm, mk_data, mk_data]
theorem split_plain (s : ByteArray) (h : plainS s = true) : splitS s = (⟨#[]⟩, s, 0) := by rw [split_none s (plain_no58 s h), if_pos h]
theorem split_two (s t u : ByteArray) : splitS (s ++ ⟨#[58]⟩ ++ t ++ ⟨#[58]⟩ ++ u) = (⟨#[]⟩, ⟨#[]⟩, 6) := by
  rw [show s ++ ⟨#[58]⟩ ++ t ++ ⟨#[58]⟩ ++ u = s ++ ⟨#[58]⟩ ++ (t ++ ⟨#[58]⟩ ++ u) from by simp only [ByteArray.append_assoc], split_colon]
  have : plainS (t ++ ⟨#[58]⟩ ++ u) = false := by
    cases h : plainS (t ++ ⟨#[58]⟩ ++ u)
    · rfl
    · exact absurd (by simp [ByteArray.data_append]) (plain_no58 _ h)
  rw [this]; simp
end Go.Proofs.YtojeclfcgnamoaaDoor

namespace Go.Proofs.YtojeclfcgnamoaaDoor
open Go.Lib

theorem decodeN_cut (n n' b0 b1 b2 b3 c1 c2 c3 : Nat) (hn : n' ≤ n) (hw : (decodeN n b0 b1 b2 b3).2 ≤ n') (h1 : 1 < n' → c1 = b1) (h2 : 2 < n' → c2 = b2) (h3 : 3 < n' → c3 = b3) (ok : okD (decodeN n b0 b1 b2 b3)) :
    decodeN n' b0 c1 c2 c3 = decodeN n b0 b1 b2 b3 := by
  unfold okD at ok
  by_cases k1 : 1 < n'
  · obtain rfl := h1 k1
    by_cases k2 : 2 < n'
    · obtain rfl := h2 k2
      by_cases k3 : 3 < n'
      · obtain rfl := h3 k3
        unfold decodeN at ok hw ⊢
        grind
      · unfold decodeN at ok hw ⊢
        grind
    · unfold decodeN at ok hw ⊢
      grind
  · unfold decodeN at ok hw ⊢
    grind

theorem get_piece (s : ByteArray) (k j i : Nat) (hj : j ≤ s.size) (h : k + i < j) : (s.extract k j).get! i = s.get! (k + i) := by
  have h1 : i < (s.extract k j).data.size := by show i < (s.extract k j).size; simp; omega
  have h2 : k + i < s.size := by omega
  rw [get_bang _ _ h1, get_bang _ _ h2]
  simp

theorem decode_piece (s : ByteArray) (k : Nat) (h : k < s.size) (ok : okD (Utf8.decode s k)) :
    Utf8.decode (s.extract k (k + (Utf8.decode s k).2)) 0 = Utf8.decode s k := by
  have hf := decode_fits s k h
  have hp := decode_pos s k h
  obtain ⟨w, hw⟩ : ∃ w, (Utf8.decode s k).2 = w := ⟨_, rfl⟩
  rw [hw] at hf hp ⊢
  have hsz : (s.extract k (k + w)).size = w := by simp; omega
  rw [decode_at] at ok hw
  rw [decode_at, decode_at, hsz, get_piece s k (k + w) 0 hf (by omega), Nat.add_zero]
  refine decodeN_cut _ _ _ _ _ _ _ _ _ (by omega) (by omega) (fun h1 => ?_) (fun h1 => ?_) (fun h1 => ?_) ok
  · rw [get_piece s k (k + w) (0 + 1) hf (by omega), Nat.zero_add]
  · rw [get_piece s k (k + w) (0 + 2) hf (by omega), Nat.zero_add]
  · rw [get_piece s k (k + w) (0 + 3) hf (by omega), Nat.zero_add]

theorem runeN_width (s : ByteArray) (k : Nat) (h : k < s.size) (h0 : (runeN (Utf8.decode s k)).2 ≠ 0) : runeN (Utf8.decode s k) = (((Utf8.decode s k).1 : Int), ((Utf8.decode s k).2 : Int)) := by
  rcases runeN_cases s k h with ⟨_, _, h1⟩ | ⟨_, _, h1⟩ | ⟨_, _, _, h1⟩
  · exact absurd h1 h0
  · exact absurd h1 h0
  · exact h1

theorem chars_piece (s : ByteArray) (k : Nat) (h : k < s.size) (h0 : (runeN (Utf8.decode s k)).2 ≠ 0) :
    charsS (s.extract k (k + (Utf8.decode s k).2)) = some [((Utf8.decode s k).1 : Int)] := by
  have hd := decode_piece s k h (runeN_ok _ h0)
  have hr := runeN_width s k h h0
  have hf := decode_fits s k h
  have hp := decode_pos s k h
  have hsz : (s.extract k (k + (Utf8.decode s k).2)).size = (Utf8.decode s k).2 := by simp; omega
  show charsAt _ 0 = _
  rw [charsAt_step _ 0 (by omega), hd, hr]
  rw [if_neg (by show ¬ ((Utf8.decode s k).2 : Int) = 0; omega), charsAt_end _ _ (by simp; omega)]
  rfl

/-- The place is between characters: those ahead and those behind it. -/
def Pre (s : ByteArray) (k : Nat) : Prop := ∃ l1 l2, charsS (s.extract 0 k) = some l1 ∧ charsAt s k = some l2 ∧ listS firstC partC (l1 ++ l2) = true
theorem Pre.start (s : ByteArray) (h : plainS s = true) : Pre s 0 := by
  obtain ⟨c, l, hc, h1, h2⟩ := (plain_iff s).1 h
  refine ⟨[], c :: l, by rw [ByteArray.extract_same]; rfl, hc, ?_⟩
  simp only [List.nil_append, listS, h1, h2, Bool.and_self]
theorem Pre.step (s : ByteArray) (k : Nat) (h : Pre s k) (hk : k < s.size) : Pre s (k + (Utf8.decode s k).2) := by
  obtain ⟨l1, l2, h1, h2, h3⟩ := h
  rw [charsAt_step s k hk] at h2
  by_cases h0 : (runeN (Utf8.decode s k)).2 = 0
  · rw [if_pos h0] at h2; cases h2
  · rw [if_neg h0, runeN_width s k hk h0] at h2
    obtain ⟨l', h4, rfl⟩ := Option.map_eq_some_iff.1 h2
    have hp := chars_piece s k hk h0
    refine ⟨l1 ++ [((Utf8.decode s k).1 : Int)], l', ?_, by simpa using h4, by rw [List.append_assoc]; exact h3⟩
    have he : s.extract 0 (k + (Utf8.decode s k).2) = s.extract 0 k ++ s.extract k (k + (Utf8.decode s k).2) := by
      rw [ByteArray.extract_append_extract]; simp
    rw [he, chars_append _ _ l1 h1, hp]
    rfl
theorem Pre.plain (s : ByteArray) (k : Nat) (h : Pre s k) (h0 : 0 < k) (hk : k ≤ s.size) : plainS (s.extract 0 k) = true := by
  obtain ⟨l1, l2, h1, h2, h3⟩ := h
  cases l1 with
  | nil =>
    exfalso
    have hsz : (s.extract 0 k).size = k := by simp; omega
    have : charsAt (s.extract 0 k) 0 = some [] := h1
    rw [charsAt_step _ 0 (by omega)] at this
    split at this
    · cases this
    · obtain ⟨_, _, h⟩ := Option.map_eq_some_iff.1 this
      cases h
  | cons c l =>
    rw [plain_iff]
    simp only [List.cons_append, listS, Bool.and_eq_true, List.all_append] at h3
    exact ⟨c, l, h1, h3.1, h3.2.1⟩

theorem made_iff (p q : Int → Bool) (hp : ∀ c, p c = true → fineC c = true) (hq : ∀ c, q c = true → fineC c = true) (s : ByteArray) : madeS p q s = true ↔ ∃ c l, charsS s = some (c :: l) ∧ p c = true ∧ l.all q = true := by
  rw [made_chars p q hp hq]
  unfold charsB
  constructor
  · intro h
    split at h
    · cases h
    · rename_i l hl
      cases l with
      | nil => simp [listS] at h
      | cons c l =>
        refine ⟨c, l, hl, ?_⟩
        simpa [listS] using h
  · rintro ⟨c, l, hc, h1, h2⟩
    rw [hc]
    simp only [listS, h1, h2, Bool.and_self]

theorem chars_7 : charsS ⟨#[55]⟩ = some [55] := by decide +kernel
theorem chars_blank : charsS ⟨#[32]⟩ = some [32] := by decide +kernel
theorem first_55 : firstC 55 = false := by decide +kernel
theorem next_55 : nextC 55 = true := by decide +kernel
theorem part_55 : partC 55 = true := by decide +kernel
theorem part_32 : partC 32 = false := by decide +kernel
theorem first_32 : firstC 32 = false := by decide +kernel

theorem not_true {b : Bool} (h : b ≠ true) : b = false := by simpa using h

theorem plain_empty : plainS ⟨#[]⟩ = false := by decide +kernel
theorem plain_7 (s : ByteArray) (h : plainS s = true) : plainS (s ++ ⟨#[55]⟩) = true := by
  obtain ⟨c, l, hc, h1, h2⟩ := (plain_iff s).1 h
  rw [plain_iff]
  refine ⟨c, l ++ [55], by rw [chars_append _ _ _ hc, chars_7]; rfl, h1, ?_⟩
  rw [List.all_append, h2]; simp [part_55]
theorem made_first7 (p q : Int → Bool) (hp : ∀ c, p c = true → fineC c = true) (hq : ∀ c, q c = true → fineC c = true) (h55 : p 55 = false) (s : ByteArray) : madeS p q (⟨#[55]⟩ ++ s) = false := by
  refine not_true fun h => ?_
  obtain ⟨c, l, hc, h1, h2⟩ := (made_iff p q hp hq _).1 h
  rw [chars_append _ _ _ chars_7] at hc
  obtain ⟨l', _, he⟩ := Option.map_eq_some_iff.1 hc
  injection he with he1 he2
  rw [← he1, h55] at h1; cases h1
theorem plain_first7 (s : ByteArray) : plainS (⟨#[55]⟩ ++ s) = false := made_first7 _ _ fine_of_first fine_of_part first_55 s
theorem plain_blank (s : ByteArray) (h : plainS s = true) : plainS (s ++ ⟨#[32]⟩) = false := by
  obtain ⟨c, l, hc, _, _⟩ := (plain_iff s).1 h
  refine not_true fun h => ?_
  obtain ⟨c', l', hc', h1, h2⟩ := (plain_iff _).1 h
  rw [chars_append _ _ _ hc, chars_blank] at hc'
  have he : c :: (l ++ [32]) = c' :: l' := by simpa using hc'
  injection he with he1 he2
  rw [← he2] at h2
  simp [part_32] at h2

theorem word_made (s : ByteArray) (h : wordS s = true) : madeS firstC nextC s = true := by
  unfold wordS at h; rw [Bool.and_eq_true] at h; exact h.1
theorem word_iff (s : ByteArray) : madeS firstC nextC s = true ↔ ∃ c l, charsS s = some (c :: l) ∧ firstC c = true ∧ l.all nextC = true := made_iff _ _ fine_of_first fine_of_next s
theorem word_plain (s : ByteArray) (h : wordS s = true) : plainS s = true := by
  obtain ⟨c, l, hc, h1, h2⟩ := (word_iff s).1 (word_made s h)
  rw [plain_iff]
  refine ⟨c, l, hc, h1, List.all_eq_true.2 fun x hx => ?_⟩
  unfold partC
  rw [List.all_eq_true.1 h2 x hx]; rfl
theorem kw_7 (s : ByteArray) : isKw (s ++ ⟨#[55]⟩) = false := by
  unfold isKw
  rw [List.any_eq_false]
  intro l hl
  have hk : kwL.all (fun l => l.getLast? != some 55) = true := by decide +kernel
  have h1 := List.all_eq_true.1 hk l hl
  intro he
  have he2 : l = s.data.toList ++ [55] := by rw [eq_of_beq he]; simp [ByteArray.data_append]
  rw [he2] at h1
  simp at h1
theorem word_7 (s : ByteArray) (h : wordS s = true) : wordS (s ++ ⟨#[55]⟩) = true := by
  obtain ⟨c, l, hc, h1, h2⟩ := (word_iff s).1 (word_made s h)
  unfold wordS
  rw [kw_7]
  have : madeS firstC nextC (s ++ ⟨#[55]⟩) = true := by
    rw [word_iff]
    refine ⟨c, l ++ [55], by rw [chars_append _ _ _ hc, chars_7]; rfl, h1, ?_⟩
    rw [List.all_append, h2]; simp [next_55]
  rw [this]; rfl
theorem word_first7 (s : ByteArray) : wordS (⟨#[55]⟩ ++ s) = false := by
  unfold wordS
  rw [made_first7 _ _ fine_of_first fine_of_next first_55 s]; rfl

theorem parts_one (s : ByteArray) (h : (32 : UInt8) ∉ s.data.toList) : partsS s = [s] := by
  have : Lib.countB s ⟨#[32]⟩ = 0 := by
    show Lib.count s.data.toList [32] = 0
    rw [Lib.count_one, List.count_eq_zero.2 h]
  unfold partsS
  rw [this, Lib.splitB_zero]
theorem plain_no32 (s : ByteArray) (h : plainS s = true) : (32 : UInt8) ∉ s.data.toList := plain_no s 32 (by decide) (by decide +kernel) (by decide +kernel) h
theorem words_word (s : ByteArray) (h : wordS s = true) : wordsS s = some [s] := by
  unfold wordsS
  rw [parts_one s (plain_no32 s (word_plain s h))]
  simp [h]
end Go.Proofs.YtojeclfcgnamoaaDoor

namespace Go.Proofs.YtojeclfcgnamoaaDoor
open Go.Lib

theorem word_same (s : ByteArray) : rwordS s = wordS s := by
  unfold rwordS wordS
  rw [made_chars firstC nextC fine_of_first fine_of_next s]

def cutK : List UInt8 → List UInt8 → List (List UInt8)
  | [], x => [x]
  | c :: l, x => if c = 32 then x :: cutK l [] else cutK l (x ++ [c])
theorem cutL_data : ∀ (l : List UInt8) (x : ByteArray), (cutL l x).map (·.data.toList) = cutK l x.data.toList
  | [], x => rfl
  | c :: l, x => by
    unfold cutL cutK
    by_cases h : c = 32
    · rw [if_pos h, if_pos h, List.map_cons, cutL_data l]
    · rw [if_neg h, if_neg h, cutL_data l]
      simp [ByteArray.data_append]
theorem cutK_none : ∀ (A x : List UInt8), (32 : UInt8) ∉ A → cutK A x = [x ++ A]
  | [], x, _ => by simp [cutK]
  | c :: A, x, h => by
    rw [List.mem_cons, not_or] at h
    rw [cutK, if_neg (fun e => h.1 e.symm), cutK_none A _ h.2]
    simp
theorem cutK_hit : ∀ (A B x : List UInt8), (32 : UInt8) ∉ A → cutK (A ++ 32 :: B) x = (x ++ A) :: cutK B []
  | [], B, x, _ => by simp [cutK]
  | c :: A, B, x, h => by
    rw [List.mem_cons, not_or] at h
    rw [List.cons_append, cutK, if_neg (fun e => h.1 e.symm), cutK_hit A B _ h.2]
    simp
theorem splitK_cut : ∀ (k : Nat) (l : List UInt8), l.count 32 = k → Lib.splitK [32] 0 k l = cutK l []
  | 0, l, h => by
    rw [cutK_none l [] (List.count_eq_zero.1 h)]
    rfl
  | k + 1, l, h => by
    have hm : (32 : UInt8) ∈ l := List.count_pos_iff.1 (by omega)
    obtain ⟨A, B, rfl, hA⟩ := List.eq_append_cons_of_mem hm
    have hB : B.count 32 = k := by
      rw [List.count_append, List.count_eq_zero.2 hA, List.count_cons_self] at h
      omega
    unfold Lib.splitK
    rw [index_skip 32 A B hA, cutK_hit A B [] hA]
    have : (((A.length : Nat) : Int) == -1) = false := by simp
    rw [this]
    simp only [Bool.false_eq_true, if_false, Int.toNat_natCast, Nat.add_zero, List.length_cons, List.length_nil]
    have h2 : (A ++ 32 :: B).drop (A.length + 1) = B := by simp
    have h3 : (A ++ 32 :: B).take A.length = A := by simp
    simp [h2, h3, splitK_cut k B hB]

theorem data_inj {a b : List ByteArray} (h : a.map (·.data.toList) = b.map (·.data.toList)) : a = b :=
  (List.map_inj_right (fun x y hxy => by cases x; cases y; simp only [ByteArray.mk.injEq]; exact Array.ext' hxy)).1 h
theorem parts_same (s : ByteArray) : rpartsS s = partsS s := by
  refine data_inj ?_
  unfold rpartsS partsS
  rw [cutL_data, Lib.splitB_data]
  refine (splitK_cut _ _ ?_).symm
  show _ = Lib.count s.data.toList [32]
  rw [Lib.count_one]
theorem words_same (s : ByteArray) : rwordsS s = wordsS s := by
  unfold rwordsS wordsS
  rw [parts_same]
  congr 2
  · congr 1
    funext x
    exact word_same x
end Go.Proofs.YtojeclfcgnamoaaDoor
