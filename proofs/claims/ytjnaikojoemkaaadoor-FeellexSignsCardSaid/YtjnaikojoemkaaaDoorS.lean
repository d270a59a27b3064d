/-
  Plain laws on a text's characters: texts behind each other, beginnings, bytes below 128.
-/
import Derived.Test.YtjnaikojoemkaaaDoorR
namespace Go.Proofs.YtjnaikojoemkaaaDoor
open Go.Lib

/-- A character that is one: the decoder told it, and did not tell an error. -/
def okD (d : Nat × Nat) : Prop := ¬ (d.1 = 65533 ∧ d.2 < 2)

theorem decodeN_mono (n n' b0 b1 b2 b3 c1 c2 c3 : Nat) (hn : n ≤ n') (h1 : 1 < n → c1 = b1) (h2 : 2 < n → c2 = b2) (h3 : 3 < n → c3 = b3) (ok : okD (decodeN n b0 b1 b2 b3)) :
    decodeN n' b0 c1 c2 c3 = decodeN n b0 b1 b2 b3 := by
  unfold okD at ok
  by_cases k1 : 1 < n
  · obtain rfl := h1 k1
    by_cases k2 : 2 < n
    · obtain rfl := h2 k2
      by_cases k3 : 3 < n
      · obtain rfl := h3 k3
        unfold decodeN at ok ⊢
        grind
      · unfold decodeN at ok ⊢
        grind
    · unfold decodeN at ok ⊢
      grind
  · unfold decodeN at ok ⊢
    grind

theorem get_append_left (s t : ByteArray) (i : Nat) (h : i < s.size) : (s ++ t).get! i = s.get! i := by
  have h2 : i < (s ++ t).data.size := by show i < (s ++ t).size; simp; omega
  rw [get_bang _ _ h2, get_bang _ _ h]
  have h3 : i < s.data.size := h
  simp only [ByteArray.data_append, Array.getElem_append]
  exact dif_pos h3
theorem get_append_right (s t : ByteArray) (i : Nat) (h : i < t.size) : (s ++ t).get! (s.size + i) = t.get! i := by
  have h2 : s.size + i < (s ++ t).data.size := by show s.size + i < (s ++ t).size; simp; omega
  rw [get_bang _ _ h2, get_bang _ _ h]
  simp [ByteArray.data_append]
theorem get_over (s : ByteArray) (i : Nat) (h : s.size ≤ i) : s.get! i = 0 := by
  have : ¬ i < s.data.size := by show ¬ i < s.size; omega
  unfold ByteArray.get!
  simp [getElem!_def, Array.getElem?_eq_none (by omega : s.data.size ≤ i)]
  rfl
theorem get_append_right' (s t : ByteArray) (i : Nat) : (s ++ t).get! (s.size + i) = t.get! i := by
  by_cases h : i < t.size
  · exact get_append_right s t i h
  · rw [get_over t i (by omega), get_over _ _ (by simp; omega)]

theorem decode_append (s t : ByteArray) (pos : Nat) (h : pos < s.size) (ok : okD (Utf8.decode s pos)) : Utf8.decode (s ++ t) pos = Utf8.decode s pos := by
  rw [decode_at] at ok
  rw [decode_at, decode_at, get_append_left s t pos h]
  refine decodeN_mono _ _ _ _ _ _ _ _ _ (by simp; omega) (fun h1 => ?_) (fun h1 => ?_) (fun h1 => ?_) ok
  · rw [get_append_left s t _ (by omega)]
  · rw [get_append_left s t _ (by omega)]
  · rw [get_append_left s t _ (by omega)]
theorem decode_shift (s t : ByteArray) (pos : Nat) : Utf8.decode (s ++ t) (s.size + pos) = Utf8.decode t pos := by
  rw [decode_at, decode_at, get_append_right', Nat.add_assoc, Nat.add_assoc, Nat.add_assoc, get_append_right', get_append_right', get_append_right']
  congr 1
  simp; omega

theorem runeN_ok (d : Nat × Nat) (h : (runeN d).2 ≠ 0) : okD d := by
  unfold runeN at h
  unfold okD
  intro hb
  rw [if_pos (.inl hb)] at h
  exact h rfl

/-- The fuel plays no part. -/
theorem charsF_fuel (s : ByteArray) : ∀ b b' pos, s.size ≤ pos + b → s.size ≤ pos + b' → charsF s b pos = charsF s b' pos
  | 0, b', pos, h, h' => by rw [charsF_end s b' pos (by omega)]; rfl
  | b + 1, 0, pos, h, h' => by rw [charsF_end s (b + 1) pos (by omega)]; rfl
  | b + 1, b' + 1, pos, h, h' => by
    unfold charsF
    by_cases hp : pos < s.size
    · rw [if_pos hp, if_pos hp]
      by_cases h0 : (runeN (Utf8.decode s pos)).2 = 0
      · rw [if_pos h0, if_pos h0]
      · rw [if_neg h0, if_neg h0]
        have := runeN_snd s pos hp
        rw [charsF_fuel s b b' _ (by omega) (by omega)]
    · rw [if_neg hp, if_neg hp]
theorem charsF_succ (s : ByteArray) (b pos : Nat) : charsF s (b + 1) pos = if pos < s.size then if (runeN (Utf8.decode s pos)).2 = 0 then none else (charsF s b (pos + (runeN (Utf8.decode s pos)).2.toNat)).map ((runeN (Utf8.decode s pos)).1 :: ·) else some [] := rfl
/-- The characters from a place on. -/
def charsAt (s : ByteArray) (pos : Nat) : Option (List Int) := charsF s s.size pos
theorem charsAt_end (s : ByteArray) (pos : Nat) (h : s.size ≤ pos) : charsAt s pos = some [] := charsF_end s _ pos (by omega)
theorem charsAt_step (s : ByteArray) (pos : Nat) (h : pos < s.size) :
    charsAt s pos = if (runeN (Utf8.decode s pos)).2 = 0 then none else (charsAt s (pos + (runeN (Utf8.decode s pos)).2.toNat)).map ((runeN (Utf8.decode s pos)).1 :: ·) := by
  unfold charsAt
  obtain ⟨b, hb⟩ : ∃ b, s.size = b + 1 := ⟨s.size - 1, by omega⟩
  rw [show charsF s s.size pos = charsF s (b + 1) pos from by rw [hb], charsF_succ, if_pos h]
  by_cases h0 : (runeN (Utf8.decode s pos)).2 = 0
  · rw [if_pos h0, if_pos h0]
  · rw [if_neg h0, if_neg h0]
    have := runeN_snd s pos h
    rw [charsF_fuel s b s.size _ (by omega) (by omega)]

theorem chars_shift (s t : ByteArray) : ∀ k pos, t.size = pos + k → charsAt (s ++ t) (s.size + pos) = charsAt t pos := by
  intro k
  induction k using Nat.strongRecOn with
  | _ k ih =>
    intro pos hk
    by_cases hp : pos < t.size
    · rw [charsAt_step t pos hp, charsAt_step _ _ (by simp; omega), decode_shift]
      by_cases h0 : (runeN (Utf8.decode t pos)).2 = 0
      · rw [if_pos h0, if_pos h0]
      · rw [if_neg h0, if_neg h0]
        have h1 := runeN_snd t pos hp
        have h2 := runeN_fits t pos hp
        rw [Nat.add_assoc, ih (t.size - (pos + (runeN (Utf8.decode t pos)).2.toNat)) (by omega) _ (by omega)]
    · rw [charsAt_end t pos (by omega), charsAt_end _ _ (by simp; omega)]

theorem chars_app_at (s t : ByteArray) : ∀ k pos l, s.size = pos + k → charsAt s pos = some l → charsAt (s ++ t) pos = (charsAt t 0).map (l ++ ·) := by
  intro k
  induction k using Nat.strongRecOn with
  | _ k ih =>
    intro pos l hk hl
    by_cases hp : pos < s.size
    · rw [charsAt_step s pos hp] at hl
      by_cases h0 : (runeN (Utf8.decode s pos)).2 = 0
      · rw [if_pos h0] at hl; cases hl
      · rw [if_neg h0] at hl
        obtain ⟨l', h3, rfl⟩ := Option.map_eq_some_iff.1 hl
        have h1 := runeN_snd s pos hp
        have h2 := runeN_fits s pos hp
        rw [charsAt_step _ pos (by simp; omega), decode_append s t pos hp (runeN_ok _ h0), if_neg h0, ih (s.size - (pos + (runeN (Utf8.decode s pos)).2.toNat)) (by omega) _ l' (by omega) h3]
        cases charsAt t 0 <;> simp
    · obtain rfl : pos = s.size := by omega
      rw [charsAt_end s _ (Nat.le_refl _)] at hl
      cases hl
      have := chars_shift s t t.size 0 (by omega)
      rw [Nat.add_zero] at this
      rw [this]
      cases charsAt t 0 <;> simp

/-- Two texts behind each other have the characters of both, if the first one is right. -/
theorem chars_append (s t : ByteArray) (l : List Int) (h : charsS s = some l) : charsS (s ++ t) = (charsS t).map (l ++ ·) := chars_app_at s t s.size 0 l (by omega) h
theorem chars_append_none (s t : ByteArray) (l : List Int) (h : charsS s = some l) (h2 : charsS t = none) : charsS (s ++ t) = none := by rw [chars_append s t l h, h2]; rfl

theorem decode_bytes (s : ByteArray) (pos : Nat) (h : pos < s.size) (ok : okD (Utf8.decode s pos)) :
    ((Utf8.decode s pos).2 = 1 ∧ (Utf8.decode s pos).1 = (s.get! pos).toNat ∧ (s.get! pos).toNat < 128) ∨
    (∀ i, pos ≤ i → i < pos + (Utf8.decode s pos).2 → 128 ≤ (s.get! i).toNat) ∧ 128 ≤ (Utf8.decode s pos).1 := by
  rw [decode_at] at ok ⊢
  obtain ⟨b0, e0⟩ : ∃ x, (s.get! pos).toNat = x := ⟨_, rfl⟩
  obtain ⟨b1, e1⟩ : ∃ x, (s.get! (pos + 1)).toNat = x := ⟨_, rfl⟩
  obtain ⟨b2, e2⟩ : ∃ x, (s.get! (pos + 2)).toNat = x := ⟨_, rfl⟩
  obtain ⟨b3, e3⟩ : ∃ x, (s.get! (pos + 3)).toNat = x := ⟨_, rfl⟩
  rw [e0, e1, e2, e3] at ok ⊢
  have key : (decodeN (s.size - pos) b0 b1 b2 b3).2 = 1 ∧ (decodeN (s.size - pos) b0 b1 b2 b3).1 = b0 ∧ b0 < 128 ∨
      128 ≤ b0 ∧ 128 ≤ (decodeN (s.size - pos) b0 b1 b2 b3).1 ∧ (1 < (decodeN (s.size - pos) b0 b1 b2 b3).2 → 128 ≤ b1) ∧ (2 < (decodeN (s.size - pos) b0 b1 b2 b3).2 → 128 ≤ b2) ∧ (3 < (decodeN (s.size - pos) b0 b1 b2 b3).2 → 128 ≤ b3) ∧ (decodeN (s.size - pos) b0 b1 b2 b3).2 ≤ 4 := by
    unfold okD at ok
    unfold decodeN at ok ⊢
    grind
  rcases key with h1 | ⟨k0, kc, k1, k2, k3, k4⟩
  · exact .inl h1
  · refine .inr ⟨fun i hi hi2 => ?_, kc⟩
    have hcase : i = pos ∨ i = pos + 1 ∨ i = pos + 2 ∨ i = pos + 3 := by omega
    rcases hcase with rfl | rfl | rfl | rfl
    · rw [e0]; exact k0
    · rw [e1]; exact k1 (by omega)
    · rw [e2]; exact k2 (by omega)
    · rw [e3]; exact k3 (by omega)

/-- A byte below 128 stands for itself: what is no character of a right text is no byte of it. -/
theorem no_byte (s : ByteArray) (a : Nat) (ha : a < 128) : ∀ k pos l, s.size = pos + k → charsAt s pos = some l → (a : Int) ∉ l → ∀ i, pos ≤ i → i < s.size → (s.get! i).toNat ≠ a := by
  intro k
  induction k using Nat.strongRecOn with
  | _ k ih =>
    intro pos l hk hl hal i hi his
    have hp : pos < s.size := by omega
    rw [charsAt_step s pos hp] at hl
    by_cases h0 : (runeN (Utf8.decode s pos)).2 = 0
    · rw [if_pos h0] at hl; cases hl
    · rw [if_neg h0] at hl
      obtain ⟨l', h3, rfl⟩ := Option.map_eq_some_iff.1 hl
      have ok := runeN_ok _ h0
      have hcs : runeN (Utf8.decode s pos) = (((Utf8.decode s pos).1 : Int), ((Utf8.decode s pos).2 : Int)) := by
        rcases runeN_cases s pos hp with ⟨_, _, h⟩ | ⟨_, _, h⟩ | ⟨_, _, _, h⟩
        · exact absurd h h0
        · exact absurd h h0
        · exact h
      rw [hcs] at h3 hal
      simp only [Int.toNat_natCast, List.mem_cons, not_or] at h3 hal
      have h1 := decode_pos s pos hp
      by_cases hin : i < pos + (Utf8.decode s pos).2
      · rcases decode_bytes s pos hp ok with ⟨e1, e2, e3⟩ | ⟨hall, _⟩
        · obtain rfl : i = pos := by omega
          intro he
          exact hal.1 (by rw [e2, he])
        · have := hall i hi hin; omega
      · exact ih (s.size - (pos + (Utf8.decode s pos).2)) (by omega) _ l' (by have := decode_fits s pos hp; omega) h3 hal.2 i (by omega) his
end Go.Proofs.YtjnaikojoemkaaaDoor
