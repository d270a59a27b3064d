/-
  The plain laws of names: what the program's functions answer is what the document's do.
  Plain laws on a text's characters: texts behind each other, beginnings, bytes below 128.
  Plain laws of names: prefixes, and texts behind each other.
  Plain laws of names: beginnings, a digit behind and ahead, words.
  Plain laws of names: words.
-/
import Derived.Test.YtbcdbefogfmhfaaGreatDoorMR
import Derived.Test.YtbcdbefogfmhfaaGreatDoorMK
namespace Go.Proofs.YtbcdbefogfmhfaaGreatDoor
theorem runeN_cases (s : ByteArray) (pos : Nat) (h : pos < s.size) :
    ((Utf8.decode s pos).1 = 65533 ∧ (Utf8.decode s pos).2 < 2 ∧ (runeN (Utf8.decode s pos)).2 = 0) ∨
    (¬ ((Utf8.decode s pos).1 = 65533 ∧ (Utf8.decode s pos).2 < 2) ∧ fineC (Utf8.decode s pos).1 = false ∧ (runeN (Utf8.decode s pos)).2 = 0) ∨
    (¬ ((Utf8.decode s pos).1 = 65533 ∧ (Utf8.decode s pos).2 < 2) ∧ fineC (Utf8.decode s pos).1 = true ∧ (runeN (Utf8.decode s pos)).2 ≠ 0 ∧ runeN (Utf8.decode s pos) = (((Utf8.decode s pos).1 : Int), ((Utf8.decode s pos).2 : Int))) := by
  have hp := decode_pos s pos h
  unfold runeN
  by_cases h1 : (Utf8.decode s pos).1 = 65533 ∧ (Utf8.decode s pos).2 < 2
  · exact .inl ⟨h1.1, h1.2, by rw [if_pos (.inl h1)]⟩
  · by_cases h2 : fineC (Utf8.decode s pos).1 = false
    · exact .inr (.inl ⟨h1, h2, by rw [if_pos (.inr h2)]⟩)
    · have h3 : ¬ ((Utf8.decode s pos).1 = 65533 ∧ (Utf8.decode s pos).2 < 2 ∨ fineC (Utf8.decode s pos).1 = false) := fun h => h.elim h1 h2
      refine .inr (.inr ⟨h1, by simpa using h2, ?_, ?_⟩)
      · rw [if_neg h3]; show ((Utf8.decode s pos).2 : Int) ≠ 0; omega
      · rw [if_neg h3]
theorem scan_chars (s : ByteArray) (q : Int → Bool) (hq : ∀ c, q c = true → fineC c = true) : ∀ b pos (p : Int → Bool), (∀ c, p c = true → fineC c = true) → s.size ≤ pos + b →
    match charsF s b pos with
    | none => scanG s q b pos p = false
    | some [] => scanG s q b pos p = true ∧ ¬ pos < s.size
    | some (c :: l) => scanG s q b pos p = (p c && l.all q) ∧ pos < s.size
  | 0, pos, p, hp, hb => by simp [charsF, scanG]; omega
  | b + 1, pos, p, hp, hb => by
    by_cases hlt : pos < s.size
    · rcases runeN_cases s pos hlt with ⟨h1, h2, h3⟩ | ⟨h1, h2, h3⟩ | ⟨h1, h2, h3, h4⟩
      · rw [charsF_bad s (b + 1) pos hlt hb h3]
        exact scanG_bad s q p (b + 1) pos hlt hb ⟨h1, h2⟩
      · rw [charsF_bad s (b + 1) pos hlt hb h3]
        refine scanG_no s q p (b + 1) pos hlt hb ?_
        cases hpc : p ((Utf8.decode s pos).1 : Int)
        · rfl
        · rw [hp _ hpc] at h2; cases h2
      · have hw := decode_pos s pos hlt
        rw [h4] at h3
        unfold charsF scanG
        rw [if_pos hlt, if_pos hlt, if_neg h1, h4, if_neg h3]
        have ih := scan_chars s q hq b (pos + (Utf8.decode s pos).2) q hq (by omega)
        simp only [Int.toNat_natCast]
        rcases hcf : charsF s b (pos + (Utf8.decode s pos).2) with _ | ⟨_ | ⟨c, l⟩⟩
        · rw [hcf] at ih
          show (if _ then _ else _) = false
          rw [ih]; simp
        · rw [hcf] at ih
          show (if _ then _ else _) = _ ∧ _
          rw [ih.1]; simp; exact hlt
        · rw [hcf] at ih
          show (if _ then _ else _) = _ ∧ _
          rw [ih.1]; simp only [Bool.if_false_right, Bool.decide_eq_true, List.all_cons]; exact ⟨trivial, hlt⟩
    · rw [charsF_end s (b + 1) pos hlt]
      exact ⟨scanG_end s q p (b + 1) pos hlt, hlt⟩
theorem made_chars (p q : Int → Bool) (hp : ∀ c, p c = true → fineC c = true) (hq : ∀ c, q c = true → fineC c = true) (s : ByteArray) : madeS p q s = charsB p q s := by
  have h := scan_chars s q hq s.size 0 p hp (by omega)
  unfold madeS charsB charsS
  have he : s.toList.isEmpty = decide (s.size = 0) := by
    rw [Lib.toList_data]
    have : s.size = s.data.toList.length := rfl
    rw [this]
    cases s.data.toList <;> simp
  rw [he]
  rcases hc : charsF s s.size 0 with _ | ⟨_ | ⟨c, l⟩⟩
  · rw [hc] at h; simp [h]
  · rw [hc] at h
    have hz : s.size = 0 := by have := h.2; omega
    rw [h.1]; simp [listS, hz]
  · rw [hc] at h; rw [h.1]
    have : ¬ s.size = 0 := by omega
    simp [listS, this]
theorem plain_same (s : ByteArray) : plainS s = rplainS s := made_chars _ _ fine_of_first fine_of_part s
end Go.Proofs.YtbcdbefogfmhfaaGreatDoor

namespace Go.Proofs.YtbcdbefogfmhfaaGreatDoor
open Go.Lib
/-- A character that is one: the decoder told it, and did not tell an error. -/
def okD (d : Nat × Nat) : Prop := ¬ (d.1 = 65533 ∧ d.2 < 2)
theorem decodeN_mono (n n' b0 b1 b2 b3 c1 c2 c3 : Nat) (hn : n ≤ n') (h1 : 1 < n → c1 = b1) (h2 : 2 < n → c2 = b2) (h3 : 3 < n → c3 = b3) (ok : okD (decodeN n b0 b1 b2 b3)) :
    decodeN n' b0 c1 c2 c3 = decodeN n b0 b1 b2 b3 := by
  unfold okD at ok
  by_cases k1 : 1 < n
  · obtain rfl := h1 k1
    by_cases k2 : 2 < n
    · obtain rfl := h2 k2
      by_cases k3 : 3 < n
      · obtain rfl := h3 k3
        unfold decodeN at ok ⊢
        grind
      · unfold decodeN at ok ⊢
        grind
    · unfold decodeN at ok ⊢
      grind
  · unfold decodeN at ok ⊢
    grind
theorem get_append_left (s t : ByteArray) (i : Nat) (h : i < s.size) : (s ++ t).get! i = s.get! i := by
  have h2 : i < (s ++ t).data.size := by show i < (s ++ t).size; simp; omega
  rw [get_bang _ _ h2, get_bang _ _ h]
  have h3 : i < s.data.size := h
  simp only [ByteArray.data_append, Array.getElem_append]
  exact dif_pos h3
theorem get_append_right (s t : ByteArray) (i : Nat) (h : i < t.size) : (s ++ t).get! (s.size + i) = t.get! i := by
  have h2 : s.size + i < (s ++ t).data.size := by show s.size + i < (s ++ t).size; simp; omega
  rw [get_bang _ _ h2, get_bang _ _ h]
  simp [ByteArray.data_append]
theorem get_over (s : ByteArray) (i : Nat) (h : s.size ≤ i) : s.get! i = 0 := by
  have : ¬ i < s.data.size := by show ¬ i < s.size; omega
  unfold ByteArray.get!
  simp [getElem!_def, Array.getElem?_eq_none (by omega : s.data.size ≤ i)]
  rfl
theorem get_append_right' (s t : ByteArray) (i : Nat) : (s ++ t).get! (s.size + i) = t.get! i := by
  by_cases h : i < t.size
  · exact get_append_right s t i h
  · rw [get_over t i (by omega), get_over _ _ (by simp; omega)]
theorem decode_append (s t : ByteArray) (pos : Nat) (h : pos < s.size) (ok : okD (Utf8.decode s pos)) : Utf8.decode (s ++ t) pos = Utf8.decode s pos := by
  rw [decode_at] at ok
  rw [decode_at, decode_at, get_append_left s t pos h]
  refine decodeN_mono _ _ _ _ _ _ _ _ _ (by simp; omega) (fun h1 => ?_) (fun h1 => ?_) (fun h1 => ?_) ok
  · rw [get_append_left s t _ (by omega)]
  · rw [get_append_left s t _ (by omega)]
  · rw [get_append_left s t _ (by omega)]
theorem decode_shift (s t : ByteArray) (pos : Nat) : Utf8.decode (s ++ t) (s.size + pos) = Utf8.decode t pos := by
  rw [decode_at, decode_at, get_append_right', Nat.add_assoc, Nat.add_assoc, Nat.add_assoc, get_append_right', get_append_right', get_append_right']
  congr 1
  simp; omega
theorem runeN_ok (d : Nat × Nat) (h : (runeN d).2 ≠ 0) : okD d := by
  unfold runeN at h
  unfold okD
  intro hb
  rw [if_pos (.inl hb)] at h
  exact h rfl
/-- The fuel plays no part. -/
theorem charsF_fuel (s : ByteArray) : ∀ b b' pos, s.size ≤ pos + b → s.size ≤ pos + b' → charsF s b pos = charsF s b' pos
  | 0, b', pos, h, h' => by rw [charsF_end s b' pos (by omega)]; rfl
  | b + 1, 0, pos, h, h' => by rw [charsF_end s (b + 1) pos (by omega)]; rfl
  | b + 1, b' + 1, pos, h, h' => by
    unfold charsF
    by_cases hp : pos < s.size
    · rw [if_pos hp, if_pos hp]
      by_cases h0 : (runeN (Utf8.decode s pos)).2 = 0
      · rw [if_pos h0, if_pos h0]
      · rw [if_neg h0, if_neg h0]
        have := runeN_snd s pos hp
        rw [charsF_fuel s b b' _ (by omega) (by omega)]
    · rw [if_neg hp, if_neg hp]
theorem charsF_succ (s : ByteArray) (b pos : Nat) : charsF s (b + 1) pos = if pos < s.size then if (runeN (Utf8.decode s pos)).2 = 0 then none else (charsF s b (pos + (runeN (Utf8.decode s pos)).2.toNat)).map ((runeN (Utf8.decode s pos)).1 :: ·) else some [] := rfl
/-- The characters from a place on. -/
def charsAt (s : ByteArray) (pos : Nat) : Option (List Int) := charsF s s.size pos
theorem charsAt_end (s : ByteArray) (pos : Nat) (h : s.size ≤ pos) : charsAt s pos = some [] := charsF_end s _ pos (by omega)
theorem charsAt_step (s : ByteArray) (pos : Nat) (h : pos < s.size) :
    charsAt s pos = if (runeN (Utf8.decode s pos)).2 = 0 then none else (charsAt s (pos + (runeN (Utf8.decode s pos)).2.toNat)).map ((runeN (Utf8.decode s pos)).1 :: ·) := by
  unfold charsAt
  obtain ⟨b, hb⟩ : ∃ b, s.size = b + 1 := ⟨s.size - 1, by omega⟩
  rw [show charsF s s.size pos = charsF s (b + 1) pos from by rw [hb], charsF_succ, if_pos h]
  by_cases h0 : (runeN (Utf8.decode s pos)).2 = 0
  · rw [if_pos h0, if_pos h0]
  · rw [if_neg h0, if_neg h0]
    have := runeN_snd s pos h
    rw [charsF_fuel s b s.size _ (by omega) (by omega)]
theorem chars_shift (s t : ByteArray) : ∀ k pos, t.size = pos + k → charsAt (s ++ t) (s.size + pos) = charsAt t pos := by
  intro k
  induction k using Nat.strongRecOn with
  | _ k ih =>
    intro pos hk
    by_cases hp : pos < t.size
    · rw [charsAt_step t pos hp, charsAt_step _ _ (by simp; omega), decode_shift]
      by_cases h0 : (runeN (Utf8.decode t pos)).2 = 0
      · rw [if_pos h0, if_pos h0]
      · rw [if_neg h0, if_neg h0]
        have h1 := runeN_snd t pos hp
        have h2 := runeN_fits t pos hp
        rw [Nat.add_assoc, ih (t.size - (pos + (runeN (Utf8.decode t pos)).2.toNat)) (by omega) _ (by omega)]
    · rw [charsAt_end t pos (by omega), charsAt_end _ _ (by simp; omega)]
theorem chars_app_at (s t : ByteArray) : ∀ k pos l, s.size = pos + k → charsAt s pos = some l → charsAt (s ++ t) pos = (charsAt t 0).map (l ++ ·) := by
  intro k
  induction k using Nat.strongRecOn with
  | _ k ih =>
    intro pos l hk hl
    by_cases hp : pos < s.size
    · rw [charsAt_step s pos hp] at hl
      by_cases h0 : (runeN (Utf8.decode s pos)).2 = 0
      · rw [if_pos h0] at hl; cases hl
      · rw [if_neg h0] at hl
        obtain ⟨l', h3, rfl⟩ := Option.map_eq_some_iff.1 hl
        have h1 := runeN_snd s pos hp
        have h2 := runeN_fits s pos hp
        rw [charsAt_step _ pos (by simp; omega), decode_append s t pos hp (runeN_ok _ h0), if_neg h0, ih (s.size - (pos + (runeN (Utf8.decode s pos)).2.toNat)) (by omega) _ l' (by omega) h3]
        cases charsAt t 0 <;> simp
    · obtain rfl : pos = s.size := by omega
      rw [charsAt_end s _ (Nat.le_refl _)] at hl
      cases hl
      have := chars_shift s t t.size 0 (by omega)
      rw [Nat.add_zero] at this
      rw [this]
      cases charsAt t 0 <;> simp
/-- Two texts behind each other have the characters of both, if the first one is right. -/
theorem chars_append (s t : ByteArray) (l : List Int) (h : charsS s = some l) : charsS (s ++ t) = (charsS t).map (l ++ ·) := chars_app_at s t s.size 0 l (by omega) h
end Go.Proofs.YtbcdbefogfmhfaaGreatDoor

namespace Go.Proofs.YtbcdbefogfmhfaaGreatDoor
open Go.Lib
theorem plain_iff (s : ByteArray) : plainS s = true ↔ ∃ c l, charsS s = some (c :: l) ∧ firstC c = true ∧ l.all partC = true := by
  rw [plain_same]
  unfold rplainS charsB
  constructor
  · intro h
    split at h
    · cases h
    · rename_i l hl
      cases l with
      | nil => simp [listS] at h
      | cons c l =>
        refine ⟨c, l, hl, ?_⟩
        simpa [listS] using h
  · rintro ⟨c, l, hc, h1, h2⟩
    rw [hc]
    simp only [listS, h1, h2, Bool.and_self]
theorem index_skip (a : UInt8) : ∀ (A B : List UInt8), a ∉ A → Lib.index (A ++ a :: B) [a] = A.length
  | [], B, _ => by simp [Lib.index, List.isPrefixOf]
  | x :: A, B, h => by
    rw [List.mem_cons, not_or] at h
    have ih := index_skip a A B h.2
    have hp : List.isPrefixOf [a] (x :: (A ++ a :: B)) = false := by simp [List.isPrefixOf]; exact h.1
    rw [List.cons_append, Lib.index, hp, ih]
    have : (((A.length : Nat) : Int) == -1) = false := by simp
    rw [this]; simp
theorem mk_data (s : ByteArray) : (⟨s.data.toList.toArray⟩ : ByteArray) = s := by cases s; rfl
end Go.Proofs.YtbcdbefogfmhfaaGreatDoor

namespace Go.Proofs.YtbcdbefogfmhfaaGreatDoor
open Go.Lib
theorem not_true {b : Bool} (h : b ≠ true) : b = false := by simpa using h
end Go.Proofs.YtbcdbefogfmhfaaGreatDoor

namespace Go.Proofs.YtbcdbefogfmhfaaGreatDoor
open Go.Lib
def cutK : List UInt8 → List UInt8 → List (List UInt8)
  | [], x => [x]
  | c :: l, x => if c = 32 then x :: cutK l [] else cutK l (x ++ [c])
theorem cutL_data : ∀ (l : List UInt8) (x : ByteArray), (cutL l x).map (·.data.toList) = cutK l x.data.toList
  | [], x => rfl
  | c :: l, x => by
    unfold cutL cutK
    by_cases h : c = 32
    · rw [if_pos h, if_pos h, List.map_cons, cutL_data l]
    · rw [if_neg h, if_neg h, cutL_data l]
      simp [ByteArray.data_append]
theorem cutK_none : ∀ (A x : List UInt8), (32 : UInt8) ∉ A → cutK A x = [x ++ A]
  | [], x, _ => by simp [cutK]
  | c :: A, x, h => by
    rw [List.mem_cons, not_or] at h
    rw [cutK, if_neg (fun e => h.1 e.symm), cutK_none A _ h.2]
    simp
theorem cutK_hit : ∀ (A B x : List UInt8), (32 : UInt8) ∉ A → cutK (A ++ 32 :: B) x = (x ++ A) :: cutK B []
  | [], B, x, _ => by simp [cutK]
  | c :: A, B, x, h => by
    rw [List.mem_cons, not_or] at h
    rw [List.cons_append, cutK, if_neg (fun e => h.1 e.symm), cutK_hit A B _ h.2]
    simp
theorem splitK_cut : ∀ (k : Nat) (l : List UInt8), l.count 32 = k → Lib.splitK [32] 0 k l = cutK l []
  | 0, l, h => by
    rw [cutK_none l [] (List.count_eq_zero.1 h)]
    rfl
  | k + 1, l, h => by
    have hm : (32 : UInt8) ∈ l := List.count_pos_iff.1 (by omega)
    obtain ⟨A, B, rfl, hA⟩ := List.eq_append_cons_of_mem hm
    have hB : B.count 32 = k := by
      rw [List.count_append, List.count_eq_zero.2 hA, List.count_cons_self] at h
      omega
    unfold Lib.splitK
    rw [index_skip 32 A B hA, cutK_hit A B [] hA]
    have : (((A.length : Nat) : Int) == -1) = false := by simp
    rw [this]
    simp only [Bool.false_eq_true, if_false, Int.toNat_natCast, Nat.add_zero, List.length_cons, List.length_nil]
    have h2 : (A ++ 32 :: B).drop (A.length + 1) = B := by simp
    have h3 : (A ++ 32 :: B).take A.length = A := by simp
    simp [h2, h3, splitK_cut k B hB]
theorem data_inj {a b : List ByteArray} (h : a.map (·.data.toList) = b.map (·.data.toList)) : a = b :=
  (List.map_inj_right (fun x y hxy => by cases x; cases y; simp only [ByteArray.mk.injEq]; exact Array.ext' hxy)).1 h
theorem parts_same (s : ByteArray) : rpartsS s = partsS s := by
  refine data_inj ?_
  unfold rpartsS partsS
  rw [cutL_data, Lib.splitB_data]
  refine (splitK_cut _ _ ?_).symm
  show _ = Lib.count s.data.toList [32]
  rw [Lib.count_one]
end Go.Proofs.YtbcdbefogfmhfaaGreatDoor
