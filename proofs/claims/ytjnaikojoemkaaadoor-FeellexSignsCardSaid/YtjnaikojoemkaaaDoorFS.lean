/-
  feellex: the document's answer: text.
-/
import Derived.Test.YtjnaikojoemkaaaDoorFR
import Derived.Test.YtjnaikojoemkaaaDoorP
namespace Go.Proofs.YtjnaikojoemkaaaDoor
open Go.RowKit

/-- What stands behind a \, by the document: the character's number (-1: none), how many bytes. -/
def rescS (s : ByteArray) (k : Nat) : Int × Nat :=
  if k + 1 < s.size then
    match escV (s.get! (k + 1)) with
    | some c => (c.toNat, 2)
    | none => if s.get! (k + 1) = 117 then (hexI s (k + 2), 6) else (-1, 2)
  else (-1, 2)
theorem escV_fine : ((List.range 256).all fun i => match escV i.toUInt8 with | some c => fineC c.toNat && ((putI c.toNat).map fun x => x.toNat.toUInt8) == [c] | none => true) = true := by decide +kernel
theorem escV_put (a c : UInt8) (h : escV a = some c) : fineC c.toNat = true ∧ putB c.toNat = ⟨#[c]⟩ := by
  have h1 := List.all_eq_true.1 escV_fine a.toNat (List.mem_range.2 a.toNat_lt)
  rw [show a.toNat.toUInt8 = a from by simp, h, Bool.and_eq_true] at h1
  refine ⟨h1.1, ?_⟩
  unfold putB
  rw [beq_iff_eq.1 h1.2]
theorem get_tail (s : ByteArray) (k j : Nat) (h : k + j < s.size) : (s.extract k s.size).get! j = s.get! (k + j) := get_extract s k j h
theorem fine_neg : fineC (-1) = false := by decide +kernel
theorem esc_same (s : ByteArray) (k : Nat) (hk : k < s.size) : escS (s.extract k s.size) = if fineC (rescS s k).1 = true then (putB (rescS s k).1, (rescS s k).2) else (⟨#[]⟩, 0) := by
  have hsz : (s.extract k s.size).size = s.size - k := by simp
  unfold escS rescS
  by_cases h1 : k + 1 < s.size
  · rw [if_neg (by omega), if_pos h1, get_tail s k 1 h1]
    cases hv : escV (s.get! (k + 1)) with
    | some c =>
      obtain ⟨h2, h3⟩ := escV_put _ _ hv
      simp only
      rw [if_pos h2, h3]
    | none =>
      simp only
      by_cases h117 : s.get! (k + 1) = 117
      · rw [if_pos h117]
        have hl : ((s.extract k s.size).extract 2 6).data.toList = (s.data.toList.drop (k + 2)).take 4 := by
          rw [show (6 : Nat) = 2 + 4 from rfl, extract_piece, tail_list, List.drop_drop]
        have hL : (s.data.toList.drop (k + 2)).length = s.size - (k + 2) := by simp
        rw [hl]
        unfold hexI
        simp only
        by_cases h4 : 4 ≤ (s.data.toList.drop (k + 2)).length ∧ ((s.data.toList.drop (k + 2)).take 4).all hexC = true
        · rw [if_pos ⟨h117, by omega, h4.2⟩, if_pos h4]
        · rw [if_neg (fun h => h4 ⟨by have := h.2.1; omega, h.2.2⟩), if_neg h4, if_neg (by rw [fine_neg]; decide)]
      · rw [if_neg h117, if_neg (fun h => h117 h.1), if_neg (by rw [fine_neg]; decide)]
  · rw [if_pos (by omega), if_neg h1]
    simp only
    rw [if_neg (by rw [fine_neg]; decide)]
theorem esc_good (s : ByteArray) (k : Nat) (hk : k < s.size) {C : Int} {n : Nat} (h : rescS s k = (C, n)) (hf : fineC C = true) : escS (s.extract k s.size) = (putB C, n) := by
  rw [esc_same s k hk, h, if_pos hf]
theorem esc_bad (s : ByteArray) (k : Nat) (hk : k < s.size) {C : Int} {n : Nat} (h : rescS s k = (C, n)) (hf : fineC C = false) : escS (s.extract k s.size) = (⟨#[]⟩, 0) := by
  rw [esc_same s k hk, h, if_neg (by rw [hf]; decide)]
/-- The cases of what stands behind a \, as the document's answer asks them. -/
theorem resc_cases (s : ByteArray) (k : Nat) (q : UInt8) (hq : s.get! (k + 1) = q) (h1 : k + 1 < s.size) :
    (((q.toNat : Int) == 34) = true ∧ rescS s k = ((q.toNat : Int), 2)) ∨
    (((q.toNat : Int) == 34) = false ∧ ((q.toNat : Int) == 92) = true ∧ rescS s k = ((q.toNat : Int), 2)) ∨
    (((q.toNat : Int) == 34) = false ∧ ((q.toNat : Int) == 92) = false ∧ ((q.toNat : Int) == 110) = true ∧ rescS s k = (10, 2)) ∨
    (((q.toNat : Int) == 34) = false ∧ ((q.toNat : Int) == 92) = false ∧ ((q.toNat : Int) == 110) = false ∧ ((q.toNat : Int) == 114) = true ∧ rescS s k = (13, 2)) ∨
    (((q.toNat : Int) == 34) = false ∧ ((q.toNat : Int) == 92) = false ∧ ((q.toNat : Int) == 110) = false ∧ ((q.toNat : Int) == 114) = false ∧ ((q.toNat : Int) == 116) = true ∧ rescS s k = (9, 2)) ∨
    (((q.toNat : Int) == 34) = false ∧ ((q.toNat : Int) == 92) = false ∧ ((q.toNat : Int) == 110) = false ∧ ((q.toNat : Int) == 114) = false ∧ ((q.toNat : Int) == 116) = false ∧ ((q.toNat : Int) == 117) = true ∧ rescS s k = (hexI s (k + 2), 6)) ∨
    (((q.toNat : Int) == 34) = false ∧ ((q.toNat : Int) == 92) = false ∧ ((q.toNat : Int) == 110) = false ∧ ((q.toNat : Int) == 114) = false ∧ ((q.toNat : Int) == 116) = false ∧ ((q.toNat : Int) == 117) = false ∧ rescS s k = (-1, 2)) := by
  have e : ∀ n : Nat, n < 256 → (((q.toNat : Int) == n) = true ↔ q = UInt8.ofNat n) := fun n hn => by
    rw [beq_iff_eq]
    constructor
    · intro h
      apply UInt8.toNat_inj.1
      simp
      omega
    · intro h
      rw [h]
      simp
      omega
  have f : ∀ n : Nat, n < 256 → (((q.toNat : Int) == n) = false ↔ q ≠ UInt8.ofNat n) := fun n hn => by
    rw [Bool.eq_false_iff, ne_eq, e n hn]
  unfold rescS
  rw [if_pos h1, hq]
  have E := fun n hn => e n hn
  by_cases a34 : q = 34
  · left; exact ⟨(e 34 (by omega)).2 a34, by subst a34; rfl⟩
  have n34 := (f 34 (by omega)).2 a34
  by_cases a92 : q = 92
  · right; left; exact ⟨n34, (e 92 (by omega)).2 a92, by subst a92; rfl⟩
  have n92 := (f 92 (by omega)).2 a92
  by_cases a110 : q = 110
  · right; right; left; exact ⟨n34, n92, (e 110 (by omega)).2 a110, by subst a110; rfl⟩
  have n110 := (f 110 (by omega)).2 a110
  by_cases a114 : q = 114
  · right; right; right; left; exact ⟨n34, n92, n110, (e 114 (by omega)).2 a114, by subst a114; rfl⟩
  have n114 := (f 114 (by omega)).2 a114
  by_cases a116 : q = 116
  · right; right; right; right; left; exact ⟨n34, n92, n110, n114, (e 116 (by omega)).2 a116, by subst a116; rfl⟩
  have n116 := (f 116 (by omega)).2 a116
  have hno : escV q = none := by unfold escV; rw [if_neg a34, if_neg a92, if_neg a110, if_neg a114, if_neg a116]
  rw [hno]
  by_cases a117 : q = 117
  · right; right; right; right; right; left; exact ⟨n34, n92, n110, n114, n116, (e 117 (by omega)).2 a117, by rw [if_pos a117]⟩
  · right; right; right; right; right; right; exact ⟨n34, n92, n110, n114, n116, (f 117 (by omega)).2 a117, by rw [if_neg a117]⟩

theorem hexI_le (s : ByteArray) (k : Nat) : -1 ≤ hexI s k ∧ hexI s k ≤ 65535 := by
  unfold hexI
  split
  · rename_i h
    have h1 := hexN_lt _ h.2
    have h2 : ((s.data.toList.drop k).take 4).length ≤ 4 := List.length_take_le _ _
    have h3 := Nat.lt_of_lt_of_le h1 (Nat.pow_le_pow_right (n := 16) (by omega) h2)
    constructor <;> omega
  · decide
/-- What the document's text answers, from what the program's answers. -/
def rtextR (i : Nat) (T : ByteArray × Nat × Nat) : Value := .tuple #[.string T.1, .int .i64 (if T.2.2 = 0 then (i + T.2.1 : Nat) else 0 : Nat), .int .i64 (if T.2.2 = 0 then 0 else (i + T.2.1 : Nat) : Nat), .int .i64 T.2.2]
theorem textF_bad (s : ByteArray) : ∀ b pos acc, (textF s b pos acc).2.2 ≠ 0 → (textF s b pos acc).1 = ⟨#[]⟩
  | 0, _, _, _ => rfl
  | b + 1, pos, acc, h => by
    unfold textF at h ⊢
    split at h
    · rename_i hp
      rw [if_pos hp]
      split at h
      · exact absurd rfl h
      · rename_i h34
        rw [if_neg h34]
        split at h
        · rename_i h92
          rw [if_pos h92]
          split at h
          · rename_i h0
            rw [if_pos h0]
          · rename_i h0
            rw [if_neg h0]
            exact textF_bad s b _ _ h
        · rename_i h92
          rw [if_neg h92]
          exact textF_bad s b _ _ h
    · rename_i hp
      rw [if_neg hp]

end Go.Proofs.YtjnaikojoemkaaaDoor
