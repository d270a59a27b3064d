/-
  entity: what Escape writes, character by character (plain).
-/
import Derived.Test.YtojeclfcgnamoaaDoorDB
import Derived.Test.YtojeclfcgnamoaaDoorDX
namespace Go.Proofs.YtojeclfcgnamoaaDoor

theorem escC_high (v : Bool) (c : UInt8) (h : 128 ≤ c.toNat) : escC v c = [c] := by
  have hn : ∀ k : UInt8, k.toNat < 128 → c ≠ k := fun k hk e => by subst e; omega
  unfold escC
  rw [if_neg (hn 38 (by decide)), if_neg (hn 60 (by decide)), if_neg (hn 62 (by decide)), if_neg (hn 13 (by decide)), if_neg (fun e => hn 34 (by decide) e.2), if_neg (fun e => hn 9 (by decide) e.2), if_neg (fun e => hn 10 (by decide) e.2)]
theorem esc_flat_high (v : Bool) : ∀ l : List UInt8, (∀ c ∈ l, 128 ≤ c.toNat) → l.flatMap (escC v) = l
  | [], _ => rfl
  | c :: l, h => by rw [List.flatMap_cons, escC_high v c (h c (by simp)), esc_flat_high v l fun x hx => h x (by simp [hx])]; rfl
/-- What stands for a character. -/
def escO (v : Bool) (c : Nat) : Option (List UInt8) :=
  if c = 38 then some [38, 97, 109, 112, 59] else if c = 60 then some [38, 108, 116, 59] else if c = 62 then some [38, 103, 116, 59] else if c = 13 then some [38, 35, 49, 51, 59]
  else if v = true ∧ c = 34 then some [38, 113, 117, 111, 116, 59] else if v = true ∧ c = 9 then some [38, 35, 57, 59] else if v = true ∧ c = 10 then some [38, 35, 49, 48, 59] else none
theorem escO_one : ((List.range 256).all fun i => (escC true i.toUInt8 == (escO true i).getD [i.toUInt8]) && (escC false i.toUInt8 == (escO false i).getD [i.toUInt8])) = true := by decide +kernel
theorem escO_none (v : Bool) {c : Nat} (h : 128 ≤ c) : escO v c = none := by
  unfold escO
  rw [if_neg (by omega), if_neg (by omega), if_neg (by omega), if_neg (by omega), if_neg (by omega), if_neg (by omega), if_neg (by omega)]
theorem escO_le (v : Bool) (c : Nat) (l : List UInt8) (h : escO v c = some l) : l.length ≤ 6 := by
  unfold escO at h
  split at h
  · cases h; decide
  · split at h
    · cases h; decide
    · split at h
      · cases h; decide
      · split at h
        · cases h; decide
        · split at h
          · cases h; decide
          · split at h
            · cases h; decide
            · split at h
              · cases h; decide
              · cases h
theorem piece_e (v : Bool) (s : ByteArray) (pos : Nat) (hp : pos < s.size) (ok : okD (Utf8.decode s pos)) : (pieceL s pos).flatMap (escC v) = (escO v (Utf8.decode s pos).1).getD (pieceL s pos) := by
  rcases decode_bytes s pos hp ok with ⟨h1, h2, h3⟩ | ⟨h1, h2⟩
  · have e : pieceL s pos = [s.get! pos] := by unfold pieceL; rw [h1, byte_drop s pos hp]; rfl
    rw [e, h2]
    have h4 := List.all_eq_true.1 escO_one (s.get! pos).toNat (List.mem_range.2 (s.get! pos).toNat_lt)
    rw [show (s.get! pos).toNat.toUInt8 = s.get! pos from by simp] at h4
    simp only [Bool.and_eq_true, beq_iff_eq] at h4
    rw [List.flatMap_cons, List.flatMap_nil, List.append_nil]
    cases v
    · exact h4.2
    · exact h4.1
  · have hb : ∀ c ∈ pieceL s pos, 128 ≤ c.toNat := by
      intro c hc
      obtain ⟨j, hj⟩ := List.mem_iff_getElem?.1 hc
      unfold pieceL at hj
      rw [List.getElem?_take] at hj
      split at hj
      · rename_i hlt
        rw [List.getElem?_drop] at hj
        have h5 := h1 (pos + j) (by omega) (by have := decode_fits s pos hp; omega)
        have h6 : s.data.toList[pos + j]? = some (s.get! (pos + j)) := by
          have := decode_fits s pos hp
          rw [get_bang s (pos + j) (by have : s.data.size = s.size := rfl; omega)]
          simp
        rw [h6] at hj
        cases hj
        exact h5
      · cases hj
    rw [esc_flat_high v _ hb, escO_none v h2]
    rfl
def escT (v : Bool) (s : ByteArray) (pos : Nat) : List UInt8 := (s.data.toList.take pos).flatMap (escC v)
theorem escT_step (v : Bool) (s : ByteArray) (pos : Nat) (hp : pos < s.size) (ok : okD (Utf8.decode s pos)) : escT v s (pos + (Utf8.decode s pos).2) = escT v s pos ++ (escO v (Utf8.decode s pos).1).getD (pieceL s pos) := by
  rw [← piece_e v s pos hp ok]
  unfold escT pieceL
  rw [List.take_add, List.flatMap_append]
theorem escC_le (v : Bool) (c : UInt8) : (escC v c).length ≤ 6 := by
  unfold escC
  repeat' split
  all_goals simp
theorem escL_le (v : Bool) : ∀ l : List UInt8, (l.flatMap (escC v)).length ≤ 6 * l.length
  | [] => Nat.zero_le _
  | c :: l => by
    have := escC_le v c
    have := escL_le v l
    rw [List.flatMap_cons, List.length_append, List.length_cons]
    omega
theorem escT_end (v : Bool) (s : ByteArray) (pos : Nat) (h : s.size ≤ pos) : escT v s pos = escL v s := by
  unfold escT escL
  rw [List.take_of_length_le (by have : s.data.toList.length = s.size := rfl; omega)]
end Go.Proofs.YtojeclfcgnamoaaDoor
