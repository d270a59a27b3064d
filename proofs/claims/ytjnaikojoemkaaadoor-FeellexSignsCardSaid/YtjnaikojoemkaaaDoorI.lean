/-
  The plain law of Rune: what the document's answer reckons is the character that the text holds there.
-/
import Derived.Test.YtjnaikojoemkaaaDoorH
import Derived.Lib.RuneCountTail
import Derived.Lib.DecodeN
namespace Go.Proofs.YtjnaikojoemkaaaDoor
open Go.RowKit Go.Lib

def runeN (p : Nat × Nat) : Int × Int := if p.1 = 65533 ∧ p.2 < 2 ∨ fineC p.1 = false then (0, 0) else (p.1, p.2)

theorem plen_eq (c : Int) : plen c = if c < 128 then 1 else if c < 2048 then 2 else if c < 65536 then 3 else 4 := by
  unfold plen putI
  repeat' split
  all_goals rfl
theorem low1 (a : Int) : lowL 0 [a] = if a < 128 ∨ 191 < a then -1 else a - 128 := by
  simp only [lowL]; split <;> simp
theorem low2 (a b : Int) : lowL 0 [a, b] = if a < 128 ∨ 191 < a ∨ b < 128 ∨ 191 < b then -1 else 64 * (a - 128) + b - 128 := by
  simp only [lowL]; repeat' split
  all_goals omega
theorem low3 (a b c : Int) : lowL 0 [a, b, c] = if a < 128 ∨ 191 < a ∨ b < 128 ∨ 191 < b ∨ c < 128 ∨ 191 < c then -1 else 64 * (64 * (a - 128) + b - 128) + c - 128 := by
  simp only [lowL]; repeat' split
  all_goals omega

theorem rr1 (n b0 b1 b2 b3 : Nat) (h : b0 < 128) : runeN (decodeN n b0 b1 b2 b3) = rrS 1 b0 0 := by
  have : decodeN n b0 b1 b2 b3 = (b0, 1) := by unfold decodeN; rw [if_pos h]
  rw [this]; unfold runeN rrS; rw [plen_eq]
  simp only [Int.add_zero]
  grind
theorem rr2 (n b0 b1 b2 b3 : Nat) (h : 192 ≤ b0 ∧ b0 < 224) (hn : 2 ≤ n) (_h1 : b1 < 256) : runeN (decodeN n b0 b1 b2 b3) = rrS 2 (64 * ((b0 : Int) - 192)) (lowL 0 [(b1 : Int)]) := by
  rw [low1]
  unfold runeN rrS decodeN fineC
  rw [plen_eq]
  grind
theorem rrS_neg (k : Nat) (t L : Int) (h : L < 0) : rrS k t L = (0, 0) := by unfold rrS; rw [if_pos (Or.inl h)]
theorem big_eq (c k : Nat) (lo : Nat) (hk : k = 3 ∧ lo = 2048 ∧ c < 65536 ∨ k = 4 ∧ lo = 65536) (t L : Int) (hL : 0 ≤ L) (ht : t + L = c) :
    runeN (if c ≥ lo ∧ (c < 55296 ∨ (57344 ≤ c ∧ c ≤ 1114111)) then (c, k) else (65533, 1)) = rrS k t L := by
  unfold runeN rrS; rw [plen_eq, ht]
  by_cases hf : c ≥ lo ∧ (c < 55296 ∨ (57344 ≤ c ∧ c ≤ 1114111))
  · rw [if_pos hf]
    unfold fineC
    grind
  · rw [if_neg hf]
    unfold fineC
    grind
theorem rr3 (n b0 b1 b2 b3 : Nat) (h : 224 ≤ b0 ∧ b0 < 240) (hn : 3 ≤ n) (h1 : b1 < 256) (h2 : b2 < 256) : runeN (decodeN n b0 b1 b2 b3) = rrS 3 (64 * (64 * ((b0 : Int) - 224))) (lowL 0 [(b1 : Int), (b2 : Int)]) := by
  rw [low2]
  by_cases hc : 128 ≤ b1 ∧ b1 < 192 ∧ 128 ≤ b2 ∧ b2 < 192
  · have hd : decodeN n b0 b1 b2 b3 = if (b0 - 224) * 4096 + (b1 - 128) * 64 + (b2 - 128) ≥ 2048 ∧ ((b0 - 224) * 4096 + (b1 - 128) * 64 + (b2 - 128) < 55296 ∨ (57344 ≤ (b0 - 224) * 4096 + (b1 - 128) * 64 + (b2 - 128) ∧ (b0 - 224) * 4096 + (b1 - 128) * 64 + (b2 - 128) ≤ 1114111)) then ((b0 - 224) * 4096 + (b1 - 128) * 64 + (b2 - 128), 3) else (65533, 1) := by
      unfold decodeN
      rw [if_neg (by omega), if_neg (by omega), if_pos (by omega), show b0 % 16 = b0 - 224 by omega, show b1 % 64 = b1 - 128 by omega, show b2 % 64 = b2 - 128 by omega]
    rw [if_neg (by omega), hd]
    exact big_eq _ 3 2048 (by omega) _ _ (by omega) (by omega)
  · have hd : decodeN n b0 b1 b2 b3 = (65533, 1) := by
      unfold decodeN
      rw [if_neg (by omega), if_neg (by omega), if_neg (by omega), if_neg (by omega)]
    rw [if_pos (by omega), rrS_neg _ _ _ (by omega), hd]; rfl
theorem rr4 (n b0 b1 b2 b3 : Nat) (h : 240 ≤ b0 ∧ b0 < 248) (hn : 4 ≤ n) (h1 : b1 < 256) (h2 : b2 < 256) (h3 : b3 < 256) : runeN (decodeN n b0 b1 b2 b3) = rrS 4 (64 * (64 * (64 * ((b0 : Int) - 240)))) (lowL 0 [(b1 : Int), (b2 : Int), (b3 : Int)]) := by
  rw [low3]
  by_cases hc : 128 ≤ b1 ∧ b1 < 192 ∧ 128 ≤ b2 ∧ b2 < 192 ∧ 128 ≤ b3 ∧ b3 < 192
  · have hd : decodeN n b0 b1 b2 b3 = if (b0 - 240) * 262144 + (b1 - 128) * 4096 + (b2 - 128) * 64 + (b3 - 128) ≥ 65536 ∧ ((b0 - 240) * 262144 + (b1 - 128) * 4096 + (b2 - 128) * 64 + (b3 - 128) < 55296 ∨ (57344 ≤ (b0 - 240) * 262144 + (b1 - 128) * 4096 + (b2 - 128) * 64 + (b3 - 128) ∧ (b0 - 240) * 262144 + (b1 - 128) * 4096 + (b2 - 128) * 64 + (b3 - 128) ≤ 1114111)) then ((b0 - 240) * 262144 + (b1 - 128) * 4096 + (b2 - 128) * 64 + (b3 - 128), 4) else (65533, 1) := by
      unfold decodeN
      rw [if_neg (by omega), if_neg (by omega), if_neg (by omega), if_pos (by omega), show b0 % 8 = b0 - 240 by omega, show b1 % 64 = b1 - 128 by omega, show b2 % 64 = b2 - 128 by omega, show b3 % 64 = b3 - 128 by omega]
    rw [if_neg (by omega), hd]
    exact big_eq _ 4 65536 (by omega) _ _ (by omega) (by omega)
  · have hd : decodeN n b0 b1 b2 b3 = (65533, 1) := by
      unfold decodeN
      rw [if_neg (by omega), if_neg (by omega), if_neg (by omega), if_neg (by omega)]
    rw [if_pos (by omega), rrS_neg _ _ _ (by omega), hd]; rfl
theorem rr0 (n b0 b1 b2 b3 : Nat) (h : 128 ≤ b0 ∧ b0 < 192 ∨ 248 ≤ b0 ∧ b0 < 256 ∨ 192 ≤ b0 ∧ b0 < 224 ∧ n < 2 ∨ 224 ≤ b0 ∧ b0 < 240 ∧ n < 3 ∨ 240 ≤ b0 ∧ b0 < 248 ∧ n < 4) : runeN (decodeN n b0 b1 b2 b3) = (0, 0) := by
  have : decodeN n b0 b1 b2 b3 = (65533, 1) := by unfold decodeN; grind
  rw [this]; rfl

/-- What the document's Rune answers of bytes: the character and how many bytes it has, or 0 and 0. -/
def refRune (s : ByteArray) : Int × Int := if s.size = 0 then (0, 0) else runeN (Utf8.decode s 0)

end Go.Proofs.YtjnaikojoemkaaaDoor
