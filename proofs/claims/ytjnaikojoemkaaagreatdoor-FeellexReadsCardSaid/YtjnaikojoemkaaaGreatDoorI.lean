/-
  The plain law of Rune: what the document's answer reckons is the character that the text holds there.
-/
import Derived.Test.YtjnaikojoemkaaaGreatDoorH
import Derived.Lib.RuneCountTail
import Derived.Lib.DecodeN
namespace Go.Proofs.YtjnaikojoemkaaaGreatDoor
open Go.RowKit Go.Lib

def runeN (p : Nat × Nat) : Int × Int := if p.1 = 65533 ∧ p.2 < 2 ∨ fineC p.1 = false then (0, 0) else (p.1, p.2)

theorem plen_eq (c : Int) : plen c = if c < 128 then 1 else if c < 2048 then 2 else if c < 65536 then 3 else 4 := by
  unfold plen putI
  repeat' split
  all_goals rfl
theorem low1 (a : Int) : lowL 0 [a] = if a < 128 ∨ 191 < a then -1 else a - 128 := by
  simp only [lowL]; split <;> simp
theorem low2 (a b : Int) : lowL 0 [a, b] = if a < 128 ∨ 191 < a ∨ b < 128 ∨ 191 < b then -1 else 64 * (a - 128) + b - 128 := by
  simp only [lowL]; repeat' split
  all_goals omega
theorem low3 (a b c : Int) : lowL 0 [a, b, c] = if a < 128 ∨ 191 < a ∨ b < 128 ∨ 191 < b ∨ c < 128 ∨ 191 < c then -1 else 64 * (64 * (a - 128) + b - 128) + c - 128 := by
  simp only [lowL]; repeat' split
  all_goals omega

theorem rr1 (n b0 b1 b2 b3 : Nat) (h : b0 < 128) : runeN (decodeN n b0 b1 b2 b3) = rrS 1 b0 0 := by
  have : decodeN n b0 b1 b2 b3 = (b0, 1) := by unfold decodeN; rw [if_pos h]
  rw [this]; unfold runeN rrS; rw [plen_eq]
  simp only [Int.add_zero]
  grind
theorem rr2 (n b0 b1 b2 b3 : Nat) (h : 192 ≤ b0 ∧ b0 < 224) (hn : 2 ≤ n) (_h1 : b1 < 256) : runeN (decodeN n b0 b1 b2 b3) = rrS 2 (64 * ((b0 : Int) - 192)) (lowL 0 [(b1 : Int)]) := by
  rw [low1]
  unfold runeN rrS decodeN fineC
  rw [plen_eq]
  grind
theorem rrS_neg (k : Nat) (t L : Int) (h : L < 0) : rrS k t L = (0, 0) := by unfold rrS; rw [if_pos (Or.inl h)]
theorem big_eq (c k : Nat) (lo : Nat) (hk : k = 3 ∧ lo = 2048 ∧ c < 65536 ∨ k = 4 ∧ lo = 65536) (t L : Int) (hL : 0 ≤ L) (ht : t + L = c) :
    runeN (if c ≥ lo ∧ (c < 55296 ∨ (57344 ≤ c ∧ c ≤ 1114111)) then (c, k) else (65533, 1)) = rrS k t L := by
  unfold runeN rrS; rw [plen_eq, ht]
  by_cases hf : c ≥ lo ∧ (c < 55296 ∨ (57344 ≤ c ∧ c ≤ 1114111))
  · rw [if_pos hf]
    unfold fineC
    grind
  · rw [if_neg hf]
    unfold fineC
    grind
theorem rr3 (n b0 b1 b2 b3 : Nat) (h : 224 ≤ b0 ∧ b0 < 240) (hn : 3 ≤ n) (h1 : b1 < 256) (h2 : b2 < 256) : runeN (decodeN n b0 b1 b2 b3) = rrS 3 (64 * (64 * ((b0 : Int) - 224))) (lowL 0 [(b1 : Int), (b2 : Int)]) := by
  rw [low2]
  by_cases hc : 128 ≤ b1 ∧ b1 < 192 ∧ 128 ≤ b2 ∧ b2 < 192
  · have hd : decodeN n b0 b1 b2 b3 = if (b0 - 224) * 4096 + (b1 - 128) * 64 + (b2 - 128) ≥ 2048 ∧ ((b0 - 224) * 4096 + (b1 - 128) * 64 + (b2 - 128) < 55296 ∨ (57344 ≤ (b0 - 224) * 4096 + (b1 - 128) * 64 + (b2 - 128) ∧ (b0 - 224) * 4096 + (b1 - 128) * 64 + (b2 - 128) ≤ 1114111)) then ((b0 - 224) * 4096 + (b1 - 128) * 64 + (b2 - 128), 3) else (65533, 1) := by
      unfold decodeN
      rw [if_neg (by omega), if_neg (by omega), if_pos (by omega), show b0 % 16 = b0 - 224 by omega, show b1 % 64 = b1 - 128 by omega, show b2 % 64 = b2 - 128 by omega]
    rw [if_neg (by omega), hd]
    exact big_eq _ 3 2048 (by omega) _ _ (by omega) (by omega)
  · have hd : decodeN n b0 b1 b2 b3 = (65533, 1) := by
      unfold decodeN
      rw [if_neg (by omega), if_neg (by omega), if_neg (by omega), if_neg (by omega)]
    rw [if_pos (by omega), rrS_neg _ _ _ (by omega), hd]; rfl
theorem rr4 (n b0 b1 b2 b3 : Nat) (h : 240 ≤ b0 ∧ b0 < 248) (hn : 4 ≤ n) (h1 : b1 < 256) (h2 : b2 < 256) (h3 : b3 < 256) : runeN (decodeN n b0 b1 b2 b3) = rrS 4 (64 * (64 * (64 * ((b0 : Int) - 240)))) (lowL 0 [(b1 : Int), (b2 : Int), (b3 : Int)]) := by
  rw [low3]
  by_cases hc : 128 ≤ b1 ∧ b1 < 192 ∧ 128 ≤ b2 ∧ b2 < 192 ∧ 128 ≤ b3 ∧ b3 < 192
  · have hd : decodeN n b0 b1 b2 b3 = if (b0 - 240) * 262144 + (b1 - 128) * 4096 + (b2 - 128) * 64 + (b3 - 128) ≥ 65536 ∧ ((b0 - 240) * 262144 + (b1 - 128) * 4096 + (b2 - 128) * 64 + (b3 - 128) < 55296 ∨ (57344 ≤ (b0 - 240) * 262144 + (b1 - 128) * 4096 + (b2 - 128) * 64 + (b3 - 128) ∧ (b0 - 240) * 262144 + (b1 - 128) * 4096 + (b2 - 128) * 64 + (b3 - 128) ≤ 1114111)) then ((b0 - 240) * 262144 + (b1 - 128) * 4096 + (b2 - 128) * 64 + (b3 - 128), 4) else (65533, 1) := by
      unfold decodeN
      rw [if_neg (by omega), if_neg (by omega), if_neg (by omega), if_pos (by omega), show b0 % 8 = b0 - 240 by omega, show b1 % 64 = b1 - 128 by omega, show b2 % 64 = b2 - 128 by omega, show b3 % 64 = b3 - 128 by omega]
    rw [if_neg (by omega), hd]
    exact big_eq _ 4 65536 (by omega) _ _ (by omega) (by omega)
  · have hd : decodeN n b0 b1 b2 b3 = (65533, 1) := by
      unfold decodeN
      rw [if_neg (by omega), if_neg (by omega), if_neg (by omega), if_neg (by omega)]
    rw [if_pos (by omega), rrS_neg _ _ _ (by omega), hd]; rfl
theorem rr0 (n b0 b1 b2 b3 : Nat) (h : 128 ≤ b0 ∧ b0 < 192 ∨ 248 ≤ b0 ∧ b0 < 256 ∨ 192 ≤ b0 ∧ b0 < 224 ∧ n < 2 ∨ 224 ≤ b0 ∧ b0 < 240 ∧ n < 3 ∨ 240 ≤ b0 ∧ b0 < 248 ∧ n < 4) : runeN (decodeN n b0 b1 b2 b3) = (0, 0) := by
  have : decodeN n b0 b1 b2 b3 = (65533, 1) := by unfold decodeN; grind
  rw [this]; rfl

/-- What the document's Rune answers of bytes: the character and how many bytes it has, or 0 and 0. -/
def refRune (s : ByteArray) : Int × Int := if s.size = 0 then (0, 0) else runeN (Utf8.decode s 0)

set_option maxHeartbeats 1000000 in
theorem rrune_none (b off n cap : Nat) (w : World) (z : Int) (hz : 0 ≤ z ∧ z < 256) (hc0 : 0 < n → w.cell? ⟨b, off, none⟩ = some (.int .u8 z)) (hn2 : n ≤ 4294967280) (hcap : n ≤ cap)
    (h : n = 0 ∨ 128 ≤ z ∧ z < 192 ∨ 248 ≤ z ∨ 192 ≤ z ∧ z < 224 ∧ n < 2 ∨ 224 ≤ z ∧ z < 240 ∧ n < 3 ∨ 240 ≤ z ∧ z < 248 ∧ n < 4) :
    Calls Tryz.prog 37 #[.slice (some ⟨b, off, none⟩) n cap] w (RetII 0 0 w) := by
  by_cases h0 : n = 0
  · subst h0
    go_enter Tryz.func37, Tryz.ntmps37
    go_wp2_with fail
    go_ret2
    exact ⟨rfl, Bel.refl _⟩
  · have hc := hc0 (by omega)
    have hp : ((n : Int) == 0) = false := by simp; omega
    obtain ⟨hz0, hz1⟩ := hz
    have hn0 : (0 : Int) < n := by omega
    have H := Lib.hid h
    clear h h0 hc0
    rcases H.out with h | h | h | h | h | h
    · omega
    · obtain ⟨h1, h2⟩ := h
      go_enter Tryz.func37, Tryz.ntmps37
      go_wp2_with fail
      go_ret2
      exact ⟨rfl, Bel.refl _⟩
    · go_enter Tryz.func37, Tryz.ntmps37
      go_wp2_with fail
      go_ret2
      exact ⟨rfl, Bel.refl _⟩
    · obtain ⟨h1, h2, h3⟩ := h
      have h4 : (n : Int) < 2 := by omega
      go_enter Tryz.func37, Tryz.ntmps37
      go_wp2_with fail
      go_ret2
      exact ⟨rfl, Bel.refl _⟩
    · obtain ⟨h1, h2, h3⟩ := h
      have h4 : (n : Int) < 3 := by omega
      go_enter Tryz.func37, Tryz.ntmps37
      go_wp2_with fail
      go_ret2
      exact ⟨rfl, Bel.refl _⟩
    · obtain ⟨h1, h2, h3⟩ := h
      have h4 : (n : Int) < 4 := by omega
      go_enter Tryz.func37, Tryz.ntmps37
      go_wp2_with fail
      go_ret2
      exact ⟨rfl, Bel.refl _⟩

theorem rrune_c (s : ByteArray) (v : Value) (w : World) (hv : BytesAt w v s) (hs : s.size ≤ 4294967280) :
    Calls Tryz.prog 37 #[v] w (RetII (refRune s).1 (refRune s).2 w) := by
  obtain ⟨b, off, cap, rfl, hlt, hc, hcap⟩ := hv
  have hlt8 : ∀ j, (s.get! j).toNat < 256 := fun j => (s.get! j).toNat_lt
  have hat : ∀ k, k ≤ s.size → 1 ≤ k → ∀ j, (h : j < k - 1) → w.cell? ⟨b, off + 1 + j, none⟩ = some (.int .u8 (s.get! (j + 1)).toNat) := fun k hk h1 j h => by
    rw [Nat.add_assoc, Nat.add_comm 1 j]; exact hc (j + 1) (by omega)
  by_cases h0 : s.size = 0
  · rw [show refRune s = (0, 0) from by unfold refRune; rw [if_pos h0]]
    exact rrune_none b off _ cap w 0 ⟨by omega, by omega⟩ (fun h => by omega) hs hcap (Or.inl h0)
  have hc0 := hc 0 (by omega)
  rw [Nat.add_zero] at hc0
  have hr : refRune s = runeN (decodeN s.size (s.get! 0).toNat (s.get! 1).toNat (s.get! 2).toNat (s.get! 3).toNat) := by
    unfold refRune; rw [if_neg h0, decode_at]; rfl
  have b0 := hlt8 0; have b1 := hlt8 1; have b2 := hlt8 2; have b3 := hlt8 3
  have hat1 : 2 ≤ s.size → w.cell? ⟨b, off + 1, none⟩ = some (.int .u8 (s.get! 1).toNat) := fun h => hc 1 (by omega)
  by_cases h1 : (s.get! 0).toNat < 128
  · rw [hr, rr1 _ _ _ _ _ h1]
    have hl0 : ∀ (a : Addr) c, Calls Tryz.prog 57 #[.slice (some a) 0 c] w fun e w' => e = .returned (.int .i64 0) ∧ w = w' := fun a c => rlow_zero a c w
    by_cases hcc : 1 < cap
    · exact rrune1_c b off cap s.size _ 0 w (by omega) (by omega) (by omega) hs hcap (by omega) (by omega) hc0 hcc hl0
    · obtain rfl : cap = 1 := by omega
      exact rrune1b_c b off s.size _ 0 w (by omega) (by omega) (by omega) hs hcap (by omega) (by omega) hc0 hl0
  by_cases h2 : 192 ≤ (s.get! 0).toNat ∧ (s.get! 0).toNat < 224 ∧ 2 ≤ s.size
  · rw [hr, rr2 _ _ _ _ _ ⟨h2.1, h2.2.1⟩ h2.2.2 b1]
    have := low1 ((s.get! 1).toNat : Int)
    refine rrune2_c b off cap s.size _ _ w (by omega) (by omega) h2.2.2 hs hcap (by rw [this]; split <;> omega) (by rw [this]; split <;> omega) hc0 (fun c => ?_)
    exact rlow_c b (off + 1) c [((s.get! 1).toNat : Int)] w (by simp) (by intro x hx; simp at hx; subst hx; omega) (fun j hj => by
      have := hat 2 h2.2.2 (by omega) j (by simpa using hj)
      obtain rfl : j = 0 := by simpa using hj
      exact this)
  by_cases h3 : 224 ≤ (s.get! 0).toNat ∧ (s.get! 0).toNat < 240 ∧ 3 ≤ s.size
  · rw [hr, rr3 _ _ _ _ _ ⟨h3.1, h3.2.1⟩ h3.2.2 b1 b2]
    have := low2 ((s.get! 1).toNat : Int) ((s.get! 2).toNat : Int)
    refine rrune3_c b off cap s.size _ _ w (by omega) (by omega) h3.2.2 hs hcap (by rw [this]; split <;> omega) (by rw [this]; split <;> omega) hc0 (fun c => ?_)
    exact rlow_c b (off + 1) c [((s.get! 1).toNat : Int), ((s.get! 2).toNat : Int)] w (by simp) (by intro x hx; simp at hx; rcases hx with rfl | rfl <;> omega) (fun j hj => by
      have := hat 3 h3.2.2 (by omega) j (by simpa using hj)
      match j, hj, this with
      | 0, _, this => exact this
      | 1, _, this => exact this)
  by_cases h4 : 240 ≤ (s.get! 0).toNat ∧ (s.get! 0).toNat < 248 ∧ 4 ≤ s.size
  · rw [hr, rr4 _ _ _ _ _ ⟨h4.1, h4.2.1⟩ h4.2.2 b1 b2 b3]
    have := low3 ((s.get! 1).toNat : Int) ((s.get! 2).toNat : Int) ((s.get! 3).toNat : Int)
    refine rrune4_c b off cap s.size _ _ w (by omega) (by omega) h4.2.2 hs hcap (by rw [this]; split <;> omega) (by rw [this]; split <;> omega) hc0 (fun c => ?_)
    exact rlow_c b (off + 1) c [((s.get! 1).toNat : Int), ((s.get! 2).toNat : Int), ((s.get! 3).toNat : Int)] w (by simp) (by intro x hx; simp at hx; rcases hx with rfl | rfl | rfl <;> omega) (fun j hj => by
      have := hat 4 h4.2.2 (by omega) j (by simpa using hj)
      match j, hj, this with
      | 0, _, this => exact this
      | 1, _, this => exact this
      | 2, _, this => exact this)
  rw [hr, rr0 _ _ _ _ _ (by omega)]
  exact rrune_none b off _ cap w _ ⟨by omega, by omega⟩ (fun _ => hc0) hs hcap (by omega)
end Go.Proofs.YtjnaikojoemkaaaGreatDoor
