/-
  Plain laws for the laws of number: the one form is right; the program's sum is the document's.
-/
import Derived.Test.YtdpmibkiihddjaaDoorNF
namespace Go.Proofs.YtdpmibkiihddjaaDoor
open Go.Lib

theorem V_def (l : List UInt8) (s : Nat) : V l s = 10 ^ (1000 - s) * val l := by unfold V; rfl
theorem checkN_of {l : List UInt8} {sc : Int} (hl : l.all isDig = true) (hne : l ≠ []) (hn : l.length ≤ 1000) (h0 : 0 ≤ sc) (h1 : sc ≤ 1000) : checkN l sc = 0 := by
  have hd : digitsL l = true := by
    unfold digitsL
    rw [hl]
    cases l with
    | nil => exact absurd rfl hne
    | cons c l => rfl
  unfold checkN
  rw [hd, if_neg (by simp), if_neg (by omega), if_neg (by omega)]
theorem Can.ne {l : List UInt8} {sc : Nat} (h : Can l sc) : l ≠ [] := by
  rcases h with ⟨rfl, _⟩ | ⟨h, _⟩
  · simp
  · exact h
/-- What is known of a number's one form. -/
theorem canon_right (l : List UInt8) (sc : Int) (h : checkN l sc = 0) :
    ∃ (d : List UInt8) (s : Nat), canonL l sc = (d, (s : Int)) ∧ Can d s ∧ d.all isDig = true ∧ d.length ≤ 1000 ∧ s ≤ 1000 ∧ (s : Int) ≤ sc ∧ V d s = V l sc.toNat ∧ checkN d s = 0 ∧ rightN d s = true := by
  obtain ⟨hd, hne, hl, hs0, hs1⟩ := checkN_zero h
  obtain ⟨sc, rfl⟩ := Int.eq_ofNat_of_zero_le hs0
  obtain ⟨d, s, he, hc, hdd, hle, hV, hlen⟩ := canon_can l sc hd (by omega)
  have hl1 : d.length ≤ 1000 := by
    have : 0 < l.length := List.length_pos_iff.2 hne
    omega
  have hck : checkN d (s : Int) = 0 := checkN_of hdd hc.ne hl1 (by omega) (by omega)
  refine ⟨d, s, he, hc, hdd, hl1, by omega, by omega, by rw [Int.toNat_natCast]; exact hV, hck, ?_⟩
  unfold rightN sameC
  rw [hck, canon_id d s hdd (by omega) hc]
  simp
/-- Two texts of digits of the same value have the same one form. -/
theorem canon_same_val (S S' : List UInt8) (M M' : Nat) (x : Nat) (hS : S.all isDig = true) (hS' : S'.all isDig = true) (hM : M ≤ 1000) (hM' : M' ≤ 1000) (h : 10 ^ (1000 - M) * val S = x) (h' : 10 ^ (1000 - M') * val S' = x) :
    canonL S M = canonL S' M' :=
  (canon_iff S S' M M' hS hS' hM hM').2 (by rw [V_def, V_def, h, h'])
theorem mul_self_pow (n x : Nat) (h : n = 0) : 10 ^ n * x = x := by rw [h, Nat.pow_zero, Nat.one_mul]
end Go.Proofs.YtdpmibkiihddjaaDoor
