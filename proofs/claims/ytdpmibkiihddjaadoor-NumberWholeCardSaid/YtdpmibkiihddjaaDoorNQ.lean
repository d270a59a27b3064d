/-
  Sums of small numbers; what the law NumberOrder and NumberWhole ask beside.
-/
import Derived.Test.YtdpmibkiihddjaaDoorNI
import Derived.Test.YtdpmibkiihddjaaDoorNP
namespace Go.Proofs.YtdpmibkiihddjaaDoor
open Go.RowKit

theorem cmpN_neg (a b : Nat) : cmpN b a = - cmpN a b := by
  unfold cmpN
  rcases Nat.lt_trichotomy a b with h | h | h
  · rw [if_neg (by omega), if_pos h, if_pos h]; rfl
  · subst h; simp
  · rw [if_pos h, if_neg (by omega), if_pos h]
theorem cmpN_add (a b c : Nat) : cmpN (a + c) (b + c) = cmpN a b := by
  unfold cmpN
  simp only [Nat.add_lt_add_iff_right]
theorem cmpN_bd (a b : Nat) : -1 ≤ cmpN a b ∧ cmpN a b ≤ 1 := by
  unfold cmpN
  split
  · omega
  · split <;> omega
theorem cmpN_zero (a b : Nat) : cmpN a b = 0 ↔ a = b := by
  unfold cmpN
  split
  · constructor <;> intro h <;> omega
  · split
    · constructor <;> intro h <;> omega
    · constructor
      · intro; omega
      · intro; rfl

theorem sum_len (N : Nat) (hN : 700 ≤ N) (a b d : List UInt8) (s t z : Nat) (ha : a.all isDig = true) (hb : b.all isDig = true) (hd : d.all isDig = true) (hal : a.length ≤ 300) (hbl : b.length ≤ 300) (hz : z ≤ 300) (hc : Can d z)
    (h : 10 ^ (N - z) * val d = 10 ^ (N - s) * val a + 10 ^ (N - t) * val b) : d.length ≤ N := by
  rcases hc with ⟨rfl, _⟩ | ⟨hne, hh, _⟩
  · simp; omega
  · rcases Nat.lt_or_ge N d.length with hlt | hge
    · exfalso
      have h1 := val_pos hd hne hh
      have h2 : 10 ^ N ≤ 10 ^ (d.length - 1) := Nat.pow_le_pow_right (by omega) (by omega)
      have h3 : 10 ^ (N - z) * 10 ^ N ≤ 10 ^ (N - z) * val d := Nat.mul_le_mul_left _ (by omega)
      obtain ⟨r, hr⟩ : ∃ r : Nat, r = 300 := ⟨_, rfl⟩
      have up : ∀ (l : List UInt8) (q : Nat), l.all isDig = true → l.length ≤ r → 10 ^ (N - q) * val l ≤ 10 ^ N * 10 ^ r := fun l q hl hll => by
        have := val_lt l hl
        exact Nat.mul_le_mul (Nat.pow_le_pow_right (by omega) (by omega)) (Nat.le_trans (by omega) (Nat.pow_le_pow_right (by omega) hll))
      have u1 := up a s ha (by omega)
      have u2 := up b t hb (by omega)
      have h4 : 10 ^ N * 10 ^ r + 10 ^ N * 10 ^ r < 10 ^ N * 10 ^ (r + 1) := by
        rw [← Nat.mul_add]
        refine Nat.mul_lt_mul_of_pos_left ?_ (Nat.pow_pos (by omega))
        have : 0 < 10 ^ r := Nat.pow_pos (by omega)
        rw [Nat.pow_succ]
        omega
      have h5 : 10 ^ (N - z) * 10 ^ N < 10 ^ N * 10 ^ (r + 1) := by omega
      rw [← Nat.pow_add, ← Nat.pow_add] at h5
      have h6 := (Nat.pow_lt_pow_iff_right (by omega : 1 < 10)).1 h5
      omega
    · exact hge

/-- A sum, in its one form, that is not too long. -/
def RetSum (v : Nat) (w : World) (e : Ending) (w' : World) : Prop :=
  ∃ (d : List UInt8) (z : Nat), e = .returned (.tuple #[.agg #[.string (bs d), .int .i64 z], .int .i64 0]) ∧ Can d z ∧ d.all isDig = true ∧ checkN d z = 0 ∧ z ≤ 1000 ∧ V d z = v ∧ Bel w w'
theorem addSmall_c (a : ByteArray) (s : Nat) (b : ByteArray) (t : Nat) (ha : checkN (dl a) s = 0) (hb : checkN (dl b) t = 0) (hal : a.size ≤ 300) (hbl : b.size ≤ 300) (hs : s ≤ 300) (ht : t ≤ 300) (w : World) (hE : EnvN w) :
    Calls Tryd.prog 18 #[.agg #[.string a, .int .i64 s], .agg #[.string b, .int .i64 t]] w (RetSum (V (dl a) s + V (dl b) t) w) := by
  have hd1 := (checkN_zero ha).1
  have hd2 := (checkN_zero hb).1
  refine (add_c a (by unfold maxLen; omega) s b (by unfold maxLen; omega) t w hE).mono ?_
  rintro e w' ⟨S, hS, hSn, hSl, hv, he, hbel⟩
  have hbo : bothN (dl a) (s : Int) (dl b) (t : Int) = 0 := by unfold bothN; rw [ha, if_pos rfl]; exact hb
  have hv := hv hbo
  rw [Int.toNat_natCast, Int.toNat_natCast] at hv
  obtain ⟨d, z, hc, hcan, hdd, hz, hV, _⟩ := canon_can S (max s t) hS (by omega)
  have hVd : V d z = V (dl a) s + V (dl b) t := by rw [hV, ← hv, V_def]
  have hlen : d.length ≤ 1000 := by
    have h := hVd
    rw [V_def, V_def, V_def] at h
    exact sum_len _ (by omega) (dl a) (dl b) d s t z hd1 hd2 hdd (by rw [dl_size]; exact hal) (by rw [dl_size]; exact hbl) (by omega) hcan h
  have hadd : addE (dl a) s (dl b) t S = ((d, (z : Int)), 0) := by
    unfold addE
    rw [hbo, if_pos rfl, show max (s : Int) (t : Int) = ((max s t : Nat) : Int) from by omega, hc]
    simp only
    rw [if_neg (by omega)]
  rw [hadd] at he
  exact ⟨d, z, he, hcan, hdd, checkN_of hdd hcan.ne hlen (by omega) (by omega), by omega, hVd, hbel⟩
end Go.Proofs.YtdpmibkiihddjaaDoor
