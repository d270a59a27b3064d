/-
  The walk of the law NumberWhole: whatever the two numbers: true.
-/
import Derived.Test.YtdpmibkiihddjaaDoorNO
import Derived.Test.YtdpmibkiihddjaaDoorNWC0
import Derived.Test.YtdpmibkiihddjaaDoorNWC1
import Derived.Test.YtdpmibkiihddjaaDoorNWC2
import Derived.Test.YtdpmibkiihddjaaDoorNWC3
import Derived.Test.YtdpmibkiihddjaaDoorNWC4
import Derived.OpenShut
namespace Go.Proofs.YtdpmibkiihddjaaDoor
open Go.RowKit

theorem V_zero (l : List UInt8) (N : Nat) (hN : N = 1000) : V l 0 = 10 ^ N * val l := by rw [V_def, hN, Nat.sub_zero]
theorem whole_len (N : Nat) (hN : N = 20) (D : List UInt8) (hD : D.all isDig = true) (hc : Can D 0) (n : Nat) (hv : val D = n) (hn : n ≤ 8589934590) : D.length ≤ N := by
  rcases hc with ⟨rfl, _⟩ | ⟨hne, hh, _⟩
  · simp; omega
  · have h1 := val_pos hD hne hh
    rcases Nat.lt_or_ge N D.length with h | h
    · exfalso
      have h2 : 10 ^ 10 ≤ 10 ^ (D.length - 1) := Nat.pow_le_pow_right (by omega) (by omega)
      omega
    · exact h
theorem cmp_whole (X Y : List UInt8) : cmpN (V X 0) (V Y 0) = cmpN (val X) (val Y) := by
  obtain ⟨N, hN⟩ : ∃ N : Nat, N = 1000 := ⟨_, rfl⟩
  rw [V_zero X N hN, V_zero Y N hN, cmpN_mul _ _ _ (Nat.pow_pos (by omega))]
/-- The tenth part of a whole number is less, unless it is 0. -/
theorem cmp_tenth (X d : List UInt8) (s : Nat) (h : V d s = V X 1) : cmpN (V d s) (V X 0) = if val X = 0 then 0 else -1 := by
  obtain ⟨N, hN⟩ : ∃ N : Nat, N = 1000 := ⟨_, rfl⟩
  have h2 : V X 1 = 10 ^ (N - 1) * val X := by rw [V_def, hN]
  have h3 : 10 ^ N = 10 ^ (N - 1) * 10 := by
    obtain ⟨k, hk⟩ : ∃ k, N = k + 1 := ⟨N - 1, by omega⟩
    rw [hk, Nat.add_sub_cancel, Nat.pow_succ]
  rw [h, h2, V_zero X N hN, h3, Nat.mul_assoc, cmpN_mul _ _ _ (Nat.pow_pos (by omega))]
  unfold cmpN
  by_cases h0 : val X = 0
  · rw [h0]; simp
  · rw [if_pos (by omega), if_neg h0]

set_option maxRecDepth 100000 in
set_option maxHeartbeats 8000000 in
theorem numberWhole_walk (a : Int) (ha : (Lit.int .u32 a).wf = true) (b : Int) (hb : (Lit.int .u32 b).wf = true) (w : World) (hE : EnvN w) :
    Calls Tryd.prog 7 #[.int .u32 a, .int .u32 b] w (fun e w' => e = .returned (.bool true) ∧ Bel w w') := by
  have HE := Lib.hid hE
  have ha2 := bounds_u32 ha
  have hb2 := bounds_u32 hb
  obtain ⟨ha0, ha1⟩ := ha2
  obtain ⟨hb0, hb1⟩ := hb2
  clear hE ha hb
  obtain ⟨a, rfl⟩ := Int.eq_ofNat_of_zero_le ha0
  obtain ⟨b, rfl⟩ := Int.eq_ofNat_of_zero_le hb0
  have cmp : ∀ (a : ByteArray) (s : Nat) (b : ByteArray) (t : Nat), a.size ≤ maxLen → b.size ≤ maxLen → checkN (dl a) s = 0 → checkN (dl b) t = 0 → ∀ k, cmpN (V (dl a) s) (V (dl b) t) = k → ∀ w1, EnvN w1 → Calls Tryd.prog 17 #[.agg #[.string a, .int .i64 s], .agg #[.string b, .int .i64 t]] w1 fun e w' => e = .returned (.tuple #[.int .i64 k, .int .i64 0]) ∧ Bel w1 w' := by
    intro a s b t ha hb h1 h2 k hk w1 h
    refine (compare_c a ha s b hb t w1 h).mono fun e w' ⟨he, hb⟩ => ⟨?_, hb⟩
    rw [he]
    unfold compareE bothN
    rw [h1, if_pos rfl, h2, if_pos rfl]
    simp only [Int.toNat_natCast, hk]
    rfl
  have CMP := Lib.hid cmp
  clear cmp
  obtain ⟨g1, g2, g3⟩ := decD_ok a
  obtain ⟨g4, g5, g6⟩ := decD_ok b
  obtain ⟨g7, g8, g9⟩ := decD_ok (a + b)
  have l1 := whole_len 20 rfl _ g2 g1 a g3 (by omega)
  have l2 := whole_len 20 rfl _ g5 g4 b g6 (by omega)
  have k1 : checkN (decD a) ((0 : Nat) : Int) = 0 := checkN_of g2 g1.ne (by omega) (by omega) (by omega)
  have k2 : checkN (decD b) ((0 : Nat) : Int) = 0 := checkN_of g5 g4.ne (by omega) (by omega) (by omega)
  have k3 : checkN (decD a) (1 : Int) = 0 := checkN_of g2 g1.ne (by omega) (by omega) (by omega)
  obtain ⟨d, z, hd, hdc, hdd, hdl, hdz, _, hdV, hdk, _⟩ := canon_right (decD a) 1 k3
  obtain ⟨X1, hX1⟩ : ∃ X : ByteArray, bs (decD a) = X := ⟨_, rfl⟩
  obtain ⟨X2, hX2⟩ : ∃ X : ByteArray, bs (decD b) = X := ⟨_, rfl⟩
  obtain ⟨X3, hX3⟩ : ∃ X : ByteArray, bs (decD (a + b)) = X := ⟨_, rfl⟩
  obtain ⟨Z, hZ⟩ : ∃ X : ByteArray, bs d = X := ⟨_, rfl⟩
  have m1 : dl X1 = decD a := by rw [← hX1]; rfl
  have m2 : dl X2 = decD b := by rw [← hX2]; rfl
  have mz : dl Z = d := by rw [← hZ]; rfl
  have s1 : X1.size ≤ 20 := by rw [← dl_size, m1]; exact l1
  have s2 : X2.size ≤ 20 := by rw [← dl_size, m2]; exact l2
  have sz : Z.size ≤ 1000 := by rw [← dl_size, mz]; exact hdl
  have p1 : ∀ w1, Calls Tryd.prog 21 #[.int .u64 a] w1 fun e w' => e = .returned (.string X1) ∧ Bel w1 w' := by rw [← hX1]; exact fun w1 => digits_dec_c a (by omega) w1
  have p2 : ∀ w1, Calls Tryd.prog 21 #[.int .u64 b] w1 fun e w' => e = .returned (.string X2) ∧ Bel w1 w' := by rw [← hX2]; exact fun w1 => digits_dec_c b (by omega) w1
  have p8 : ∀ w1, Calls Tryd.prog 21 #[.int .u64 ((a : Int) + b)] w1 fun e w' => e = .returned (.string X3) ∧ Bel w1 w' := by rw [← hX3]; exact fun w1 => digits_dec_c (a + b) (by omega) w1
  obtain ⟨K, hK⟩ : ∃ K, cmpN a b = K := ⟨_, rfl⟩
  obtain ⟨I, hI⟩ : ∃ I : Int, (if a = 0 then 0 else -1) = I := ⟨_, rfl⟩
  have p3 : ∀ w1, EnvN w1 → Calls Tryd.prog 17 #[.agg #[.string X1, .int .i64 0], .agg #[.string X2, .int .i64 0]] w1 fun e w' => e = .returned (.tuple #[.int .i64 K, .int .i64 0]) ∧ Bel w1 w' :=
    CMP.out X1 0 X2 0 (by unfold maxLen; omega) (by unfold maxLen; omega) (by rw [m1]; exact k1) (by rw [m2]; exact k2) K (by rw [m1, m2, cmp_whole, g3, g6]; exact hK)
  have p4 : ∀ w1, EnvN w1 → Calls Tryd.prog 18 #[.agg #[.string X1, .int .i64 0], .agg #[.string X2, .int .i64 0]] w1 fun e w' => e = .returned (.tuple #[.agg #[.string X3, .int .i64 0], .int .i64 0]) ∧ Bel w1 w' := fun w1 h =>
    (addSmall_c X1 0 X2 0 (by rw [m1]; exact k1) (by rw [m2]; exact k2) (by omega) (by omega) (by omega) (by omega) w1 h).mono fun e w' ⟨d', z', he, h1, h2, _, h4, h5, hb⟩ => by
      have hV : V d' z' = V (decD (a + b)) 0 := by
        obtain ⟨N, hN⟩ : ∃ N : Nat, N = 1000 := ⟨_, rfl⟩
        rw [h5, m1, m2, V_zero _ N hN, V_zero _ N hN, V_zero _ N hN, g3, g6, g9, Nat.mul_add]
      obtain ⟨e1, e2⟩ := can_uniq d' (decD (a + b)) z' 0 h2 g8 h1 g7 h4 (by omega) hV
      exact ⟨by rw [he, e1, e2, hX3]; rfl, hb⟩
  have p5 : ∀ w1, EnvN w1 → Calls Tryd.prog 11 #[.agg #[.string X1, .int .i64 1]] w1 fun e w' => e = .returned (.tuple #[.agg #[.string Z, .int .i64 z], .int .i64 0]) ∧ Bel w1 w' := fun w1 h =>
    (canonE_c X1 (by unfold maxLen; omega) 1 w1 h).mono fun e w' ⟨he, hb⟩ => ⟨by rw [he]; unfold canonE; rw [m1, k3, if_pos rfl, hd, ← hZ]; rfl, hb⟩
  have p6 : ∀ w1, EnvN w1 → Calls Tryd.prog 17 #[.agg #[.string Z, .int .i64 z], .agg #[.string X1, .int .i64 0]] w1 fun e w' => e = .returned (.tuple #[.int .i64 I, .int .i64 0]) ∧ Bel w1 w' :=
    CMP.out Z z X1 0 (by unfold maxLen; omega) (by unfold maxLen; omega) (by rw [mz]; exact hdk) (by rw [m1]; exact k1) I (by rw [m1, mz, cmp_tenth _ _ _ hdV, g3]; exact hI)
  have P1 := Lib.hid p1
  have P2 := Lib.hid p2
  have P3 := Lib.hid p3
  have P4 := Lib.hid p4
  have P5 := Lib.hid p5
  have P6 := Lib.hid p6
  have P8 := Lib.hid p8
  have HK := Lib.hid hK
  have HI := Lib.hid hI
  clear p1 p2 p3 p4 p5 p6 p8 hK hI CMP g1 g2 g3 g4 g5 g6 g7 g8 g9 l1 l2 k1 k2 k3 hd hdc hdd hdl hdz hdV hdk hX1 hX2 hX3 hZ m1 m2 mz s1 s2 sz
  have hways : ((a : Int) < b ∧ K = -1 ∨ a = b ∧ K = 0 ∨ (b : Int) < a ∧ K = 1) ∧ (a = 0 ∧ I = 0 ∨ (0 : Int) < a ∧ I = -1) := by
    have h1 := HK.out
    have h2 := HI.out
    unfold cmpN at h1
    constructor
    · split at h1
      · exact Or.inl ⟨by omega, h1.symm⟩
      · split at h1
        · exact Or.inr (Or.inr ⟨by omega, h1.symm⟩)
        · exact Or.inr (Or.inl ⟨by omega, h1.symm⟩)
    · split at h2
      · exact Or.inl ⟨by omega, h2.symm⟩
      · exact Or.inr ⟨by omega, h2.symm⟩
  have HW := Lib.hid hways
  clear hways
  rcases HW.out.1 with ⟨h1, rfl⟩ | ⟨h1, rfl⟩ | ⟨h1, rfl⟩ <;> rcases HW.out.2 with ⟨h2, rfl⟩ | ⟨h2, rfl⟩
  · exact whole_0 a b ha0 ha1 hb0 hb1 w HE X1 X2 X3 Z z P1 P2 P3 P4 P5 P6 P8 h1 h2
  · exact whole_1 a b ha0 ha1 hb0 hb1 w HE X1 X2 X3 Z z P1 P2 P3 P4 P5 P6 P8 h1 h2
  · exact whole_2 a b ha0 ha1 hb0 hb1 w HE X1 X2 X3 Z z P1 P2 P3 P4 P5 P6 P8 h1 h2
  · exact whole_3 a b ha0 ha1 hb0 hb1 w HE X1 X2 X3 Z z P1 P2 P3 P4 P5 P6 P8 h1 h2
  · exfalso; omega
  · exact whole_4 a b ha0 ha1 hb0 hb1 w HE X1 X2 X3 Z z P1 P2 P3 P4 P5 P6 P8 h1 h2
end Go.Proofs.YtdpmibkiihddjaaDoor
