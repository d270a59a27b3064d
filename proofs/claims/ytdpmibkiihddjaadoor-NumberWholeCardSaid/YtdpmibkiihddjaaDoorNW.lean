/-
  The walk of the laws' own digits: a number's text.
-/
import Derived.Test.YtdpmibkiihddjaaDoorNQ
import Derived.Test.YtdpmibkiihddjaaDoorNM
namespace Go.Proofs.YtdpmibkiihddjaaDoor
open Go.RowKit

/-- The text of a number: its digits. -/
def RetDigits (n : Nat) (w : World) (e : Ending) (w' : World) : Prop := ∃ D, e = .returned (.string (bs D)) ∧ Can D 0 ∧ D.all isDig = true ∧ val D = n ∧ Bel w w'
theorem dig_step (m N : Nat) (X : List UInt8) (h : val X + 10 ^ X.length * m = N) :
    val (UInt8.ofNat (48 + m % 10) :: X) + 10 ^ (X.length + 1) * (m / 10) = N := by
  rw [val_cons, (digit_dig (m % 10) (by omega)).2, Nat.pow_succ]
  obtain ⟨p, hp⟩ : ∃ p, 10 ^ X.length = p := ⟨_, rfl⟩
  rw [hp] at h ⊢
  have ht2 : p * m = p * (m % 10) + p * 10 * (m / 10) := by
    conv => lhs; rw [← Nat.mod_add_div m 10]
    rw [Nat.mul_add, Nat.mul_assoc]
  omega
theorem dig_can (m : Nat) (X : List UInt8) (hm : m / 10 = 0) (hX : X = [] ∨ 0 < m) : Can (UInt8.ofNat (48 + m % 10) :: X) 0 := by
  have hd := digit_dig (m % 10) (by omega)
  by_cases h0 : m = 0
  · subst h0
    rcases hX with rfl | h
    · exact Or.inl ⟨rfl, rfl⟩
    · omega
  · refine Or.inr ⟨by simp, ?_, fun h => by omega⟩
    intro h
    simp only [List.head?_cons, Option.some.injEq] at h
    rw [h] at hd
    have : dg 48 = 0 := rfl
    omega

set_option maxRecDepth 100000 in
set_option maxHeartbeats 2000000 in
theorem digits_law_c (n : Nat) (hn : n ≤ 8589934590) (w : World) :
    Calls Tryd.prog 21 #[.int .u64 n] w (RetDigits n w) := by
  go_enter Tryd.func21, Tryd.ntmps21
  go_wp2_with fail
  go_loopw [0, 3] (fun nv sv wr => ∃ (m : Nat) (X : ByteArray), nv = .int .u64 m ∧ sv = .string X ∧ m ≤ 8589934590 ∧ X.size ≤ 20 ∧ Hid ((dl X).all isDig = true) ∧ Hid (val (dl X) + 10 ^ X.size * m = n) ∧ Hid (X.size = 0 ∨ 0 < m ∨ Can (dl X) 0) ∧ Hid (10 ^ X.size * m ≤ n) ∧ Bel w wr) (fun nv sv _ => (intOf nv).toNat + (1 - Lib.strSize sv))
  case atStart => exact ⟨n, ⟨#[]⟩, rfl, rfl, hn, by decide, Lib.hid rfl, Lib.hid (by show 0 + 10 ^ 0 * n = n; omega), Lib.hid (Or.inl rfl), Lib.hid (by show 10 ^ 0 * n ≤ n; omega), Bel.refl _⟩
  case round =>
    obtain ⟨m, X, rfl, rfl, hm, hXs, hXd, hval, hcan, hle, hbel⟩ := hrel
    by_cases hgo : 0 < m ∨ X.size = 0
    · have hways : (0 : Int) < m ∨ (m = 0 ∧ X.size = 0) := by omega
      have HW := Lib.hid hways
      have hXe : X.size = 0 → X = ⟨#[]⟩ := fun h => by
        apply ByteArray.ext; exact Array.eq_empty_of_size_eq_zero h
      have hX20 : X.size ≤ 19 := by
        rcases HW.out with h | ⟨h1, h2⟩
        · rcases Nat.lt_or_ge 19 X.size with h3 | h3
          · exfalso
            have h4 : 10 ^ 20 ≤ 10 ^ X.size := Nat.pow_le_pow_right (by omega) (by omega)
            have h5 := hle.out
            have h6 : 10 ^ X.size * 1 ≤ 10 ^ X.size * m := Nat.mul_le_mul_left _ (by omega)
            omega
          · exact h3
        · omega
      obtain ⟨q, hq⟩ : ∃ q : UInt8, UInt8.ofNat (48 + m % 10) = q := ⟨_, rfl⟩
      have hst := dig_step m n (dl X) hval.out
      have hqd := digit_dig (m % 10) (by omega)
      have hcn := fun h0 h => dig_can m (dl X) h0 h
      rw [hq] at hst hqd hcn
      have hqi : (48 : Int) + (m : Int) % 10 = (q.toNat : Int) := by
        have : (UInt8.ofNat (48 + m % 10)).toNat = 48 + m % 10 := by rw [UInt8.toNat_ofNat']; omega
        rw [hq] at this; omega
      have hcv := one_byte wr ((48 : Int) + (m : Int) % 10) q hqi
      obtain ⟨Q, hQ⟩ : ∃ Q, bs [q] = Q := ⟨_, rfl⟩
      rw [hQ] at hcv
      have hQs : Q.size = 1 := by rw [← hQ, bs_size]; rfl
      have hdl : dl (Q ++ X) = q :: dl X := by rw [← hQ]; simp [dl, bs]
      have hsz : (Q ++ X).size = X.size + 1 := by rw [ByteArray.size_append, hQs]; omega
      have hno : ¬ (9223372036854775807 < Q.size + X.size) := by omega
      have hnew1 : val (dl (Q ++ X)) + 10 ^ (Q ++ X).size * (m / 10) = n := by rw [hdl, hsz]; exact hst
      have hnew2 : (Q ++ X).size = 0 ∨ 0 < m / 10 ∨ Can (dl (Q ++ X)) 0 := by
        by_cases h0 : m / 10 = 0
        · refine Or.inr (Or.inr ?_)
          rw [hdl]
          refine hcn h0 ?_
          rcases HW.out with h | ⟨h1, h2⟩
          · exact Or.inr (by omega)
          · exact Or.inl (by rw [hXe h2]; rfl)
        · exact Or.inr (Or.inl (by omega))
      have hnew3 : 10 ^ (Q ++ X).size * (m / 10) ≤ n := by omega
      have hnew4 : (dl (Q ++ X)).all isDig = true := by rw [hdl, List.all_cons, hqd.1, hXd.out]; rfl
      have N1 := Lib.hid hnew1
      have N2 := Lib.hid hnew2
      have N3 := Lib.hid hnew3
      have N4 := Lib.hid hnew4
      have HSZ := Lib.hid hsz
      have HXE := Lib.hid hXe
      have hB1 : Bel wr (wr.alloc (.cells #[.int .u8 (48 + (m : Int) % 10)] 5)) := Bel.alloc _ _
      clear hst hqd hcn hqi hq hQ hQs hdl hsz hnew1 hnew2 hnew3 hnew4 hways hgo hXe
      rcases HW.out with h | ⟨h1, h2⟩
      · go_wp2_with fail
        refine ⟨⟨m / 10, Q ++ X, by go_num, rfl, by omega, by rw [HSZ.out]; omega, N4, N1, N2, N3, hbel.trans hB1⟩, ?_⟩
        simp only [Lib.strSize_string, intOf]
        rw [HSZ.out]
        omega
      · obtain rfl := HXE.out h2
        subst h1
        have e48 : (48 : Int) + ((0 : Nat) : Int) % 10 = 48 := by decide
        rw [e48] at hcv hB1
        clear e48
        go_wp2_with fail
        refine ⟨⟨0, Q ++ ⟨#[]⟩, rfl, rfl, by omega, by rw [HSZ.out]; omega, N4, N1, N2, N3, hbel.trans hB1⟩, ?_⟩
        simp only [Lib.strSize_string, intOf]
        rw [HSZ.out]
        decide
    · obtain rfl : m = 0 := by omega
      have hXp : 0 < X.size := by omega
      have hXe : X.toList.isEmpty = false := by
        rw [dl_empty]
        cases hl : dl X with
        | nil => rw [← dl_size, hl] at hXp; simp at hXp
        | cons c l => rfl
      have hXe2 : X.toList ≠ [] := fun h => by rw [h] at hXe; cases hXe
      have hfin : Can (dl X) 0 ∧ (dl X).all isDig = true ∧ val (dl X) = n := by
        refine ⟨?_, hXd.out, by have := hval.out; simpa using this⟩
        rcases hcan.out with h | h | h
        · omega
        · omega
        · exact h
      have HF := Lib.hid hfin
      clear hfin hgo hcan
      go_wp2_with fail
      go_ret
      exact ⟨dl X, rfl, HF.out.1, HF.out.2.1, HF.out.2.2, hbel⟩

/-- A number's digits: the only ones. -/
noncomputable def decD (n : Nat) : List UInt8 := Classical.epsilon fun D => Can D 0 ∧ D.all isDig = true ∧ val D = n
theorem decD_eq (n : Nat) (D : List UInt8) (h1 : Can D 0) (h2 : D.all isDig = true) (h3 : val D = n) : decD n = D := by
  have h := Classical.epsilon_spec (p := fun D => Can D 0 ∧ D.all isDig = true ∧ val D = n) ⟨D, h1, h2, h3⟩
  exact (can_uniq _ D 0 0 h.2.1 h2 h.1 h1 (by omega) (by omega) (by rw [V_def, V_def, show val (Classical.epsilon fun D => Can D 0 ∧ D.all isDig = true ∧ val D = n) = n from h.2.2, h3])).1
theorem dec_ex (n : Nat) : ∃ D, Can D 0 ∧ D.all isDig = true ∧ val D = n := by
  induction n using Nat.strongRecOn with
  | ind n ih =>
    have hd := digit_dig (n % 10) (by omega)
    by_cases h : n < 10
    · refine ⟨[UInt8.ofNat (48 + n % 10)], dig_can n [] (by omega) (Or.inl rfl), by rw [List.all_cons, hd.1]; rfl, ?_⟩
      rw [val_cons, hd.2]
      show 0 + 10 ^ 0 * (n % 10) = n
      omega
    · obtain ⟨D, h1, h2, h3⟩ := ih (n / 10) (by omega)
      refine ⟨D ++ [UInt8.ofNat (48 + n % 10)], ?_, ?_, ?_⟩
      · rcases h1 with ⟨rfl, _⟩ | ⟨g1, g2, _⟩
        · have : val [48] = 0 := rfl
          omega
        · refine Or.inr ⟨by simp, ?_, fun h => by omega⟩
          cases D with
          | nil => exact absurd rfl g1
          | cons c l => simpa using g2
      · rw [List.all_append, h2, List.all_cons, hd.1]; rfl
      · rw [val_append, h3, val_cons, hd.2]
        show 0 + 10 ^ 0 * (n % 10) + 10 ^ 1 * (n / 10) = n
        omega
theorem decD_ok (n : Nat) : Can (decD n) 0 ∧ (decD n).all isDig = true ∧ val (decD n) = n := Classical.epsilon_spec (dec_ex n)
theorem digits_dec_c (n : Nat) (hn : n ≤ 8589934590) (w : World) :
    Calls Tryd.prog 21 #[.int .u64 n] w fun e w' => e = .returned (.string (bs (decD n))) ∧ Bel w w' :=
  (digits_law_c n hn w).mono fun e w' ⟨D, he, h1, h2, h3, hb⟩ => ⟨by rw [he, decD_eq n D h1 h2 h3], hb⟩
end Go.Proofs.YtdpmibkiihddjaaDoor
