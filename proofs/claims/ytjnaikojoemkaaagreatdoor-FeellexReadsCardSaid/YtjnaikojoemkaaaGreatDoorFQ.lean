/-
  feellex: the document's answer: digit, number, hex.
-/
import Derived.Test.YtjnaikojoemkaaaGreatDoorFP
namespace Go.Proofs.YtjnaikojoemkaaaGreatDoor
open Go.RowKit

theorem dg_all : ((List.range 256).all fun i => dgC i.toUInt8 == decide (48 ≤ i ∧ i ≤ 57)) = true := by decide +kernel
theorem dgC_iff (c : UInt8) : dgC c = decide (48 ≤ (c.toNat : Int) ∧ (c.toNat : Int) ≤ 57) := by
  have h1 := List.all_eq_true.1 dg_all c.toNat (List.mem_range.2 c.toNat_lt)
  rw [show c.toNat.toUInt8 = c from by simp] at h1
  rw [beq_iff_eq.1 h1, decide_eq_decide]
  omega
set_option maxRecDepth 100000 in
set_option maxHeartbeats 1000000 in
theorem rdigit_c (s : ByteArray) (_hs : s.size ≤ 4294967280) (i : Nat) (w : World) :
    Calls Tryz.prog 20 #[.string s, .int .i64 i] w fun e w' => e = .returned (.bool (digAt s i)) ∧ w = w' := by
  by_cases h : i < s.size
  · obtain ⟨c, hc⟩ : ∃ c, s.get! i = c := ⟨_, rfl⟩
    have hx2 : s[i]'h = c := by rw [← hc]; exact (get_at s i h).symm
    have hd : digAt s i = decide (48 ≤ (c.toNat : Int) ∧ (c.toNat : Int) ≤ 57) := by
      unfold digAt
      rw [hc, dgC_iff, decide_eq_true h, Bool.true_and]
    rw [hd]
    have hi : (i : Int) < s.size := by omega
    clear hd hc
    by_cases h1 : (48 : Int) ≤ c.toNat
    · by_cases h2 : (c.toNat : Int) ≤ 57
      · go_enter Tryz.func20, Tryz.ntmps20
        go_wp2_with fail
        go_ret
        exact ⟨ret_bool (by simp; omega), rfl⟩
      · go_enter Tryz.func20, Tryz.ntmps20
        go_wp2_with fail
        go_ret
        exact ⟨ret_bool (by simp; omega), rfl⟩
    · go_enter Tryz.func20, Tryz.ntmps20
      go_wp2_with fail
      go_ret
      exact ⟨ret_bool (by simp; omega), rfl⟩
  · have hd : digAt s i = false := by unfold digAt; rw [decide_eq_false h]; rfl
    rw [hd]
    have hi : ¬ (i : Int) < s.size := by omega
    go_enter Tryz.func20, Tryz.ntmps20
    go_wp2_with fail
    go_ret
    exact ⟨rfl, rfl⟩

set_option maxRecDepth 100000 in
set_option maxHeartbeats 1000000 in
theorem rnumber_c (s : ByteArray) (hs : s.size ≤ 4294967280) (i : Nat) (hi : i ≤ s.size) (w : World) :
    Calls Tryz.prog 21 #[.string s, .int .i64 i] w fun e w' => e = .returned (.int .i64 (numN (s.extract i s.size))) ∧ w = w' := by
  have hn := numN_at s i hi
  obtain ⟨N, hN⟩ : ∃ N, numN (s.extract i s.size) = N := ⟨_, rfl⟩
  rw [hN] at hn ⊢
  have HN := Lib.hid hn
  have HDG : Hid (∀ k w1, Calls Tryz.prog 20 #[.string s, .int .i64 (k : Nat)] w1 fun e w' => e = .returned (.bool (digAt s k)) ∧ w1 = w') := Lib.hid fun k w1 => rdigit_c s hs k w1
  have hle := digE_le s i hi
  have hge := digE_ge s i
  obtain ⟨E, hE0⟩ : ∃ E, digE s i = E := ⟨_, rfl⟩
  rw [hE0] at hle hge HN
  have HE0 := Lib.hid hE0
  clear hn hN hE0
  go_enter Tryz.func21, Tryz.ntmps21
  go_wp2_with fail
  go_loop [5] (fun k => ∃ pos : Nat, i ≤ pos ∧ pos ≤ s.size ∧ k = .int .i64 pos ∧ digE s pos = E) (fun k => s.size - (intOf k).toNat)
  case atStart => exact ⟨i, Nat.le_refl _, hi, rfl, HE0.out⟩
  case round =>
    obtain ⟨pos, hip, hpl, rfl, hE⟩ := hrel
    have hd1 := HDG.out pos w
    obtain ⟨D, hD⟩ : ∃ D, digAt s pos = D := ⟨_, rfl⟩
    rw [hD] at hd1
    have HD := Lib.hid hd1
    cases D
    · have hpe : pos = E := by rw [← hE, digE_stop s pos hD]
      subst hpe
      clear hd1 hE hD
      by_cases hp : pos < s.size
      · have hpi : (pos : Int) < s.size := by omega
        obtain ⟨c, hc⟩ : ∃ c, s.get! pos = c := ⟨_, rfl⟩
        have hx2 : s[pos]'hp = c := by rw [← hc]; exact (get_at s pos hp).symm
        rw [hc] at HN
        by_cases h46 : c = 46
        · have e46 : ((c.toNat : Int) == 46) = true := by rw [h46]; rfl
          have hd2 := HDG.out (pos + 1) w
          obtain ⟨D, hD⟩ : ∃ D, digAt s (pos + 1) = D := ⟨_, rfl⟩
          rw [hD] at hd2 HN
          have HD2 := Lib.hid hd2
          cases D
          · rw [if_neg (fun h => by cases h.2.2)] at HN
            clear hd2 hD hc h46
            go_wp2_with fail
            refine HD.out.mono ?_
            rintro e w' ⟨rfl, rfl⟩
            go_wp2_with fail
            refine HD2.out.mono ?_
            rintro e w' ⟨rfl, rfl⟩
            go_wp2_with fail
            go_ret
            exact ⟨ret_int (by have := HN.out; omega), rfl⟩
          · rw [if_pos ⟨hp, h46, rfl⟩] at HN
            have hle2 := digE_le s (pos + 1) hp
            have hge2 := digE_ge s (pos + 1)
            obtain ⟨E2, hE2⟩ : ∃ E2, digE s (pos + 1) = E2 := ⟨_, rfl⟩
            rw [hE2] at HN hle2 hge2
            have HE2 := Lib.hid hE2
            clear hd2 hD hc h46 hE2
            go_wp2_with fail
            refine HD.out.mono ?_
            rintro e w' ⟨rfl, rfl⟩
            go_wp2_with fail
            refine HD2.out.mono ?_
            rintro e w' ⟨rfl, rfl⟩
            go_wp2_with fail
            go_loop [5] (fun k => ∃ p : Nat, pos + 1 ≤ p ∧ p ≤ s.size ∧ k = .int .i64 p ∧ digE s p = E2) (fun k => s.size - (intOf k).toNat)
            case atStart => exact ⟨pos + 1, Nat.le_refl _, hp, by go_num, HE2.out⟩
            case round =>
              obtain ⟨p, hip2, hpl2, rfl, hE⟩ := hrel
              have hd1 := HDG.out p w
              obtain ⟨D, hD⟩ : ∃ D, digAt s p = D := ⟨_, rfl⟩
              rw [hD] at hd1
              have HD := Lib.hid hd1
              cases D
              · have hpe : p = E2 := by rw [← hE, digE_stop s p hD]
                subst hpe
                clear hd1 hE hD
                go_wp2_with fail
                refine HD.out.mono ?_
                rintro e w' ⟨rfl, rfl⟩
                go_wp2_with fail
                go_ret
                exact ⟨ret_int (by have := HN.out; omega), rfl⟩
              · have hlt : p < s.size := by unfold digAt at hD; simp only [Bool.and_eq_true, decide_eq_true_eq] at hD; exact hD.1
                have hst := digE_step s p hD
                rw [hE] at hst
                have HST := Lib.hid hst
                clear hd1 hE hD hst
                go_wp2_with fail
                refine HD.out.mono ?_
                rintro e w' ⟨rfl, rfl⟩
                go_wp2_with fail
                go_round
                case rel => exact ⟨p + 1, by omega, by omega, by go_num, HST.out.symm⟩
                case measure => simp [intOf]; omega
        · have e46 : ((c.toNat : Int) == 46) = false := by
            simp only [beq_eq_false_iff_ne, ne_eq]
            intro h
            exact h46 (UInt8.toNat_inj.1 (by rw [show (46 : UInt8).toNat = 46 from rfl]; omega))
          rw [if_neg (fun h => h46 h.2.1)] at HN
          clear hc h46
          go_wp2_with fail
          refine HD.out.mono ?_
          rintro e w' ⟨rfl, rfl⟩
          go_wp2_with fail
          go_ret
          exact ⟨ret_int (by have := HN.out; omega), rfl⟩
      · have hpi : ¬ (pos : Int) < s.size := by omega
        rw [if_neg (fun h => hp h.1)] at HN
        go_wp2_with fail
        refine HD.out.mono ?_
        rintro e w' ⟨rfl, rfl⟩
        go_wp2_with fail
        go_ret
        exact ⟨ret_int (by have := HN.out; omega), rfl⟩
    · have hlt : pos < s.size := by unfold digAt at hD; simp only [Bool.and_eq_true, decide_eq_true_eq] at hD; exact hD.1
      have hst := digE_step s pos hD
      rw [hE] at hst
      have HST := Lib.hid hst
      clear hd1 hE hD hst
      go_wp2_with fail
      refine HD.out.mono ?_
      rintro e w' ⟨rfl, rfl⟩
      go_wp2_with fail
      go_round
      case rel => exact ⟨pos + 1, by omega, by omega, by go_num, HST.out.symm⟩
      case measure => simp [intOf]; omega

/-- Four hexadecimal digits' number at a place; -1: they are none. -/
def hexI (s : ByteArray) (i : Nat) : Int := if 4 ≤ (s.data.toList.drop i).length ∧ ((s.data.toList.drop i).take 4).all hexC = true then hexN ((s.data.toList.drop i).take 4) else -1
theorem hexI_not (s : ByteArray) (i j : Nat) (hj : j < 4) (h : s.size ≤ i + j ∨ ∃ c, (s.data.toList.drop i)[j]? = some c ∧ hexC c = false) : hexI s i = -1 := by
  unfold hexI
  rw [if_neg]
  intro h2
  rcases h with h | ⟨c, h, hc⟩
  · have := h2.1
    simp at this
    have : s.data.toList.length = s.size := rfl
    omega
  · have := List.all_eq_true.1 h2.2 c (List.mem_of_getElem? (i := j) (by rw [List.getElem?_take_of_lt hj]; exact h))
    rw [hc] at this
    cases this
theorem hexV_int (c : UInt8) (h : hexC c = true) : ((hexV c : Nat) : Int) = if (c.toNat : Int) ≤ 57 then (c.toNat : Int) - 48 else if 97 ≤ (c.toNat : Int) then (c.toNat : Int) - 87 else (c.toNat : Int) - 55 := by
  unfold hexC at h
  have h := of_decide_eq_true h
  unfold hexV
  split <;> split <;> (try split) <;> (try split) <;> omega

set_option maxRecDepth 100000 in
set_option maxHeartbeats 2000000 in
theorem rhex_c (s : ByteArray) (hs : s.size ≤ 4294967280) (i : Nat) (hi : i ≤ 4294967290) (w : World) :
    Calls Tryz.prog 41 #[.string s, .int .i64 i] w fun e w' => e = .returned (.int .i64 (hexI s i)) ∧ w = w' := by
  obtain ⟨R, hR⟩ : ∃ R, hexI s i = R := ⟨_, rfl⟩
  rw [hR]
  have HR := Lib.hid hR
  have HNOT := Lib.hid fun j hj h => hexI_not s i j hj h
  rw [hR] at HNOT
  have hLl : (s.data.toList.drop i).length = s.size - i := by simp
  have HG : Hid (∀ j, i + j < s.size → (s.data.toList.drop i)[j]? = some (s.get! (i + j))) := Lib.hid fun j hj => by
    rw [List.getElem?_drop, get_bang s (i + j) hj]
    simp
  unfold hexI at HR
  obtain ⟨L, hL⟩ : ∃ L, s.data.toList.drop i = L := ⟨_, rfl⟩
  rw [hL] at HNOT HG hLl HR
  have HLL := Lib.hid hLl
  clear hR hL hLl
  go_enter Tryz.func41, Tryz.ntmps41
  go_wp2_with fail
  go_loop [5, 6] (fun x k => ∃ j : Nat, j ≤ 4 ∧ (j = 0 ∨ i + j ≤ s.size) ∧ k = .int .i64 (i + j : Nat) ∧ (L.take j).all hexC = true ∧ x = .int .i64 (hexN (L.take j))) (fun _ k => i + 4 - (intOf k).toNat)
  case atStart => exact ⟨0, by omega, .inl rfl, rfl, by simp, by simp [hexN]⟩
  case round =>
    obtain ⟨j, hj4, hji, rfl, hall, rfl⟩ := hrel
    have hlt16 : hexN (L.take j) < 65536 := by
      have h1 := hexN_lt _ hall
      have h2 : (L.take j).length ≤ 4 := by simp; omega
      exact Nat.lt_of_lt_of_le h1 (Nat.pow_le_pow_right (n := 16) (by omega) h2)
    obtain ⟨X, hX⟩ : ∃ X, hexN (L.take j) = X := ⟨_, rfl⟩
    rw [hX] at hlt16 ⊢
    have HALL := Lib.hid hall
    have HX := Lib.hid hX
    clear hall hX
    by_cases hj : j < 4
    · have hji2 : ((i + j : Nat) : Int) < i + 4 := by omega
      by_cases hp : i + j < s.size
      · have hpi : ((i + j : Nat) : Int) < s.size := by omega
        have hgj := HG.out j hp
        obtain ⟨c, hc⟩ : ∃ c, s.get! (i + j) = c := ⟨_, rfl⟩
        rw [hc] at hgj
        have HGJ := Lib.hid hgj
        have hcl := c.toNat_lt
        have hjl : j < L.length := by have := HLL.out; omega
        have htk : L.take (j + 1) = L.take j ++ [c] := by
          rw [List.take_add_one, hgj]; rfl
        have HTK := Lib.hid htk
        obtain ⟨k, hk⟩ : ∃ k, i + j = k := ⟨_, rfl⟩
        simp only [hk] at hpi hji2
        rw [hk]
        have hpk : k < s.size := by omega
        have hx2 : s[k]'hpk = c := by rw [← hc, hk]; exact (get_at s k hpk).symm
        have HK := Lib.hid hk
        clear hc hgj htk hjl hk
        have hkk : k + 1 = i + (j + 1) := by have := HK.out; omega
        have hk4 : k < i + 4 := by have := HK.out; omega
        have hks : k < s.size := by omega
        have HKK := Lib.hid hkk
        clear hkk
        by_cases h1 : (48 : Int) ≤ c.toNat ∧ (c.toNat : Int) ≤ 57
        · obtain ⟨h1a, h1b⟩ := h1
          have hh : hexC c = true := by unfold hexC; exact decide_eq_true (by omega)
          have hv := hexV_int c hh
          rw [if_pos h1b] at hv
          have HV := Lib.hid hv
          have HH := Lib.hid hh
          clear hv hh
          go_wp2_with fail
          go_round
          case rel => exact ⟨j + 1, by omega, .inr (by have := HKK.out; omega), by rw [← HKK.out]; go_num, by rw [HTK.out, List.all_append, HALL.out]; simp [HH.out], by rw [HTK.out, hexN_snoc, HX.out]; exact int_eq (by have := HV.out; omega)⟩
          case measure => simp [intOf]; omega
        · by_cases h2 : (97 : Int) ≤ c.toNat ∧ (c.toNat : Int) ≤ 102
          · obtain ⟨h2a, h2b⟩ := h2
            have hh : hexC c = true := by unfold hexC; exact decide_eq_true (by omega)
            have hv := hexV_int c hh
            rw [if_neg (by omega), if_pos h2a] at hv
            have HV := Lib.hid hv
            have HH := Lib.hid hh
            have g1 : (48 : Int) ≤ c.toNat := by omega
            have g2 : (57 : Int) < c.toNat := by omega
            clear hv hh h1
            go_wp2_with fail
            go_round
            case rel => exact ⟨j + 1, by omega, .inr (by have := HKK.out; omega), by rw [← HKK.out]; go_num, by rw [HTK.out, List.all_append, HALL.out]; simp [HH.out], by rw [HTK.out, hexN_snoc, HX.out]; exact int_eq (by have := HV.out; omega)⟩
            case measure => simp [intOf]; omega
          · by_cases h3 : (65 : Int) ≤ c.toNat ∧ (c.toNat : Int) ≤ 70
            · obtain ⟨h3a, h3b⟩ := h3
              have hh : hexC c = true := by unfold hexC; exact decide_eq_true (by omega)
              have hv := hexV_int c hh
              rw [if_neg (by omega), if_neg (by omega)] at hv
              have HV := Lib.hid hv
              have HH := Lib.hid hh
              have g1 : (48 : Int) ≤ c.toNat := by omega
              have g2 : (57 : Int) < c.toNat := by omega
              have g3 : (c.toNat : Int) < 97 := by omega
              clear hv hh h1 h2
              go_wp2_with fail
              go_round
              case rel => exact ⟨j + 1, by omega, .inr (by have := HKK.out; omega), by rw [← HKK.out]; go_num, by rw [HTK.out, List.all_append, HALL.out]; simp [HH.out], by rw [HTK.out, hexN_snoc, HX.out]; exact int_eq (by have := HV.out; omega)⟩
              case measure => simp [intOf]; omega
            · have hh : hexC c = false := by unfold hexC; exact decide_eq_false (by omega)
              have HR1 : Hid (R = -1) := Lib.hid (HNOT.out j hj (.inr ⟨c, HGJ.out, hh⟩))
              clear hh
              go_wp2_with fail
              all_goals go_ret
              all_goals exact ⟨ret_int HR1.out.symm, rfl⟩
      · have hpi : ¬ ((i + j : Nat) : Int) < s.size := by omega
        have HR1 : Hid (R = -1) := Lib.hid (HNOT.out j hj (.inl (by omega)))
        obtain ⟨k, hk⟩ : ∃ k, i + j = k := ⟨_, rfl⟩
        simp only [hk] at hpi hji2
        rw [hk]
        have hks : s.size ≤ k := by omega
        clear hk hji hp
        go_wp2_with fail
        go_ret
        exact ⟨ret_int HR1.out.symm, rfl⟩
    · obtain rfl : j = 4 := by omega
      have hR2 : R = X := by
        rw [← HR.out, if_pos ⟨by have := HLL.out; omega, HALL.out⟩, HX.out]
      subst hR2
      go_wp2_with fail
      go_ret
      exact ⟨rfl, rfl⟩
end Go.Proofs.YtjnaikojoemkaaaGreatDoor
