/-
  strconv.ParseUint at four digits to the base 16.
-/
import Derived.Test.YtjnaikojoemkaaaDoorFD
import Derived.IntWalk
import Derived.Laws.BitsAllLaws
namespace Go.Proofs.YtjnaikojoemkaaaDoor
open Go.RowKit

/-- A digit to the base 16. -/
def hexC (c : UInt8) : Bool := decide (48 ≤ c.toNat ∧ c.toNat ≤ 57 ∨ 97 ≤ c.toNat ∧ c.toNat ≤ 102 ∨ 65 ≤ c.toNat ∧ c.toNat ≤ 70)
def hexV (c : UInt8) : Nat := if c.toNat ≤ 57 then c.toNat - 48 else if 97 ≤ c.toNat then c.toNat - 87 else c.toNat - 55
def lowV (c : UInt8) : Nat := if 97 ≤ c.toNat then c.toNat else c.toNat + 32
def hexN (l : List UInt8) : Nat := l.foldl (fun n c => 16 * n + hexV c) 0
theorem hexV_lt (c : UInt8) (h : hexC c = true) : hexV c < 16 := by
  have := of_decide_eq_true h
  unfold hexV
  split
  · omega
  · split <;> omega
theorem hexN_snoc (l : List UInt8) (c : UInt8) : hexN (l ++ [c]) = 16 * hexN l + hexV c := by simp [hexN, List.foldl_append]
theorem low_all : ((List.range 256).all fun a => !(decide (97 ≤ a ∧ a ≤ 102 ∨ 65 ≤ a ∧ a ≤ 70)) || (a ||| 32) == (if 97 ≤ a then a else a + 32)) = true := by decide +kernel
theorem low_eq (c : UInt8) (h : hexC c = true) (h2 : 57 < c.toNat) : bits .or .u8 (c.toNat : Int) 32 = (lowV c : Nat) := by
  have hc := of_decide_eq_true h
  have hlt : c.toNat < 256 := c.toNat_lt
  have h1 := u8_or_nat c.toNat 32 hlt (by omega)
  have h3 := List.all_eq_true.1 low_all c.toNat (List.mem_range.2 hlt)
  rw [show ((32 : Nat) : Int) = 32 from rfl] at h1
  rw [h1]
  have h4 : decide (97 ≤ c.toNat ∧ c.toNat ≤ 102 ∨ 65 ≤ c.toNat ∧ c.toNat ≤ 70) = true := decide_eq_true (by omega)
  rw [h4] at h3
  have h5 : (c.toNat ||| 32) = lowV c := by simpa [lowV] using h3
  rw [h5]

set_option maxHeartbeats 400000 in
theorem lower_c (c : UInt8) (h : hexC c = true) (h2 : 57 < c.toNat) (w : World) :
    Calls Tryd.prog 66 #[.int .u8 c.toNat] w fun e w' => e = .returned (.int .u8 (lowV c)) ∧ w = w' := by
  have he := Lib.hid (low_eq c h h2)
  go_enter Tryd.func66, Tryd.ntmps66
  go_wp2_with fail
  go_ret
  exact ⟨by rw [← he.out]; rfl, rfl⟩

set_option maxRecDepth 100000 in
set_option maxHeartbeats 4000000 in
theorem puint_c (s : ByteArray) (h4 : s.size = 4) (hx : s.data.toList.all hexC = true) (w : World) :
    Calls Tryd.prog 59 #[.string s, .int .i64 16, .int .i64 32] w fun e w' => e = .returned (.tuple #[.int .u64 (hexN s.data.toList), .nilIface]) ∧ Bel w w' := by
  have hl4 : s.data.toList.length = 4 := h4
  have hne : s.toList.isEmpty = false := by
    rw [Lib.toList_data]
    cases hl : s.data.toList with
    | nil => rw [hl] at hl4; cases hl4
    | cons x l => rfl
  obtain ⟨R, hR⟩ : ∃ R, hexN s.data.toList = R := ⟨_, rfl⟩
  rw [hR]
  have HR := Lib.hid hR
  have HX := Lib.hid hx
  have HL := Lib.hid hl4
  clear hR hx hl4
  go_enter Tryd.func59, Tryd.ntmps59
  go_wp2_with (refine wpL_bytes rfl 9 39 5 _ rfl s rfl Tryd.underlying9 Tryd.underlying39 Tryd.underlying5 ?_; intro v W1 hv hb1; obtain ⟨b, off, cap, rfl, hlt, hce, hcap⟩ := hv; rw [h4] at hce hcap ⊢; have HCE := Lib.hid hce; clear hce)
  go_loopw [12, 13, 101] (fun u n i wr => ∃ k m : Nat, k ≤ 4 ∧ u = .bool false ∧ n = .int .u64 m ∧ i = .int .i64 k ∧ W1 = wr ∧ m = hexN (s.data.toList.take k) ∧ m < 16 ^ k) (fun _ _ i _ => 4 - (intOf i).toNat)
  case atStart => exact ⟨0, 0, by omega, rfl, rfl, rfl, rfl, rfl, by decide⟩
  case round =>
    obtain ⟨k, m, hk, rfl, rfl, rfl, rfl, hm, hm2⟩ := hrel
    by_cases hk4 : k < 4
    · have hki : (k : Int) < 4 := by omega
      have hkl : k < s.data.toList.length := by rw [HL.out]; exact hk4
      obtain ⟨c, hc⟩ : ∃ c, s.data.toList[k] = c := ⟨_, rfl⟩
      have hxc : hexC c = true := by
        rw [← hc]; exact List.all_eq_true.1 HX.out _ (List.getElem_mem hkl)
      have hcell : W1.cell? ⟨b, off + k, none⟩ = some (.int .u8 c.toNat) := by
        rw [HCE.out k hk4, ← hc, get_bang s k hkl]
        rfl
      have hsn := hexN_snoc (s.data.toList.take k) c
      rw [← hm, ← hc, ← List.take_succ_eq_append_getElem hkl, hc] at hsn
      have hvl := hexV_lt c hxc
      have hm3 : m < 4096 := Nat.lt_of_lt_of_le hm2 (by
        have : (16 : Nat) ^ k ≤ 16 ^ 3 := Nat.pow_le_pow_right (by omega) (by omega)
        simpa using this)
      have hm4 : 16 * m + hexV c < 16 ^ (k + 1) := by rw [Nat.pow_succ]; omega
      have hcc := of_decide_eq_true hxc
      have HSN := Lib.hid hsn
      have HM4 := Lib.hid hm4
      have HXC := Lib.hid hxc
      clear hc hsn hm4 hm hm2 hxc
      obtain ⟨a, ha⟩ : ∃ a, c.toNat = a := ⟨_, rfl⟩
      rw [ha] at hcell hcc
      have n95 : ((a : Int) == 95) = false := by simp; omega
      by_cases hd : a ≤ 57
      · have hv : hexV c = a - 48 := by unfold hexV; rw [ha, if_pos hd]
        have d1 : (48 : Int) ≤ a := by omega
        have d2 : (a : Int) ≤ 57 := by omega
        have HV := Lib.hid hv
        have HA := Lib.hid ha
        have f1 : IntKind.u8.wrap ((a : Int) - 48) = (a : Int) - 48 := by rw [IntKind.wrap_u8]; omega
        have f2 : (a : Int) - 48 < 16 := by omega
        have f3 : (0 : Int) ≤ (a : Int) - 48 := by omega
        have hvl2 := hvl
        rw [hv] at hvl2
        obtain ⟨C, hC, hC2⟩ : ∃ C : Int, (1152921504606846976 : Int) = C ∧ 65536 ≤ C := ⟨_, rfl, by omega⟩
        obtain ⟨M, hM, hM2⟩ : ∃ M : Int, (4294967295 : Int) = M ∧ 65536 ≤ M := ⟨_, rfl, by omega⟩
        rw [hC, hM]
        have g1 : (m : Int) < C := by omega
        have g2 : (m : Int) * 16 + ((a : Int) - 48) ≤ M := by omega
        clear hv ha hvl hcc hb1 hvl2 hC hM
        go_wp2_with fail
        refine ⟨⟨k + 1, 16 * m + hexV c, by omega, rfl, ?_, by go_num, trivial, HSN.out.symm, HM4.out⟩, by simp [intOf]; omega⟩
        rw [HV.out]
        congr 1
        omega
      · have hlo := fun w1 => lower_c c HXC.out (by omega) w1
        rw [ha] at hlo
        have hlv : 97 ≤ lowV c ∧ lowV c ≤ 102 ∧ hexV c + 87 = lowV c := by
          unfold lowV hexV
          rw [ha, if_neg hd]
          split <;> omega
        obtain ⟨l, hl⟩ : ∃ l, lowV c = l := ⟨_, rfl⟩
        rw [hl] at hlv hlo
        have HLO := Lib.hid hlo
        have HLV := Lib.hid hlv
        have HA := Lib.hid ha
        have d1 : (48 : Int) ≤ a := by omega
        have d2 : (57 : Int) < a := by omega
        have d3 : (97 : Int) ≤ l := by omega
        have d4 : (l : Int) ≤ 122 := by omega
        have d5 : (l : Int) - 97 + 10 < 16 := by omega
        have f1 : IntKind.u8.wrap ((l : Int) - 97) = (l : Int) - 97 := by rw [IntKind.wrap_u8]; omega
        have f2 : IntKind.u8.wrap ((l : Int) - 97 + 10) = (l : Int) - 97 + 10 := by rw [IntKind.wrap_u8]; omega
        obtain ⟨C, hC, hC2⟩ : ∃ C : Int, (1152921504606846976 : Int) = C ∧ 65536 ≤ C := ⟨_, rfl, by omega⟩
        obtain ⟨M, hM, hM2⟩ : ∃ M : Int, (4294967295 : Int) = M ∧ 65536 ≤ M := ⟨_, rfl, by omega⟩
        rw [hC, hM]
        have g1 : (m : Int) < C := by omega
        have g2 : (m : Int) * 16 + ((l : Int) - 97 + 10) ≤ M := by omega
        clear ha hvl hcc hb1 hC hM hlo hlv hl
        go_wp2_with (first | (go_at_call 66; refine (HLO.out _).mono ?_; rintro e w1 ⟨rfl, rfl⟩))
        refine ⟨⟨k + 1, 16 * m + hexV c, by omega, rfl, ?_, by go_num, trivial, HSN.out.symm, HM4.out⟩, by simp [intOf]; omega⟩
        have := HLV.out
        congr 1
        omega
    · obtain rfl : k = 4 := by omega
      go_wp2_with fail
      go_ret2
      refine ⟨?_, hb1⟩
      rw [List.take_of_length_le (by rw [HL.out]; omega), HR.out] at hm
      subst hm
      rfl
end Go.Proofs.YtjnaikojoemkaaaDoor
