/-
  The walks of the document's answer for scope: Has, Longest.
  The walk of the document's answer for scope: With.
-/
import Derived.Test.YtbcdbefogfmhfaaGreatDoorSPA
import Derived.Test.YtbcdbefogfmhfaaGreatDoorMK
import Derived.Test.YtbcdbefogfmhfaaGreatDoorMB
import Derived.BigQuiet
import Derived.Deep.QuietTactic
import Derived.Deep.RegionHeld3
import Derived.IntWalk
namespace Go.Proofs.YtbcdbefogfmhfaaGreatDoor
open Go.RowKit
set_option maxRecDepth 100000 in
set_option maxHeartbeats 1000000 in
theorem rhas_c (sl : Value) (l : List ByteArray) (x : ByteArray) (w : World) (hv : RowAt0 w sl (strsV l)) (hl : l.length ≤ 4294967290) :
    Calls Tryz.prog 12 #[sl, .string x] w (RetBel (.bool (decide (x ∈ l))) w) := by
  obtain ⟨ao, cap, rfl, hcs⟩ := row0_form hv l.length (strsV_length l)
  obtain ⟨R, hR⟩ : ∃ R, decide (x ∈ l) = R := ⟨_, rfl⟩
  rw [hR]
  obtain ⟨n, hn⟩ : ∃ n, l.length = n := ⟨_, rfl⟩
  rw [hn] at hcs hl ⊢
  have HR := Lib.hid hR
  have HCS := Lib.hid hcs
  have HN := Lib.hid hn
  clear hR hcs hn hv
  go_enter Tryz.func12, Tryz.ntmps12
  go_wp2_with fail
  go_loopw [5] (fun i wr => ∃ k : Nat, k ≤ n ∧ i = .int .i64 k ∧ Bel w wr ∧ decide (x ∈ l.drop k) = R) (fun i _ => n - (intOf i).toNat)
  case atStart => exact ⟨0, Nat.zero_le _, rfl, Bel.refl _, HR.out⟩
  case round =>
    obtain ⟨k, hk, rfl, hbel, hd⟩ := hrel
    by_cases hkn : k < n
    · have hkl : k < l.length := by rw [HN.out]; exact hkn
      obtain ⟨b, off, rfl, hlt, hcap, hce⟩ := HCS.out (by omega)
      rw [List.drop_eq_getElem_cons hkl] at hd
      obtain ⟨y, hy⟩ : ∃ y, l[k] = y := ⟨_, rfl⟩
      have hcell : wr.cell? ⟨b, off + k, none⟩ = some (.string y) := by
        rw [hbel.cell hlt, hce k hkn, ← hy]; simp [strsV, hkl]
      rw [hy] at hd
      have HD := Lib.hid hd
      clear hy hd hce
      go_wp2_with fail
      · have hxy : (y.toList == x.toList) = true := by assumption
        go_ret
        refine ⟨ret_bool ?_, hbel⟩
        rw [← HD.out, toList_eq hxy]
        simp
      · have hxy : (y.toList == x.toList) = false := by assumption
        refine ⟨⟨k + 1, by omega, by go_num, hbel, ?_⟩, by simp [intOf]; omega⟩
        rw [← HD.out]
        have := toList_ne hxy
        simp [Ne.symm this]
    · obtain rfl : k = n := by omega
      rw [List.drop_of_length_le (by have := HN.out; omega)] at hd
      obtain rfl : R = false := by rw [← hd]; simp
      go_wp2_with fail
      go_ret
      exact ⟨rfl, hbel⟩
end Go.Proofs.YtbcdbefogfmhfaaGreatDoor
