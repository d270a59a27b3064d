/-
  feelprint's laws: where a text stands in another one.
-/
import Derived.Test.YtpenfnabeckboaaGreatDoorFPL
namespace Go.Proofs.YtpenfnabeckboaaGreatDoor
open Go.RowKit

instance occDec (s t : List UInt8) (i : Nat) : Decidable (Occ s t i) := by unfold Occ; infer_instance
theorem occ_eq {s t : ByteArray} {j : Nat} (h : j + t.size ≤ s.size) : ((s.extract j (j + t.size)).toList == t.toList) = decide (Occ (btsOf s) (btsOf t) j) := by
  rw [bytes_eq, decide_eq_decide]
  unfold Occ
  rw [btsOf_len, btsOf_len]
  constructor
  · intro e
    refine ⟨h, ?_⟩
    have := congrArg btsOf e
    rw [← this]
    simp [btsOf]
  · rintro ⟨_, e⟩
    apply ByteArray.ext
    apply Array.toList_inj.1
    rw [← show btsOf t = t.data.toList from rfl, ← e]
    simp [btsOf]
set_option maxRecDepth 100000 in
set_option maxHeartbeats 2000000 in
theorem index_c (s t : ByteArray) (i : Nat) (hs : s.size ≤ 4611686018427387904) (ho : Occ (btsOf s) (btsOf t) i) (hn : ∀ j, j < i → ¬ Occ (btsOf s) (btsOf t) j) (w : World) :
    Calls Tryz.prog 11 #[.string s, .string t] w (RetBel (.int .i64 i) w) := by
  have hi : i + t.size ≤ s.size := by have := ho.1; rwa [btsOf_len, btsOf_len] at this
  have HO := Lib.hid ho
  have HN := Lib.hid hn
  clear ho hn
  go_enter Tryz.func11, Tryz.ntmps11
  go_wp2_with fail
  go_loopw [5] (fun v wr => ∃ j : Nat, j ≤ i ∧ v = .int .i64 j ∧ Bel w wr) (fun v _ => i - (intOf v).toNat)
  case atStart => exact ⟨0, Nat.zero_le _, rfl, Bel.refl _⟩
  case round =>
    obtain ⟨j, hj, rfl, hb⟩ := hrel
    have hjs : (j : Int) + t.size ≤ s.size := by omega
    have hoc := occ_eq (s := s) (t := t) (j := j) (by omega)
    have HB := Lib.hid hb
    clear hb
    by_cases hji : j = i
    · subst hji
      rw [decide_eq_true HO.out] at hoc
      have HOC := Lib.hid hoc
      clear hi
      go_wp2_with fail
      go_ret
      exact ⟨rfl, HB.out⟩
    · rw [decide_eq_false (HN.out j (by omega))] at hoc
      go_wp2_with fail
      exact ⟨⟨j + 1, by omega, by go_num, HB.out⟩, by simp [intOf]; omega⟩
end Go.Proofs.YtpenfnabeckboaaGreatDoor
