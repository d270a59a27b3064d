/-
  The walk of the scope laws' own 'same'.
-/
import Derived.Test.YtaaedmipcffjoaaDoorP
import Derived.BigQuiet
import Derived.Deep.QuietTactic
namespace Go.Proofs.YtaaedmipcffjoaaDoor
open Go.RowKit

set_option maxHeartbeats 1000000 in
theorem ssame_c (v1 v2 : Value) (a b : List ByteArray) (w : World) (h1 : RowAt0 w v1 (strsV a)) (h2 : RowAt0 w v2 (strsV b)) (hl : a.length ≤ 4294967290) :
    Calls Tryd.prog 28 #[v1, v2] w (RetBel (.bool (decide (a = b))) w) := by
  obtain ⟨ao, c1, rfl, hc1⟩ := row0_form h1 a.length (strsV_length a)
  obtain ⟨bo, c2, rfl, hc2⟩ := row0_form h2 b.length (strsV_length b)
  by_cases hne : a.length = b.length
  · obtain ⟨n, hn⟩ : ∃ n, a.length = n := ⟨_, rfl⟩
    have hn2 : b.length = n := by omega
    rw [hn] at hc1 hl ⊢
    rw [hn2] at hc2 ⊢
    have HA := Lib.hid hn
    have HB := Lib.hid hn2
    clear hne h1 h2
    by_cases h0 : n = 0
    · subst h0
      have : a = b := by rw [List.eq_nil_of_length_eq_zero hn, List.eq_nil_of_length_eq_zero hn2]
      rw [decide_eq_true this]
      clear hc1 hc2 hn hn2 this
      go_enter Tryd.func28, Tryd.ntmps28
      go_wp2_with fail
      refine wp_loop_rounds 1 ?_
      rw [rounds_succ]
      go_wp2_with fail
      go_ret
      exact ⟨rfl, Bel.refl _⟩
    · obtain ⟨b1, off1, rfl, hlt1, hcap1, hce1⟩ := hc1 (by omega)
      obtain ⟨b2, off2, rfl, hlt2, hcap2, hce2⟩ := hc2 (by omega)
      obtain ⟨R, hR⟩ : ∃ R, decide (a = b) = R := ⟨_, rfl⟩
      rw [hR]
      have HC1 := Lib.hid hce1
      have HC2 := Lib.hid hce2
      have HR := Lib.hid hR
      have hnn : ((n : Int) != n) = false := by simp
      clear hc1 hc2 hce1 hce2 hR hn hn2 h0
      go_enter Tryd.func28, Tryd.ntmps28
      go_wp2_with fail
      go_loopw [13] (fun i wr => ∃ k : Nat, k ≤ n ∧ i = .int .i64 k ∧ Bel w wr ∧ decide (a.drop k = b.drop k) = R) (fun i _ => n - (intOf i).toNat)
      case atStart => exact ⟨0, Nat.zero_le _, rfl, Bel.refl _, HR.out⟩
      case round =>
        obtain ⟨k, hk, rfl, hbel, hd⟩ := hrel
        by_cases hkn : k < n
        · have hka : k < a.length := by rw [HA.out]; exact hkn
          have hkb : k < b.length := by rw [HB.out]; exact hkn
          rw [List.drop_eq_getElem_cons hka, List.drop_eq_getElem_cons hkb] at hd
          obtain ⟨x, hx⟩ : ∃ x, a[k] = x := ⟨_, rfl⟩
          obtain ⟨y, hy⟩ : ∃ y, b[k] = y := ⟨_, rfl⟩
          have hcx : wr.cell? ⟨b1, off1 + k, none⟩ = some (.string x) := by
            rw [hbel.cell hlt1, HC1.out k hkn, ← hx]; simp [strsV, hka]
          have hcy : wr.cell? ⟨b2, off2 + k, none⟩ = some (.string y) := by
            rw [hbel.cell hlt2, HC2.out k hkn, ← hy]; simp [strsV, hkb]
          rw [hx, hy] at hd
          have HD := Lib.hid hd
          have hki : (k : Int) < n := by omega
          clear hx hy hd
          go_wp2_with fail
          go_quiet (fail)
          go_wp2_with fail
          · have hxy : (!x.toList == y.toList) = true := by assumption
            go_ret
            have hr : R = false := by
              rw [← HD.out]
              refine decide_eq_false (fun h => ?_)
              injection h with h _
              rw [h] at hxy
              simp at hxy
            exact ⟨ret_bool hr.symm, hbel.to_drewN nq⟩
          · have hxy : (!x.toList == y.toList) = false := by assumption
            refine ⟨⟨k + 1, by omega, by go_num, hbel.to_drewN nq, ?_⟩, by simp [intOf]; omega⟩
            rw [← HD.out]
            have h2 : x = y := toList_eq (by simpa using hxy)
            rw [h2]
            simp
        · obtain rfl : k = n := by omega
          go_wp2_with fail
          go_ret
          rw [List.drop_of_length_le (by have := HA.out; omega), List.drop_of_length_le (by have := HB.out; omega)] at hd
          refine ⟨?_, hbel⟩
          rw [← hd]; rfl
  · have hd : decide (a = b) = false := decide_eq_false (fun h => hne (by rw [h]))
    rw [hd]
    have hnn : ((a.length : Int) != b.length) = true := by simp; omega
    have hne2 : ((a.length : Int) == b.length) = false := by simp; omega
    clear hc1 hc2 hd hne h1 h2
    go_enter Tryd.func28, Tryd.ntmps28
    go_wp2_with fail
    go_ret
    exact ⟨rfl, Bel.refl _⟩
end Go.Proofs.YtaaedmipcffjoaaDoor
