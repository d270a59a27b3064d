/-
  feellex: the law FeellexReads is true.
-/
import Derived.Test.YtjnaikojoemkaaaGreatDoorFW
namespace Go.Proofs.YtjnaikojoemkaaaGreatDoor
open Go.RowKit

set_option maxRecDepth 100000 in
set_option maxHeartbeats 2000000 in
theorem reads_c {w : World} (s : ByteArray) (hs : s.size ≤ maxLen) (hE : Env w ∧ SignsAt w) :
    Calls Tryz.prog 3 #[.string s] w (RetBel (.bool true) w) := by
  unfold maxLen at hs
  obtain ⟨hE, hw⟩ := hE
  have HAL : Hid (∀ w1, Bel w w1 → Calls Tryz.prog 5 #[] w1 (RetBel (.bool true) w1)) := Lib.hid fun w1 hb => alive_c w1 (hE.bel hb) (signs_bel hw hb)
  by_cases hlt : s.size ≤ 1500
  · have hlti : (s.size : Int) ≤ 1500 := by omega
    have HLX : Hid (∀ w1, Bel w w1 → Calls Tryz.prog 6 #[.string s] w1 (RetLex (lexS s) w1)) := Lib.hid fun w1 hb => lex_c s (by omega) w1 (hE.bel hb) (signs_bel hw hb)
    have HRL : Hid (∀ w1, Calls Tryz.prog 7 #[.string s] w1 (RetLex (lexS s) w1)) := Lib.hid fun w1 => rlex_c s (by omega) w1
    have hlen := lexS_len s
    obtain ⟨⟨RL, R2, R3⟩, hR⟩ : ∃ R, lexS s = R := ⟨_, rfl⟩
    rw [hR] at HLX HRL hlen
    simp only at hlen
    clear hR hE hw
    go_enter Tryz.func3, Tryz.ntmps3
    go_wp2_with fail
    refine (HLX.out _ (Bel.refl _)).mono ?_
    rintro e w1 ⟨b1, v1, rfl, o1⟩
    go_wp2_with fail
    refine (HRL.out _).mono ?_
    rintro e w2 ⟨b2, v2, rfl, o2⟩
    go_wp2_with fail
    refine (HAL.out _ (b1.trans b2)).mono ?_
    rintro e w3 ⟨rfl, b3⟩
    have HSM : Hid (Calls Tryz.prog 8 #[v1, v2, .bool true] w3 (RetBel (.bool true) w3)) := Lib.hid (by
      have := rsame_c v1 v2 (RL.map toLx) (RL.map toLx) true w3 (((own_rowL o1).bel b2).bel b3) ((own_rowL o2).bel b3) (by simp; omega) (by simp; omega)
      rwa [sameL_refl] at this)
    clear o1 o2
    go_wp2_with fail
    refine (HSM.out).mono ?_
    rintro e w4 ⟨rfl, b4⟩
    go_wp2_with fail
    go_ret
    exact ⟨rfl, ((b1.trans b2).trans b3).trans b4⟩
  · have hlti : (1500 : Int) < s.size := by omega
    go_enter Tryz.func3, Tryz.ntmps3
    go_wp2_with fail
    refine (HAL.out _ (Bel.refl _)).mono ?_
    rintro e w3 ⟨rfl, b3⟩
    go_wp2_with fail
    go_ret
    exact ⟨rfl, b3⟩
end Go.Proofs.YtjnaikojoemkaaaGreatDoor
