/-
  The walk of the law NamesSplits: whatever the text: true.
-/
import Derived.Test.YtfmhpeinikidfaaDoorQ
import Derived.Test.YtfmhpeinikidfaaDoorR
namespace Go.Proofs.YtfmhpeinikidfaaDoor
open Go.RowKit

set_option maxHeartbeats 1000000 in
theorem namesSplits_walk (s : ByteArray) (hs : s.size ≤ maxLen) (w : World) (hE : Env w) : Calls Tryd.prog 3 #[.string s] w (RetBel (.bool true) w) := by
  unfold maxLen at hs
  by_cases hbig : 2000 < s.size
  · have hbig' : (2000 : Int) < s.size := by omega
    go_enter Tryd.func3, Tryd.ntmps3
    go_wp2_with (go_at_call 9; refine (alive_c _ hE).mono ?_; rintro e w1 ⟨rfl, hb⟩)
    go_ret
    exact ⟨rfl, by assumption⟩
  · have hsm : s.size ≤ 4294967280 := by omega
    have h2000 : (s.size : Int) ≤ 2000 := by omega
    have h1 := fun w1 (hE1 : Env w1) => split_c s hsm w1 hE1
    have h2 := fun w1 => rsplit_c s hsm w1
    have h3 := fun w1 (hE1 : Env w1) => plain_c s hsm w1 hE1
    have h4 := fun w1 => rplain_c s hsm w1
    rw [split_same] at h1
    simp only [plain_same] at h3
    obtain ⟨P, hP⟩ : ∃ P, rplainS s = P := ⟨_, rfl⟩
    obtain ⟨⟨A, B, T⟩, hR⟩ : ∃ R, rsplitS s = R := ⟨_, rfl⟩
    rw [hR] at h1 h2
    rw [hP] at h3 h4
    have HE := Lib.hid hE
    clear hbig hR hP hE
    have key : ∀ n : Nat, (n = if T = true then 0 else 6) → Calls Tryd.prog 3 #[.string s] w (RetBel (.bool true) w) := by
      intro n hn
      have h1' : ∀ w1 (hE1 : Env w1), Calls Tryd.prog 10 #[.string s] w1 fun e w' => e = .returned (.tuple #[.string A, .string B, .int .i64 n]) ∧ Bel w1 w' := by rw [hn]; exact h1
      have H1 := Lib.hid h1'
      have H2 := Lib.hid h2
      have H3 := Lib.hid h3
      have H4 := Lib.hid h4
      clear h1 h2 h3 h4 h1'
      cases T
      all_goals
        simp at hn
        subst hn
        go_enter Tryd.func3, Tryd.ntmps3
        go_wp2_with fail
        refine (H1.out _ HE.out).mono ?_
        rintro e w1 ⟨rfl, hb1⟩
        have hE1 := HE.out.bel hb1
        go_wp2_with fail
        refine (H2.out _).mono ?_
        rintro e w2 ⟨rfl, hb2⟩
        have hE2 := hE1.bel hb2
        go_wp2_with fail
        refine (alive_c _ hE2).mono ?_
        rintro e w3 ⟨rfl, hb3⟩
        have hE3 := hE2.bel hb3
        go_wp2_with fail
        refine (H3.out _ hE3).mono ?_
        rintro e w4 ⟨rfl, hb4⟩
        go_wp2_with fail
        refine (H4.out _).mono ?_
        rintro e w5 ⟨rfl, hb5⟩
        go_wp2_with fail
        go_ret
        exact ⟨rfl, (((hb1.trans hb2).trans hb3).trans hb4).trans hb5⟩
    exact key _ rfl
end Go.Proofs.YtfmhpeinikidfaaDoor
