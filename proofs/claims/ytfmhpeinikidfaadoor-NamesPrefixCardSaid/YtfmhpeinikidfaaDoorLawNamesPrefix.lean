/-
  The walk of the law NamesPrefix: whatever the texts: true.
-/
import Derived.Test.YtfmhpeinikidfaaDoorQ
import Derived.Test.YtfmhpeinikidfaaDoorT
namespace Go.Proofs.YtfmhpeinikidfaaDoor
open Go.RowKit

set_option maxHeartbeats 1000000 in
theorem namesPrefix_walk (s : ByteArray) (hs : s.size ≤ maxLen) (t : ByteArray) (ht : t.size ≤ maxLen) (w : World) (hE : Env w) : Calls Tryd.prog 4 #[.string s, .string t] w (RetBel (.bool true) w) := by
  unfold maxLen at hs ht
  by_cases hbig : 1000 < s.size ∨ 1000 < t.size
  · have hbig' : (1000 : Int) < s.size ∨ (1000 : Int) < t.size := by omega
    clear hbig
    rcases hbig' with hb | hb
    · go_enter Tryd.func4, Tryd.ntmps4
      go_wp2_with (go_at_call 9; refine (alive_c _ hE).mono ?_; rintro e w1 ⟨rfl, hb⟩)
      all_goals go_ret
      all_goals exact ⟨rfl, by assumption⟩
    · go_enter Tryd.func4, Tryd.ntmps4
      go_wp2_with (go_at_call 9; refine (alive_c _ hE).mono ?_; rintro e w1 ⟨rfl, hb⟩)
      all_goals go_ret
      all_goals exact ⟨rfl, by assumption⟩
  · have hs1 : (s.size : Int) ≤ 1000 := by omega
    have ht1 : (t.size : Int) ≤ 1000 := by omega
    have hss : s.size ≤ 4294967280 := by omega
    have hts : t.size ≤ 4294967280 := by omega
    have g1 : (s ++ ⟨#[58]⟩ ++ t).size ≤ 4294967280 := by simp [ByteArray.size_append]; show s.size + 1 + t.size ≤ _; omega
    have g2 : (s ++ ⟨#[58]⟩ ++ t ++ ⟨#[58]⟩ ++ s).size ≤ 4294967280 := by simp [ByteArray.size_append]; show s.size + 1 + t.size + 1 + s.size ≤ _; omega
    have h1 := fun w1 (hE1 : Env w1) => split_c _ g1 w1 hE1
    have h2 := fun w1 (hE1 : Env w1) => split_c _ g2 w1 hE1
    have h3 := fun w1 (hE1 : Env w1) => plain_c s hss w1 hE1
    have h4 := fun w1 (hE1 : Env w1) => plain_c t hts w1 hE1
    have h5 := fun (h : plainS s = true) w1 (hE1 : Env w1) => (split_plain s h) ▸ split_c s hss w1 hE1
    rw [split_colon] at h1
    rw [split_two] at h2
    obtain ⟨P, hP⟩ : ∃ P, plainS s = P := ⟨_, rfl⟩
    obtain ⟨Q, hQ⟩ : ∃ Q, plainS t = Q := ⟨_, rfl⟩
    rw [hP] at h1 h3 h5
    rw [hQ] at h1 h4
    have HE := Lib.hid hE
    have H2 := Lib.hid h2
    clear hbig hP hQ hE h2 g1 g2
    cases P <;> cases Q
    all_goals
      simp only [Bool.false_eq_true, false_and, and_false, and_self, if_true, if_false] at h1
      have H1 := Lib.hid h1
      have H3 := Lib.hid h3
      have H4 := Lib.hid h4
      have H5 := Lib.hid h5
      clear h1 h3 h4 h5
      go_enter Tryd.func4, Tryd.ntmps4
      go_wp2_with fail
      refine (H1.out _ HE.out).mono ?_
      rintro e w1 ⟨rfl, hb1⟩
      have hE1 := HE.out.bel hb1
      go_wp2_with fail
      refine (H3.out _ hE1).mono ?_
      rintro e w2 ⟨rfl, hb2⟩
      have hE2 := hE1.bel hb2
      go_wp2_with fail
    · refine (alive_c _ hE2).mono ?_
      rintro e w3 ⟨rfl, hb3⟩
      go_wp2_with fail
      go_ret
      exact ⟨rfl, (hb1.trans hb2).trans hb3⟩
    · refine (alive_c _ hE2).mono ?_
      rintro e w3 ⟨rfl, hb3⟩
      go_wp2_with fail
      go_ret
      exact ⟨rfl, (hb1.trans hb2).trans hb3⟩
    · refine (H4.out _ hE2).mono ?_
      rintro e w3 ⟨rfl, hb3⟩
      have hE3 := hE2.bel hb3
      go_wp2_with fail
      refine (alive_c _ hE3).mono ?_
      rintro e w4 ⟨rfl, hb4⟩
      go_wp2_with fail
      go_ret
      exact ⟨rfl, ((hb1.trans hb2).trans hb3).trans hb4⟩
    · refine (H4.out _ hE2).mono ?_
      rintro e w3 ⟨rfl, hb3⟩
      have hE3 := hE2.bel hb3
      go_wp2_with fail
      refine (H5.out trivial _ hE3).mono ?_
      rintro e w4 ⟨rfl, hb4⟩
      have hE4 := hE3.bel hb4
      go_wp2_with fail
      refine (H2.out _ hE4).mono ?_
      rintro e w5 ⟨rfl, hb5⟩
      have hE5 := hE4.bel hb5
      go_wp2_with fail
      refine (alive_c _ hE5).mono ?_
      rintro e w6 ⟨rfl, hb6⟩
      go_wp2_with fail
      go_ret
      exact ⟨rfl, ((((hb1.trans hb2).trans hb3).trans hb4).trans hb5).trans hb6⟩
end Go.Proofs.YtfmhpeinikidfaaDoor
