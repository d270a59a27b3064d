/-
  The walk of the law NamesWords: whatever the text: true.
-/
import Derived.Test.YtfmhpeinikidfaaDoorQ
import Derived.Test.YtfmhpeinikidfaaDoorY
import Derived.Test.YtfmhpeinikidfaaDoorRI
namespace Go.Proofs.YtfmhpeinikidfaaDoor
open Go.RowKit

set_option maxHeartbeats 1000000 in
theorem namesWords_walk (s : ByteArray) (hs : s.size ≤ maxLen) (w : World) (hE : Env w) : Calls Tryd.prog 5 #[.string s] w (RetBel (.bool true) w) := by
  unfold maxLen at hs
  by_cases hbig : 2000 < s.size
  · have hbig' : (2000 : Int) < s.size := by omega
    go_enter Tryd.func5, Tryd.ntmps5
    go_wp2_with (go_at_call 9; refine (alive_c _ hE).mono ?_; rintro e w1 ⟨rfl, hb⟩)
    go_ret
    exact ⟨rfl, by assumption⟩
  · have h2000 : (s.size : Int) ≤ 2000 := by omega
    have hss : s.size ≤ 4294967280 := by omega
    have hsr : s.size ≤ 4294967200 := by omega
    have h1 := fun w1 (hE1 : Env w1) => words_c s hss w1 hE1
    have h2 := fun w1 => rwords_c s hsr w1
    have h3 := fun w1 (hE1 : Env w1) => right_c s hss w1 hE1
    have h4 := fun w1 => keyword_c s hss w1
    have h5 := fun w1 => rkeyword_c s w1
    have h6 := fun w1 (hE1 : Env w1) => word_c s hss w1 hE1
    have h7 := fun w1 => rword_c s hss w1
    rw [words_same] at h2
    rw [word_same] at h7
    obtain ⟨K, hK⟩ : ∃ K, isKw s = K := ⟨_, rfl⟩
    obtain ⟨P, hP⟩ : ∃ P, wordS s = P := ⟨_, rfl⟩
    obtain ⟨R, hR⟩ : ∃ R, wordsS s = R := ⟨_, rfl⟩
    have hlen : ∀ l, R = some l → l.length ≤ 4294967290 := by
      intro l hl
      rw [hl] at hR
      unfold wordsS at hR
      split at hR
      · injection hR with hR
        rw [← hR, parts_length]
        have := count_le s
        omega
      · cases hR
    rw [hK] at h4 h5
    rw [hP] at h6 h7
    rw [hR] at h1 h2 h3
    have HE := Lib.hid hE
    have H4 := Lib.hid h4
    have H5 := Lib.hid h5
    have H6 := Lib.hid h6
    have H7 := Lib.hid h7
    clear hbig hK hP hR hE h4 h5 h6 h7
    cases R
    · have H1 := Lib.hid h1
      have H2 := Lib.hid h2
      have H3 := Lib.hid h3
      clear h1 h2 h3 hlen
      go_enter Tryd.func5, Tryd.ntmps5
      go_wp2_with fail
      refine (H1.out _ HE.out).mono ?_
      rintro e w1 ⟨hb1, rfl⟩
      have hE1 := HE.out.bel hb1
      go_wp2_with fail
      refine (H2.out _).mono ?_
      rintro e w2 ⟨hb2, rfl⟩
      have hE2 := hE1.bel hb2
      go_wp2_with fail
      refine (alive_c _ hE2).mono ?_
      rintro e w3 ⟨rfl, hb3⟩
      have hE3 := hE2.bel hb3
      go_wp2_with fail
      refine (same_c _ _ [] [] _ (.inl ⟨rfl, rfl⟩) (.inl ⟨rfl, rfl⟩) (by decide)).mono ?_
      rintro e w4 ⟨rfl, hb4⟩
      rw [decide_eq_true rfl]
      have hE4 := hE3.bel hb4
      go_wp2_with fail
      refine (H3.out _ hE4).mono ?_
      rintro e w5 ⟨rfl, hb5⟩
      go_wp2_with fail
      refine (H4.out _).mono ?_
      rintro e w6 ⟨rfl, hb6⟩
      go_wp2_with fail
      refine (H5.out _).mono ?_
      rintro e w7 ⟨rfl, hb7⟩
      have hE7 := ((hE4.bel hb5).bel hb6).bel hb7
      go_wp2_with fail
      refine (H6.out _ hE7).mono ?_
      rintro e w8 ⟨rfl, hb8⟩
      go_wp2_with fail
      refine (H7.out _).mono ?_
      rintro e w9 ⟨rfl, hb9⟩
      go_wp2_with fail
      go_ret
      exact ⟨rfl, ((((((((hb1.trans hb2).trans hb3).trans hb4).trans hb5).trans hb6).trans hb7).trans hb8).trans hb9)⟩
    · rename_i l
      have hl := hlen l rfl
      have H1 := Lib.hid h1
      have H2 := Lib.hid h2
      have H3 := Lib.hid h3
      clear h1 h2 h3 hlen
      go_enter Tryd.func5, Tryd.ntmps5
      go_wp2_with fail
      refine (H1.out _ HE.out).mono ?_
      rintro e w1 ⟨hb1, v1, rfl, hv1⟩
      have hE1 := HE.out.bel hb1
      go_wp2_with fail
      refine (H2.out _).mono ?_
      rintro e w2 ⟨hb2, v2, rfl, hv2⟩
      have hE2 := hE1.bel hb2
      go_wp2_with fail
      refine (alive_c _ hE2).mono ?_
      rintro e w3 ⟨rfl, hb3⟩
      have hE3 := hE2.bel hb3
      go_wp2_with fail
      refine (same_c v1 v2 l l _ (.inr ((hv1.bel hb2).bel hb3)) (.inr (hv2.bel hb3)) hl).mono ?_
      rintro e w4 ⟨rfl, hb4⟩
      rw [decide_eq_true rfl]
      have hE4 := hE3.bel hb4
      go_wp2_with fail
      refine (H3.out _ hE4).mono ?_
      rintro e w5 ⟨rfl, hb5⟩
      go_wp2_with fail
      refine (H4.out _).mono ?_
      rintro e w6 ⟨rfl, hb6⟩
      go_wp2_with fail
      refine (H5.out _).mono ?_
      rintro e w7 ⟨rfl, hb7⟩
      have hE7 := ((hE4.bel hb5).bel hb6).bel hb7
      go_wp2_with fail
      refine (H6.out _ hE7).mono ?_
      rintro e w8 ⟨rfl, hb8⟩
      go_wp2_with fail
      refine (H7.out _).mono ?_
      rintro e w9 ⟨rfl, hb9⟩
      go_wp2_with fail
      go_ret
      exact ⟨rfl, ((((((((hb1.trans hb2).trans hb3).trans hb4).trans hb5).trans hb6).trans hb7).trans hb8).trans hb9)⟩
end Go.Proofs.YtfmhpeinikidfaaDoor
