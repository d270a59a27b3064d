/-
  The walk of the law's own 'alive': the document's examples.
-/
import Derived.Test.YtfmhpeinikidfaaDoorP
import Derived.Test.YtfmhpeinikidfaaDoorK
namespace Go.Proofs.YtfmhpeinikidfaaDoor
open Go.RowKit

theorem ex_split1 : splitS ⟨#[97, 58, 98, 45, 49]⟩ = (⟨#[97]⟩, ⟨#[98, 45, 49]⟩, 0) := by decide +kernel
theorem ex_split2 : splitS ⟨#[97, 58, 98, 58, 99]⟩ = (⟨#[]⟩, ⟨#[]⟩, 6) := by decide +kernel
theorem ex_words1 : wordsS ⟨#[110, 101, 116, 32, 112, 114, 105, 99, 101]⟩ = some [⟨#[110, 101, 116]⟩, ⟨#[112, 114, 105, 99, 101]⟩] := by decide +kernel
theorem ex_words2 : wordsS ⟨#[105, 102, 32, 120]⟩ = none := by decide +kernel

set_option maxHeartbeats 1000000 in
theorem alive_c (w : World) (hE : Env w) : Calls Tryd.prog 9 #[] w (RetBel (.bool true) w) := by
  have h1 := fun w1 (hE1 : Env w1) => split_c ⟨#[97, 58, 98, 45, 49]⟩ (by decide) w1 hE1
  have h2 := fun w1 (hE1 : Env w1) => split_c ⟨#[97, 58, 98, 58, 99]⟩ (by decide) w1 hE1
  have h3 := fun w1 (hE1 : Env w1) => words_c ⟨#[110, 101, 116, 32, 112, 114, 105, 99, 101]⟩ (by decide) w1 hE1
  have h4 := fun w1 (hE1 : Env w1) => words_c ⟨#[105, 102, 32, 120]⟩ (by decide) w1 hE1
  simp only [ex_split1] at h1
  simp only [ex_split2] at h2
  simp only [ex_words1] at h3
  simp only [ex_words2] at h4
  have H1 := Lib.hid h1
  have H2 := Lib.hid h2
  have H3 := Lib.hid h3
  have H4 := Lib.hid h4
  clear h1 h2 h3 h4
  go_enter Tryd.func9, Tryd.ntmps9
  go_wp2_with fail
  refine (H1.out _ hE).mono ?_
  rintro e w1 ⟨rfl, hb1⟩
  have hE1 := hE.bel hb1
  go_wp2_with fail
  refine (H2.out _ hE1).mono ?_
  rintro e w2 ⟨rfl, hb2⟩
  have hE2 := hE1.bel hb2
  go_wp2_with fail
  refine (H3.out _ hE2).mono ?_
  rintro e w3 ⟨hb3, v3, rfl, hv3⟩
  have hE3 := hE2.bel hb3
  go_wp2_with fail
  refine (H4.out _ hE3).mono ?_
  rintro e w4 ⟨hb4, rfl⟩
  have hE4 := hE3.bel hb4
  go_wp2_with fail
  refine (same_c v3 _ [⟨#[110, 101, 116]⟩, ⟨#[112, 114, 105, 99, 101]⟩] [⟨#[110, 101, 116]⟩, ⟨#[112, 114, 105, 99, 101]⟩] _ (.inr ((hv3.bel hb4).bel (Bel.alloc _ _))) (.inr (rowAt_cast (row_new w4 (strsV [⟨#[110, 101, 116]⟩, ⟨#[112, 114, 105, 99, 101]⟩]) 9) rfl rfl)) (by decide)).mono ?_
  rintro e w5 ⟨rfl, hb5⟩
  rw [decide_eq_true rfl]
  go_wp2_with fail
  go_ret
  exact ⟨rfl, (((hb1.trans hb2).trans hb3).trans (hb4.to_alloc _)).trans hb5⟩
end Go.Proofs.YtfmhpeinikidfaaDoor
