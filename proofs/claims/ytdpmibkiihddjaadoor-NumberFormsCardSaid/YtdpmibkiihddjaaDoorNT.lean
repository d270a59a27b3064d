/-
  The walk of the document's answer for number: Text.
-/
import Derived.Test.YtdpmibkiihddjaaDoorNG
import Derived.Test.YtdpmibkiihddjaaDoorNJ
namespace Go.Proofs.YtdpmibkiihddjaaDoor
open Go.RowKit

set_option maxRecDepth 100000 in
set_option maxHeartbeats 4000000 in
theorem rtext_c (d : ByteArray) (sc : Int) (hchk : checkN (dl d) sc = 0) (w : World) :
    Calls Tryd.prog 16 #[.agg #[.string d, .int .i64 sc]] w fun e w' => e = .returned (.string (bs (textC (canonL (dl d) sc).1 (canonL (dl d) sc).2))) ∧ Bel w w' := by
  obtain ⟨hd, hne, hl, hs0, hs1⟩ := checkN_zero hchk
  rw [dl_size] at hl
  obtain ⟨S, rfl⟩ := Int.eq_ofNat_of_zero_le hs0
  have h2 := fun w1 => rcanon_c d (by omega) hne S (by omega) w1
  obtain ⟨C1, C2, hC, _, _, hC2, _, hC1⟩ := canon_can (dl d) S hd (by omega)
  rw [hC] at h2 ⊢
  dsimp only
  obtain ⟨B, hB⟩ : ∃ B : ByteArray, B = bs C1 := ⟨_, rfl⟩
  have hB1 : dl B = C1 := by rw [hB]; rfl
  have h2' : ∀ w1, Calls Tryd.prog 15 #[.agg #[.string d, .int .i64 S]] w1 fun e w' => e = .returned (.agg #[.string B, .int .i64 C2]) ∧ Bel w1 w' := by rw [hB]; exact h2
  have hBs : B.size = C1.length := by rw [hB, bs_size]
  rw [dl_size] at hC1
  have hB3 : B.size ≤ 1000 := by omega
  have hC3 : (C2 : Int) ≤ 1000 := by omega
  obtain ⟨R, hR⟩ : ∃ R, textC C1 C2 = R := ⟨_, rfl⟩
  rw [hR]
  unfold textC at hR
  rw [← hB1] at hR
  have H2 := Lib.hid h2'
  have HR := Lib.hid hR
  clear h2 h2' hR hC hchk hd hne hl hs1 hB hB1 hC1 hBs hC2 hs0
  by_cases hc0 : C2 = 0
  · subst hc0
    go_enter Tryd.func16, Tryd.ntmps16
    go_wp2_with fail
    refine (H2.out _).mono ?_
    rintro e w2 ⟨rfl, hb2⟩
    obtain ⟨hc2, hf2⟩ := bcell hb2
    have hz2 : w.heap.size < w2.heap.size := by have := hb2.size; simp at this; omega
    go_wp2_with fail
    go_ret
    refine ⟨?_, by (repeat (first | exact Bel.refl _ | assumption | refine Bel.to_drewN ?_ _ | refine Bel.to_drew ?_ | refine Bel.to_setCell ?_ (by first | exact Nat.le_refl _ | (simp; done) | (simp; omega) | omega) _ | refine Bel.to_alloc ?_ _ | refine Bel.trans ?_ (by assumption)))⟩
    have hr : dl B = R := by simpa using HR.out
    rw [← hr]; rfl
  · have hcz : ((C2 : Int) == 0) = false := by simpa using hc0
    obtain ⟨M, hM⟩ : ∃ M : Int, max 0 ((C2 : Int) + 1 - (B.size : Int)) = M := ⟨_, rfl⟩
    have hM0 : 0 ≤ M := by omega
    obtain ⟨m, rfl⟩ := Int.eq_ofNat_of_zero_le hM0
    have hr := HR.out
    rw [if_neg (by omega), dl_size, hM] at hr
    simp only [Int.toNat_natCast] at hr
    have HRR := Lib.hid hr
    have HM := Lib.hid hM
    have HC0 := Lib.hid hc0
    clear hr HR hM hM0 hc0
    go_enter Tryd.func16, Tryd.ntmps16
    go_wp2_with fail
    refine (H2.out _).mono ?_
    rintro e w2 ⟨rfl, hb2⟩
    obtain ⟨hc2, hf2⟩ := bcell hb2
    have hz2 : w.heap.size < w2.heap.size := by have := hb2.size; simp at this; omega
    go_wp2_with fail
    have k1 : ((w2.setCell ⟨w.heap.size, 0, none⟩ (.string B)).setCell ⟨w.heap.size, 1, none⟩ (.int .i64 C2)).cell? ⟨w.heap.size, 1, none⟩ = some (.int .i64 C2) := by go_simp
    have hb0 : Bel w ((w2.setCell ⟨w.heap.size, 0, none⟩ (.string B)).setCell ⟨w.heap.size, 1, none⟩ (.int .i64 C2)) := by (repeat (first | exact Bel.refl _ | assumption | refine Bel.to_drewN ?_ _ | refine Bel.to_drew ?_ | refine Bel.to_setCell ?_ (by first | exact Nat.le_refl _ | (simp; done) | (simp; omega) | omega) _ | refine Bel.to_alloc ?_ _ | refine Bel.trans ?_ (by assumption)))
    obtain ⟨W0, hW0⟩ : ∃ W0, (w2.setCell ⟨w.heap.size, 0, none⟩ (.string B)).setCell ⟨w.heap.size, 1, none⟩ (.int .i64 C2) = W0 := ⟨_, rfl⟩
    rw [hW0] at k1 hb0 ⊢
    have HB0 := Lib.hid hb0
    clear hW0 hb0 hc2 hf2 hz2 hb2
    go_loop [3] (fun sv => ∃ (j : Nat) (X : ByteArray), j ≤ m ∧ sv = .string X ∧ Hid (dl X = List.replicate j 48 ++ dl B) ∧ X.size ≤ 2002 ∧ Hid (X.size = j + B.size)) (fun sv => 2003 - Lib.strSize sv)
    case atStart => exact ⟨0, B, Nat.zero_le _, rfl, Lib.hid rfl, by omega, Lib.hid (by omega)⟩
    case round =>
      obtain ⟨j, X, hj, rfl, hXl, hXb, hXs⟩ := hrel
      by_cases hlt : (X.size : Int) ≤ C2
      · have hjm : j < m := by have := hXs.out; have := HM.out; omega
        have hsz : ((⟨#[48]⟩ : ByteArray) ++ X).size = X.size + 1 := by rw [ByteArray.size_append, show (⟨#[48]⟩ : ByteArray).size = 1 from rfl]; omega
        have hno : ¬ (9223372036854775807 < (⟨#[48]⟩ : ByteArray).size + X.size) := by rw [show (⟨#[48]⟩ : ByteArray).size = 1 from rfl]; omega
        have hno2 : ¬ (9223372036854775807 < 1 + X.size) := by omega
        have hdl : dl ((⟨#[48]⟩ : ByteArray) ++ X) = List.replicate (j + 1) 48 ++ dl B := by
          have : dl ((⟨#[48]⟩ : ByteArray) ++ X) = 48 :: dl X := by simp [dl]
          rw [this, hXl.out, List.replicate_succ]; rfl
        have HSZ := Lib.hid hsz
        have HDL := Lib.hid hdl
        clear hsz hdl
        go_wp2_with fail
        refine ⟨⟨j + 1, _, by omega, rfl, HDL, by rw [HSZ.out]; omega, Lib.hid (by rw [HSZ.out, hXs.out]; omega)⟩, ?_⟩
        simp only [Lib.strSize_string]
        rw [HSZ.out]
        omega
      · have hjm : j = m := by have := hXs.out; have := HM.out; omega
        subst hjm
        have hXi : (X.size : Int) = j + B.size := by have := hXs.out; omega
        obtain ⟨k, hk⟩ : ∃ k, X.size - C2 = k := ⟨_, rfl⟩
        have hki : (X.size : Int) - C2 = k := by omega
        have hr := HRR.out
        rw [← hXl.out, dl_size, hk] at hr
        have HR3 := Lib.hid hr
        have HK := Lib.hid hki
        have g1 : k ≤ X.size := by omega
        have e1 : (X.extract 0 k).size = k := by simp; omega
        have e2 : (X.extract k X.size).size = X.size - k := by simp
        have e3 : ((X.extract 0 k) ++ ⟨#[46]⟩ : ByteArray).size = k + 1 := by rw [ByteArray.size_append, e1]; rfl
        have g3 : ¬ (9223372036854775807 < (X.extract 0 k).size + 1) := by omega
        have g4 : ¬ (9223372036854775807 < ((X.extract 0 k) ++ ⟨#[46]⟩ : ByteArray).size + (X.extract k X.size).size) := by omega
        have g5 : (0 : Int) ≤ k := by omega
        have g6 : (k : Int) ≤ X.size := by omega
        have g7 : (C2 : Int) < X.size := by omega
        clear hr hki hk hXi
        go_wp2_with fail
        rw [HK.out]
        go_region
        go_wp2_with fail
        go_ret
        refine ⟨?_, Bel.to_drew HB0.out⟩
        rw [← HR3.out, text_join]
        rfl
end Go.Proofs.YtdpmibkiihddjaaDoor
