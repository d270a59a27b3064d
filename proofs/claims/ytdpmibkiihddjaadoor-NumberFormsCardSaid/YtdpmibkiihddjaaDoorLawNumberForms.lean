/-
  The walk of the law NumberForms: whatever the digits and the scale: true.
-/
import Derived.Test.YtdpmibkiihddjaaDoorNO
import Derived.Test.YtdpmibkiihddjaaDoorNP
import Derived.Test.YtdpmibkiihddjaaDoorNT
namespace Go.Proofs.YtdpmibkiihddjaaDoor
open Go.RowKit

set_option maxRecDepth 100000 in
set_option maxHeartbeats 4000000 in
theorem numberForms_walk (d : ByteArray) (hs : d.size ≤ maxLen) (sc : Int) (_hsc : (Lit.int .i64 sc).wf = true) (w : World) (hE : EnvN w) :
    Calls Tryd.prog 4 #[.agg #[.string d, .int .i64 sc]] w (fun e w' => e = .returned (.bool true) ∧ Bel w w') := by
  have HE := Lib.hid hE
  clear hE _hsc
  by_cases hbig : 3000 < d.size
  · have hbig' : (3000 : Int) < d.size := by omega
    go_enter Tryd.func4, Tryd.ntmps4
    go_wp2_with fail
    refine (alive_c _ (HE.out.bel (by (repeat (first | exact Bel.refl _ | assumption | refine Bel.to_drewN ?_ _ | refine Bel.to_drew ?_ | refine Bel.to_setCell ?_ (by first | exact Nat.le_refl _ | (simp; done) | (simp; omega) | omega) _ | refine Bel.to_alloc ?_ _ | refine Bel.trans ?_ (by assumption)))))).mono ?_
    rintro e w1 ⟨rfl, hb1⟩
    go_wp2_with fail
    go_ret
    exact ⟨rfl, by (repeat (first | exact Bel.refl _ | assumption | refine Bel.to_drewN ?_ _ | refine Bel.to_drew ?_ | refine Bel.to_setCell ?_ (by first | exact Nat.le_refl _ | (simp; done) | (simp; omega) | omega) _ | refine Bel.to_alloc ?_ _ | refine Bel.trans ?_ (by assumption)))⟩
  · have h3000 : (d.size : Int) ≤ 3000 := by omega
    have h1 := fun w1 (h : EnvN w1) => canonE_c d hs sc w1 h
    have h2 := fun w1 (h : EnvN w1) => text_c d hs sc w1 h
    have h3 := fun w1 => rcheck_c d hs sc w1
    have h4 := fun w1 => right_c d hs sc w1
    have hr := canon_right (dl d) sc
    have h5 := fun (h : checkN (dl d) sc = 0) w1 => rtext_c d sc h w1
    unfold canonE at h1
    unfold textE at h2
    obtain ⟨n, hn⟩ : ∃ n, checkN (dl d) sc = n := ⟨_, rfl⟩
    have hz := @checkN_zero (dl d) sc
    have hright : rightN (dl d) sc = (decide (n = 0) && sameC (dl d) sc) := by unfold rightN; rw [hn]
    simp only [hn] at h1 h2 h3 hr h5 hz
    rw [hright] at h4
    have qg := fun op x y xs ys w1 => eqGuard_num op x y xs ys w1
    by_cases h0 : n = 0
    · subst h0
      obtain ⟨C1, C2, hC, hcan, hCd, hCl, hC2, hC3, hC4, hck, hrt⟩ := hr rfl
      obtain ⟨hd9, hne, hdl, hs0, hs1⟩ := hz rfl
      rw [dl_size] at hdl
      simp only [if_true] at h1 h2
      simp only [decide_true, Bool.true_and] at h4
      have hrc : ∀ w1, Calls Tryd.prog 15 #[.agg #[.string d, .int .i64 sc]] w1 (RetNum (canonL (dl d) sc) w1) := by
        obtain ⟨k, rfl⟩ := Int.eq_ofNat_of_zero_le hs0
        exact fun w1 => rcanon_c d (by omega) hne k (by omega) w1
      have hsame : sameC (dl d) sc = numEq d sc (bs C1) C2 := by
        unfold sameC numEq
        rw [hC]
        refine bool_ext ?_
        simp only [decide_eq_true_eq, Prod.mk.injEq]
        constructor
        · rintro ⟨h, h'⟩; exact ⟨by rw [h]; rfl, h'.symm⟩
        · rintro ⟨h, h'⟩; exact ⟨by rw [h]; rfl, h'.symm⟩
      rw [hsame] at h4
      rw [hC] at h1 h2 hrc
      have h5 := h5 rfl
      rw [hC] at h5
      dsimp only at h2 h5
      obtain ⟨K, hK⟩ : ∃ K : ByteArray, bs C1 = K := ⟨_, rfl⟩
      obtain ⟨T, hT⟩ : ∃ T : ByteArray, bs (textC C1 C2) = T := ⟨_, rfl⟩
      obtain ⟨z, hz2⟩ : ∃ z : Int, (C2 : Int) = z := ⟨_, rfl⟩
      have h6 := fun w1 => right_c (bs C1) (by rw [bs_size]; unfold maxLen; omega) C2 w1
      rw [dl_bs, hrt] at h6
      rw [hK, hz2] at h4 h6
      obtain ⟨B, hB⟩ : ∃ B, numEq d sc K z = B := ⟨_, rfl⟩
      rw [hB] at h4
      have p1 : ∀ w1, EnvN w1 → Calls Tryd.prog 11 #[.agg #[.string d, .int .i64 sc]] w1 fun e w' => e = .returned (.tuple #[.agg #[.string K, .int .i64 z], .int .i64 0]) ∧ Bel w1 w' := by rw [← hK, ← hz2]; exact h1
      have p2 : ∀ w1, EnvN w1 → Calls Tryd.prog 12 #[.agg #[.string d, .int .i64 sc]] w1 fun e w' => e = .returned (.tuple #[.string T, .int .i64 0]) ∧ Bel w1 w' := by rw [← hT]; exact h2
      have p3 : ∀ w1, Calls Tryd.prog 15 #[.agg #[.string d, .int .i64 sc]] w1 fun e w' => e = .returned (.agg #[.string K, .int .i64 z]) ∧ Bel w1 w' := by rw [← hK, ← hz2]; exact hrc
      have p5 : ∀ w1, Calls Tryd.prog 16 #[.agg #[.string d, .int .i64 sc]] w1 fun e w' => e = .returned (.string T) ∧ Bel w1 w' := by rw [← hT]; exact h5
      have q1 : ∀ w1, (binOp .eql 24 (.agg #[.string K, .int .i64 z]) (.agg #[.string K, .int .i64 z])).run Tryd.prog w1 = .ok (.bool true) w1 := fun w1 => by rw [eql_num, numEq_true.2 ⟨rfl, rfl⟩]
      have q3 : ∀ w1, (binOp .eql 24 (.agg #[.string d, .int .i64 sc]) (.agg #[.string K, .int .i64 z])).run Tryd.prog w1 = .ok (.bool B) w1 := fun w1 => by rw [eql_num, hB]
      have P1 := Lib.hid p1
      have P2 := Lib.hid p2
      have P3 := Lib.hid p3
      have P4 := Lib.hid h4
      have P5 := Lib.hid p5
      have P6 := Lib.hid h6
      have P7 := Lib.hid h3
      clear p1 p2 p3 p5 h1 h2 h3 h4 h5 h6 hrc hK hT hz2 hB hsame hright hn hr hz hC hcan hck hrt hne hbig hs hCd hCl hC2 hC3 hC4 hd9 hs0 hs1 hdl C1 C2
      go_enter Tryd.func4, Tryd.ntmps4
      go_wp2_with fail
      refine (P1.out _ (HE.out.bel (by (repeat (first | exact Bel.refl _ | assumption | refine Bel.to_drewN ?_ _ | refine Bel.to_drew ?_ | refine Bel.to_setCell ?_ (by first | exact Nat.le_refl _ | (simp; done) | (simp; omega) | omega) _ | refine Bel.to_alloc ?_ _ | refine Bel.trans ?_ (by assumption)))))).mono ?_
      rintro e w1 ⟨rfl, hb1⟩
      obtain ⟨hc1, hf1⟩ := bcell hb1
      have hz1 : w.heap.size < w1.heap.size := by have := hb1.size; simp at this; omega
      go_wp2_with fail
      refine (P2.out _ (HE.out.bel (by (repeat (first | exact Bel.refl _ | assumption | refine Bel.to_drewN ?_ _ | refine Bel.to_drew ?_ | refine Bel.to_setCell ?_ (by first | exact Nat.le_refl _ | (simp; done) | (simp; omega) | omega) _ | refine Bel.to_alloc ?_ _ | refine Bel.trans ?_ (by assumption)))))).mono ?_
      rintro e w2 ⟨rfl, hb2⟩
      obtain ⟨hc2, hf2⟩ := bcell hb2
      have hz2 : w1.heap.size < w2.heap.size := by have := hb2.size; simp at this; omega
      have hz2' : w.heap.size < w2.heap.size := by omega
      go_wp2_with fail
      refine (P7.out _).mono ?_
      rintro e w3 ⟨rfl, hb3⟩
      obtain ⟨hc3, hf3⟩ := bcell hb3
      have hz3 : w1.heap.size < w3.heap.size := by have := hb3.size; omega
      have hz3' : w.heap.size < w3.heap.size := by omega
      go_wp2_with fail
      refine (P3.out _).mono ?_
      rintro e w4 ⟨rfl, hb4⟩
      obtain ⟨hc4, hf4⟩ := bcell hb4
      go_wp2_with fail
      have k0 : (w4.alloc (.cells #[.string K, .int .i64 z] 24)).cell? ⟨w.heap.size, 0, none⟩ = some (.string d) :=
        Bel.keep (a := w.alloc (.cells #[.string d, .int .i64 sc] 24)) (by (repeat (first | exact Bel.refl _ | assumption | refine Bel.to_drewN ?_ _ | refine Bel.to_drew ?_ | refine Bel.to_setCell ?_ (by first | exact Nat.le_refl _ | (simp; done) | (simp; omega) | omega) _ | refine Bel.to_alloc ?_ _ | refine Bel.trans ?_ (by assumption)))) (by simp)
      have k1 : (w4.alloc (.cells #[.string K, .int .i64 z] 24)).cell? ⟨w.heap.size, 1, none⟩ = some (.int .i64 sc) :=
        Bel.keep (a := w.alloc (.cells #[.string d, .int .i64 sc] 24)) (by (repeat (first | exact Bel.refl _ | assumption | refine Bel.to_drewN ?_ _ | refine Bel.to_drew ?_ | refine Bel.to_setCell ?_ (by first | exact Nat.le_refl _ | (simp; done) | (simp; omega) | omega) _ | refine Bel.to_alloc ?_ _ | refine Bel.trans ?_ (by assumption)))) (by simp)
      have k2 : (w4.alloc (.cells #[.string K, .int .i64 z] 24)).cell? ⟨w1.heap.size, 0, none⟩ = some (.string K) :=
        Bel.keep (a := w1.alloc (.cells #[.string K, .int .i64 z] 24)) (by (repeat (first | exact Bel.refl _ | assumption | refine Bel.to_drewN ?_ _ | refine Bel.to_drew ?_ | refine Bel.to_setCell ?_ (by first | exact Nat.le_refl _ | (simp; done) | (simp; omega) | omega) _ | refine Bel.to_alloc ?_ _ | refine Bel.trans ?_ (by assumption)))) (by simp)
      have k3 : (w4.alloc (.cells #[.string K, .int .i64 z] 24)).cell? ⟨w1.heap.size, 1, none⟩ = some (.int .i64 z) :=
        Bel.keep (a := w1.alloc (.cells #[.string K, .int .i64 z] 24)) (by (repeat (first | exact Bel.refl _ | assumption | refine Bel.to_drewN ?_ _ | refine Bel.to_drew ?_ | refine Bel.to_setCell ?_ (by first | exact Nat.le_refl _ | (simp; done) | (simp; omega) | omega) _ | refine Bel.to_alloc ?_ _ | refine Bel.trans ?_ (by assumption)))) (by simp)
      have k4 : (w4.alloc (.cells #[.string K, .int .i64 z] 24)).cell? ⟨w4.heap.size, 0, none⟩ = some (.string K) := by simp
      have k5 : (w4.alloc (.cells #[.string K, .int .i64 z] 24)).cell? ⟨w4.heap.size, 1, none⟩ = some (.int .i64 z) := by simp
      have hb0 : Bel w (w4.alloc (.cells #[.string K, .int .i64 z] 24)) := by (repeat (first | exact Bel.refl _ | assumption | refine Bel.to_drewN ?_ _ | refine Bel.to_drew ?_ | refine Bel.to_setCell ?_ (by first | exact Nat.le_refl _ | (simp; done) | (simp; omega) | omega) _ | refine Bel.to_alloc ?_ _ | refine Bel.trans ?_ (by assumption)))
      obtain ⟨W5, hW5⟩ : ∃ W5, w4.alloc (.cells #[.string K, .int .i64 z] 24) = W5 := ⟨_, rfl⟩
      rw [hW5] at k0 k1 k2 k3 k4 k5 hb0 ⊢
      have HE5 := Lib.hid (HE.out.bel hb0)
      have HB0 := Lib.hid hb0
      clear hW5 hb0 hb1 hb2 hb3 hb4 hc1 hc2 hc3 hc4 hf1 hf2 hf3 hf4 hz1 hz2 hz2' hz3 hz3'
      go_region_held3 (fun w' => w'.cell? ⟨w.heap.size, 0, none⟩ = some (.string d) ∧ w'.cell? ⟨w.heap.size, 1, none⟩ = some (.int .i64 sc) ∧ w'.cell? ⟨w1.heap.size, 0, none⟩ = some (.string K) ∧ w'.cell? ⟨w1.heap.size, 1, none⟩ = some (.int .i64 z) ∧ w'.cell? ⟨w4.heap.size, 0, none⟩ = some (.string K) ∧ w'.cell? ⟨w4.heap.size, 1, none⟩ = some (.int .i64 z) ∧ Bel W5 w')
        (((try dsimp only); (try go_split_ands); (refine ⟨?_, ?_, ?_, ?_, ?_, ?_, ?_⟩ <;> first | assumption | exact Bel.keep (by assumption) (by assumption) | ((repeat (first | exact Bel.refl _ | assumption | refine Bel.to_drewN ?_ _ | refine Bel.to_drew ?_ | refine Bel.to_setCell ?_ (by first | exact Nat.le_refl _ | (simp; done) | (simp; omega) | omega) _ | refine Bel.to_alloc ?_ _ | refine Bel.trans ?_ (by assumption))); done) | (go_keep; done))))
        (first
          | (go_at_call 8; refine (alive_c _ (HE5.out.bel (by (repeat (first | exact Bel.refl _ | assumption | refine Bel.to_drewN ?_ _ | refine Bel.to_drew ?_ | refine Bel.to_setCell ?_ (by first | exact Nat.le_refl _ | (simp; done) | (simp; omega) | omega) _ | refine Bel.to_alloc ?_ _ | refine Bel.trans ?_ (by assumption)))))).mono ?_; rintro e w6 ⟨rfl, hb6⟩)
          | (go_at_call 16; refine (P5.out _).mono ?_; rintro e w7 ⟨rfl, hb7⟩)
          | ((with_reducible refine (P4.out _).mono ?_); rintro e w8 ⟨rfl, hb8⟩)
          | ((with_reducible refine (P6.out _).mono ?_); rintro e w9 ⟨rfl, hb9⟩))
      go_wp2_with fail
      go_ret
      go_split_ands
      exact ⟨rfl, HB0.out.trans (by assumption)⟩
    · have hn0 : ((n : Int) != 0) = true := by rw [bne_iff_ne]; omega
      have hn1 : ((n : Int) == 0) = false := beq_eq_false_iff_ne.2 (by omega)
      simp only [if_neg h0] at h1 h2
      simp only [decide_eq_false h0, Bool.false_and] at h4
      have q1 : ∀ w1, (binOp .eql 24 (.agg #[.string ⟨#[]⟩, .int .i64 0]) (.agg #[.string ⟨#[]⟩, .int .i64 0])).run Tryd.prog w1 = .ok (.bool true) w1 := fun w1 => by rw [eql_num, numEq_true.2 ⟨rfl, rfl⟩]
      have p1 : ∀ w1, EnvN w1 → Calls Tryd.prog 11 #[.agg #[.string d, .int .i64 sc]] w1 fun e w' => e = .returned (.tuple #[.agg #[.string ⟨#[]⟩, .int .i64 0], .int .i64 n]) ∧ Bel w1 w' := h1
      have p2 : ∀ w1, EnvN w1 → Calls Tryd.prog 12 #[.agg #[.string d, .int .i64 sc]] w1 fun e w' => e = .returned (.tuple #[.string ⟨#[]⟩, .int .i64 n]) ∧ Bel w1 w' := h2
      have P1 := Lib.hid p1
      have P2 := Lib.hid p2
      have P3 := Lib.hid h3
      have P4 := Lib.hid h4
      clear p1 p2 h1 h2 h3 h4 h5 hn hr hz hright h0 hbig
      go_enter Tryd.func4, Tryd.ntmps4
      go_wp2_with fail
      refine (P1.out _ (HE.out.bel (by (repeat (first | exact Bel.refl _ | assumption | refine Bel.to_drewN ?_ _ | refine Bel.to_drew ?_ | refine Bel.to_setCell ?_ (by first | exact Nat.le_refl _ | (simp; done) | (simp; omega) | omega) _ | refine Bel.to_alloc ?_ _ | refine Bel.trans ?_ (by assumption)))))).mono ?_
      rintro e w1 ⟨rfl, hb1⟩
      obtain ⟨hc1, hf1⟩ := bcell hb1
      have hz1 : w.heap.size < w1.heap.size := by have := hb1.size; simp at this; omega
      go_wp2_with fail
      refine (P2.out _ (HE.out.bel (by (repeat (first | exact Bel.refl _ | assumption | refine Bel.to_drewN ?_ _ | refine Bel.to_drew ?_ | refine Bel.to_setCell ?_ (by first | exact Nat.le_refl _ | (simp; done) | (simp; omega) | omega) _ | refine Bel.to_alloc ?_ _ | refine Bel.trans ?_ (by assumption)))))).mono ?_
      rintro e w2 ⟨rfl, hb2⟩
      obtain ⟨hc2, hf2⟩ := bcell hb2
      have hz2 : w1.heap.size < w2.heap.size := by have := hb2.size; simp at this; omega
      have hz2' : w.heap.size < w2.heap.size := by omega
      go_wp2_with fail
      refine (P3.out _).mono ?_
      rintro e w3 ⟨rfl, hb3⟩
      obtain ⟨hc3, hf3⟩ := bcell hb3
      have hz3 : w1.heap.size < w3.heap.size := by have := hb3.size; omega
      have hz3' : w.heap.size < w3.heap.size := by omega
      go_wp2_with fail
      refine (alive_c _ (HE.out.bel (by (repeat (first | exact Bel.refl _ | assumption | refine Bel.to_drewN ?_ _ | refine Bel.to_drew ?_ | refine Bel.to_setCell ?_ (by first | exact Nat.le_refl _ | (simp; done) | (simp; omega) | omega) _ | refine Bel.to_alloc ?_ _ | refine Bel.trans ?_ (by assumption)))))).mono ?_
      rintro e w4 ⟨rfl, hb4⟩
      obtain ⟨hc4, hf4⟩ := bcell hb4
      have hz4 : w1.heap.size < w4.heap.size := by have := hb4.size; omega
      have hz4' : w.heap.size < w4.heap.size := by omega
      have hne : w.heap.size ≠ w1.heap.size := by omega
      go_wp2_with fail
      refine (P4.out _).mono ?_
      rintro e w5 ⟨rfl, hb5⟩
      go_wp2_with fail
      go_ret
      exact ⟨rfl, by (repeat (first | exact Bel.refl _ | assumption | refine Bel.to_drewN ?_ _ | refine Bel.to_drew ?_ | refine Bel.to_setCell ?_ (by first | exact Nat.le_refl _ | (simp; done) | (simp; omega) | omega) _ | refine Bel.to_alloc ?_ _ | refine Bel.trans ?_ (by assumption)))⟩
end Go.Proofs.YtdpmibkiihddjaaDoor
