/-
  The walks of the document's answer for number: at, Compare, Add.
-/
import Derived.Test.YtdpmibkiihddjaaDoorNJ
namespace Go.Proofs.YtdpmibkiihddjaaDoor
open Go.RowKit

set_option maxHeartbeats 1000000 in
theorem rat_c (d : ByteArray) (hs : d.size ≤ 100000) (sc : Nat) (hsc : sc ≤ 100000) (p : Int) (h0 : -100000 ≤ p) (h1 : p ≤ 100000) (w : World) :
    Calls Tryd.prog 32 #[.agg #[.string d, .int .i64 sc], .int .i64 p] w fun e w' => e = .returned (.int .i64 (ratL (dl d) sc p)) ∧ Bel w w' := by
  obtain ⟨R, hR⟩ : ∃ R, ratL (dl d) sc p = R := ⟨_, rfl⟩
  rw [hR]
  unfold ratL at hR
  rw [dl_size] at hR
  dsimp only at hR
  obtain ⟨i, hi⟩ : ∃ i : Int, (d.size : Int) - 1 - sc - p = i := ⟨_, rfl⟩
  rw [hi] at hR
  have hib : -400000 ≤ i ∧ i ≤ 400000 := by omega
  obtain ⟨hi0, hi1⟩ := hib
  have HI := Lib.hid hi
  clear hi
  by_cases hz : i < 0 ∨ (d.size : Int) ≤ i
  · rw [if_pos hz] at hR
    have HR := Lib.hid hR
    have HZ := Lib.hid hz
    clear hR hz
    rcases HZ.out with hz | hz
    · have hz2 : (d.size : Int) - 1 - sc - p < 0 := by rw [HI.out]; exact hz
      go_enter Tryd.func32, Tryd.ntmps32
      go_wp2_with fail
      go_ret
      exact ⟨by rw [← HR.out]; rfl, by (repeat (first | exact Bel.refl _ | assumption | refine Bel.to_drewN ?_ _ | refine Bel.to_drew ?_ | refine Bel.to_setCell ?_ (by first | exact Nat.le_refl _ | (simp; done) | (simp; omega) | omega) _ | refine Bel.to_alloc ?_ _ | refine Bel.trans ?_ (by assumption)))⟩
    · have hz2 : (d.size : Int) ≤ (d.size : Int) - 1 - sc - p := by rw [HI.out]; exact hz
      have hz3 : (0 : Int) ≤ (d.size : Int) - 1 - sc - p := by omega
      go_enter Tryd.func32, Tryd.ntmps32
      go_wp2_with fail
      all_goals go_ret
      all_goals exact ⟨by rw [← HR.out]; rfl, by (repeat (first | exact Bel.refl _ | assumption | refine Bel.to_drewN ?_ _ | refine Bel.to_drew ?_ | refine Bel.to_setCell ?_ (by first | exact Nat.le_refl _ | (simp; done) | (simp; omega) | omega) _ | refine Bel.to_alloc ?_ _ | refine Bel.trans ?_ (by assumption)))⟩
  · rw [if_neg hz] at hR
    have hz1 : 0 ≤ (d.size : Int) - 1 - sc - p := by have := HI.out; omega
    have hz2 : (d.size : Int) - 1 - sc - p < d.size := by have := HI.out; omega
    have HR := Lib.hid hR
    clear hR hz
    go_enter Tryd.func32, Tryd.ntmps32
    go_wp2_with fail
    go_ret
    refine ⟨ret_int ?_, by (repeat (first | exact Bel.refl _ | assumption | refine Bel.to_drewN ?_ _ | refine Bel.to_drew ?_ | refine Bel.to_setCell ?_ (by first | exact Nat.le_refl _ | (simp; done) | (simp; omega) | omega) _ | refine Bel.to_alloc ?_ _ | refine Bel.trans ?_ (by assumption)))⟩
    have hi := HI.out
    subst hi
    rw [← HR.out]
    have hk : ((d.size : Int) - 1 - sc - p).toNat < d.size := by omega
    have hb : (dl d).getD ((d.size : Int) - 1 - sc - p).toNat 0 = d[((d.size : Int) - 1 - sc - p).toNat]'hk := by
      have hk2 : ((d.size : Int) - 1 - sc - p).toNat < (dl d).length := hk
      rw [List.getD_eq_getElem?_getD, List.getElem?_eq_getElem hk2]; rfl
    have hlt := (d[((d.size : Int) - 1 - sc - p).toNat]'hk).toNat_lt
    simp only [hb]
    show wrap64 (wrap64 ((d[((d.size : Int) - 1 - sc - p).toNat]'hk).toNat : Int) - 48) = _
    unfold wrap64
    omega

theorem lt_pow {U m n : Nat} (h : U < 10 ^ m) (hmn : m ≤ n) : U < 10 ^ n := Nat.lt_of_lt_of_le h (Nat.pow_le_pow_right (by omega) hmn)

set_option maxHeartbeats 2000000 in
theorem rcompare_c (a : ByteArray) (s : Nat) (b : ByteArray) (t : Nat) (ha : (dl a).all isDig = true) (hb : (dl b).all isDig = true) (hal : a.size ≤ 1000) (hbl : b.size ≤ 1000) (hs : s ≤ 1000) (ht : t ≤ 1000) (w : World) :
    Calls Tryd.prog 20 #[.agg #[.string a, .int .i64 s], .agg #[.string b, .int .i64 t]] w fun e w' => e = .returned (.int .i64 (cmpN (V (dl a) s) (V (dl b) t))) ∧ Bel w w' := by
  have hU := V_lt (dl a) s ha (by rw [dl_size]; omega)
  have hW := V_lt (dl b) t hb (by rw [dl_size]; omega)
  have hra := fun j => ratL_eq (dl a) s ha hs j
  have hrb := fun j => ratL_eq (dl b) t hb ht j
  obtain ⟨U, hUU⟩ : ∃ U, V (dl a) s = U := ⟨_, rfl⟩
  obtain ⟨W, hWW⟩ : ∃ W, V (dl b) t = W := ⟨_, rfl⟩
  rw [hUU] at hU hra ⊢
  rw [hWW] at hW hrb ⊢
  obtain ⟨R, hR⟩ : ∃ R, cmpN U W = R := ⟨_, rfl⟩
  rw [hR]
  have hsc : scanP U W 2001 = R := by
    rw [← hR]
    obtain ⟨N, hN⟩ : ∃ N, N = 2001 := ⟨_, rfl⟩
    rw [← hN]
    exact scanP_all U W N (lt_pow hU (by omega)) (lt_pow hW (by omega))
  have HRA := Lib.hid hra
  have HRB := Lib.hid hrb
  have HSC := Lib.hid hsc
  clear hra hrb hU hW hUU hWW hR hsc ha hb
  go_enter Tryd.func20, Tryd.ntmps20
  go_wp2_with fail
  have t1 := (Two.new w 24 (.string a) (.int .i64 s)).bel (Bel.alloc _ (.cells #[.string b, .int .i64 t] 24))
  have t2 := Two.new (w.alloc (.cells #[.string a, .int .i64 s] 24)) 24 (.string b) (.int .i64 t)
  rw [World.size_alloc] at t2
  have hb0 : Bel w ((w.alloc (.cells #[.string a, .int .i64 s] 24)).alloc (.cells #[.string b, .int .i64 t] 24)) := by (repeat (first | exact Bel.refl _ | assumption | refine Bel.to_drewN ?_ _ | refine Bel.to_drew ?_ | refine Bel.to_setCell ?_ (by first | exact Nat.le_refl _ | (simp; done) | (simp; omega) | omega) _ | refine Bel.to_alloc ?_ _ | refine Bel.trans ?_ (by assumption)))
  go_loopw [5] (fun i wr => ∃ (k : Nat) (z : Int), k ≤ 2001 ∧ i = .int .i64 z ∧ Hid (z = (k : Int) - 1001) ∧ Two wr w.heap.size 24 (.string a) (.int .i64 s) ∧ Two wr (w.heap.size + 1) 24 (.string b) (.int .i64 t) ∧ Bel w wr ∧ Hid (scanP U W k = R)) (fun i _ => (intOf i + 1001).toNat)
  case atStart => exact ⟨2001, 1000, Nat.le_refl _, rfl, Lib.hid (by omega), t1, t2, hb0, HSC⟩
  case round =>
    obtain ⟨k, z, hk, rfl, hz, h1, h2, hbel, hscan⟩ := hrel
    clear t1 t2 hb0
    have q0 := h1.c0
    have q1 := h1.c1
    have r0 := h2.c0
    have r1 := h2.c1
    have hlt := h1.lt
    have hlt2 := h2.lt
    have H1 := Lib.hid h1
    have H2 := Lib.hid h2
    clear h1 h2
    by_cases hk0 : 0 < k
    · obtain ⟨j, rfl⟩ : ∃ j, k = j + 1 := ⟨k - 1, by omega⟩
      have hz0 : -1000 ≤ z := by have := hz.out; omega
      have hz1 : z ≤ 1000 := by have := hz.out; omega
      have hzj : z = (j : Int) - 1000 := by have := hz.out; omega
      have c1 := fun w1 => rat_c a (by omega) s (by omega) z (by omega) (by omega) w1
      have c2 := fun w1 => rat_c b (by omega) t (by omega) z (by omega) (by omega) w1
      rw [show ratL (dl a) s z = ((U / 10 ^ j % 10 : Nat) : Int) from by rw [hzj]; exact HRA.out j] at c1
      rw [show ratL (dl b) t z = ((W / 10 ^ j % 10 : Nat) : Int) from by rw [hzj]; exact HRB.out j] at c2
      have hst := hscan.out
      unfold scanP at hst
      obtain ⟨A, hA⟩ : ∃ A, U / 10 ^ j % 10 = A := ⟨_, rfl⟩
      obtain ⟨B, hB⟩ : ∃ B, W / 10 ^ j % 10 = B := ⟨_, rfl⟩
      rw [hA] at c1 hst
      rw [hB] at c2 hst
      have hAb : A < 10 := by omega
      have hBb : B < 10 := by omega
      have C1 := Lib.hid c1
      have C2 := Lib.hid c2
      have HST := Lib.hid hst
      clear c1 c2 hst hA hB hscan hzj
      rcases Nat.lt_trichotomy A B with hab | hab | hab
      · rw [if_pos hab] at HST
        have hi : (A : Int) < B := by omega
        go_wp2_with fail
        refine (C1.out _).mono ?_
        rintro e w1 ⟨rfl, hb1⟩
        obtain ⟨hc, hf⟩ := bcell hb1
        go_wp2_with fail
        refine (C2.out _).mono ?_
        rintro e w2 ⟨rfl, hb2⟩
        go_wp2_with fail
        go_ret
        exact ⟨ret_int HST.out, by (repeat (first | exact Bel.refl _ | assumption | refine Bel.to_drewN ?_ _ | refine Bel.to_drew ?_ | refine Bel.to_setCell ?_ (by first | exact Nat.le_refl _ | (simp; done) | (simp; omega) | omega) _ | refine Bel.to_alloc ?_ _ | refine Bel.trans ?_ (by assumption)))⟩
      · rw [if_neg (by omega), if_neg (by omega)] at HST
        subst hab
        go_wp2_with fail
        refine (C1.out _).mono ?_
        rintro e w1 ⟨rfl, hb1⟩
        obtain ⟨hc, hf⟩ := bcell hb1
        go_wp2_with fail
        refine (C2.out _).mono ?_
        rintro e w2 ⟨rfl, hb2⟩
        go_wp2_with fail
        refine ⟨⟨j, z - 1, by omega, rfl, Lib.hid (by have := hz.out; omega), (H1.out.bel hb1).bel hb2, (H2.out.bel hb1).bel hb2, by (repeat (first | exact Bel.refl _ | assumption | refine Bel.to_drewN ?_ _ | refine Bel.to_drew ?_ | refine Bel.to_setCell ?_ (by first | exact Nat.le_refl _ | (simp; done) | (simp; omega) | omega) _ | refine Bel.to_alloc ?_ _ | refine Bel.trans ?_ (by assumption))), HST⟩, by simp [intOf]; omega⟩
      · rw [if_neg (by omega), if_pos hab] at HST
        have hi : (B : Int) < A := by omega
        go_wp2_with fail
        refine (C1.out _).mono ?_
        rintro e w1 ⟨rfl, hb1⟩
        obtain ⟨hc, hf⟩ := bcell hb1
        go_wp2_with fail
        refine (C2.out _).mono ?_
        rintro e w2 ⟨rfl, hb2⟩
        go_wp2_with fail
        go_ret
        exact ⟨ret_int HST.out, by (repeat (first | exact Bel.refl _ | assumption | refine Bel.to_drewN ?_ _ | refine Bel.to_drew ?_ | refine Bel.to_setCell ?_ (by first | exact Nat.le_refl _ | (simp; done) | (simp; omega) | omega) _ | refine Bel.to_alloc ?_ _ | refine Bel.trans ?_ (by assumption)))⟩
    · obtain rfl : k = 0 := by omega
      have hz2 : z < -1000 := by have := hz.out; omega
      go_wp2_with fail
      go_ret
      exact ⟨ret_int hscan.out, hbel⟩
end Go.Proofs.YtdpmibkiihddjaaDoor
