/-
  The walks of the layer number: level, Compare.
-/
import Derived.Test.YtdpmibkiihddjaaDoorNG
namespace Go.Proofs.YtdpmibkiihddjaaDoor
open Go.RowKit

def RetLevel (x y : List UInt8) (n : Int) (w : World) (e : Ending) (w' : World) : Prop := e = .returned (.tuple #[.string (bs x), .string (bs y), .int .i64 n]) ∧ Bel w w'
theorem bs_append (a b : List UInt8) : bs (a ++ b) = bs a ++ bs b := by
  apply ByteArray.ext
  apply Array.ext'
  simp [bs]

set_option maxHeartbeats 4000000 in
theorem level_c (a b : ByteArray) (s t : Nat) (ha : a.size ≤ 100000) (hb : b.size ≤ 100000) (hs : s ≤ 100000) (ht : t ≤ 100000) (w : World) :
    Calls Tryd.prog 30 #[.agg #[.string a, .int .i64 s], .agg #[.string b, .int .i64 t]] w (RetLevel (levelX (dl a) (dl b) s t) (levelX (dl b) (dl a) t s) (max s t : Nat) w) := by
  obtain ⟨S, hS⟩ : ∃ S, max s t = S := ⟨_, rfl⟩
  have hSs : s ≤ S := by omega
  have hSt : t ≤ S := by omega
  have hSb : S ≤ 100000 := by omega
  obtain ⟨L1, hL1⟩ : ∃ L, levelX (dl a) (dl b) s t = L := ⟨_, rfl⟩
  obtain ⟨L2, hL2⟩ : ∃ L, levelX (dl b) (dl a) t s = L := ⟨_, rfl⟩
  rw [hL1, hL2, hS]
  unfold levelX at hL1 hL2
  rw [hS, dl_size, dl_size] at hL1
  rw [Nat.max_comm t s, hS, dl_size, dl_size] at hL2
  obtain ⟨A, hA⟩ : ∃ A : ByteArray, bs (List.replicate (S - s) 48) = A := ⟨_, rfl⟩
  obtain ⟨B, hB⟩ : ∃ B : ByteArray, bs (List.replicate (S - t) 48) = B := ⟨_, rfl⟩
  have hAs : A.size = S - s := by rw [← hA, bs_size, List.length_replicate]
  have hBs : B.size = S - t := by rw [← hB, bs_size, List.length_replicate]
  have h1 := fun w1 => repeat_c (S - s) (by omega) w1
  have h2 := fun w1 => repeat_c (S - t) (by omega) w1
  rw [hA] at h1
  rw [hB] at h2
  obtain ⟨X, hX⟩ : ∃ X, a ++ A = X := ⟨_, rfl⟩
  obtain ⟨Y, hY⟩ : ∃ Y, b ++ B = Y := ⟨_, rfl⟩
  have hXs : X.size = a.size + (S - s) := by rw [← hX, ByteArray.size_append, hAs]
  have hYs : Y.size = b.size + (S - t) := by rw [← hY, ByteArray.size_append, hBs]
  have hXl : dl X = dl a ++ List.replicate (S - s) 48 := by rw [← hX, ← hA]; simp [dl, bs]
  have hYl : dl Y = dl b ++ List.replicate (S - t) 48 := by rw [← hY, ← hB]; simp [dl, bs]
  rw [← hXl, ← hXs, ← hYs] at hL1
  rw [← hYl, ← hXs, ← hYs] at hL2
  obtain ⟨n, hn⟩ : ∃ n, max X.size Y.size = n := ⟨_, rfl⟩
  rw [hn] at hL1
  rw [Nat.max_comm, hn] at hL2
  obtain ⟨P, hP⟩ : ∃ P : ByteArray, bs (List.replicate (n - X.size) 48) = P := ⟨_, rfl⟩
  obtain ⟨Q, hQ⟩ : ∃ Q : ByteArray, bs (List.replicate (n - Y.size) 48) = Q := ⟨_, rfl⟩
  have h3 := fun w1 => repeat_c (n - X.size) (by omega) w1
  have h4 := fun w1 => repeat_c (n - Y.size) (by omega) w1
  rw [hP] at h3
  rw [hQ] at h4
  have hPs : P.size ≤ 200000 := by rw [← hP, bs_size, List.length_replicate]; omega
  have hQs : Q.size ≤ 200000 := by rw [← hQ, bs_size, List.length_replicate]; omega
  have hL3 : bs L1 = P ++ X := by rw [← hL1, bs_append, hP]; rfl
  have hL4 : bs L2 = Q ++ Y := by rw [← hL2, bs_append, hQ]; rfl
  have hmax : max (s : Int) (t : Int) = (S : Int) := by omega
  have hmaxn : max (X.size : Int) (Y.size : Int) = (n : Int) := by omega
  have e1 : ((S : Int) - s) = ((S - s : Nat) : Int) := by omega
  have e2 : ((S : Int) - t) = ((S - t : Nat) : Int) := by omega
  have e3 : ((n : Int) - X.size) = ((n - X.size : Nat) : Int) := by omega
  have e4 : ((n : Int) - Y.size) = ((n - Y.size : Nat) : Int) := by omega
  have h1' : ∀ w1, Calls Tryd.prog 28 #[.string ⟨#[48]⟩, .int .i64 ((S : Int) - s)] w1 fun e w' => e = .returned (.string A) ∧ Bel w1 w' := by rw [e1]; exact h1
  have h2' : ∀ w1, Calls Tryd.prog 28 #[.string ⟨#[48]⟩, .int .i64 ((S : Int) - t)] w1 fun e w' => e = .returned (.string B) ∧ Bel w1 w' := by rw [e2]; exact h2
  have h3' : ∀ w1, Calls Tryd.prog 28 #[.string ⟨#[48]⟩, .int .i64 ((n : Int) - X.size)] w1 fun e w' => e = .returned (.string P) ∧ Bel w1 w' := by rw [e3]; exact h3
  have h4' : ∀ w1, Calls Tryd.prog 28 #[.string ⟨#[48]⟩, .int .i64 ((n : Int) - Y.size)] w1 fun e w' => e = .returned (.string Q) ∧ Bel w1 w' := by rw [e4]; exact h4
  have i1 : ¬ (9223372036854775807 < a.size + A.size) := by omega
  have i2 : ¬ (9223372036854775807 < b.size + B.size) := by omega
  have i3 : ¬ (9223372036854775807 < P.size + X.size) := by omega
  have i4 : ¬ (9223372036854775807 < Q.size + Y.size) := by omega
  have hXb : X.size ≤ 200000 := by omega
  have hYb : Y.size ≤ 200000 := by omega
  have hnb : n ≤ 200000 := by omega
  have hnX : X.size ≤ n := by omega
  have hnY : Y.size ≤ n := by omega
  have f1 : IntKind.i64.wrap ((S : Int) - s) = (S : Int) - s := IntWalk.i64_in _ (by omega)
  have f2 : IntKind.i64.wrap ((S : Int) - t) = (S : Int) - t := IntWalk.i64_in _ (by omega)
  have H1 := Lib.hid h1'
  have H2 := Lib.hid h2'
  have H3 := Lib.hid h3'
  have H4 := Lib.hid h4'
  have HX := Lib.hid hX
  have HY := Lib.hid hY
  have HM := Lib.hid hmax
  have HN := Lib.hid hmaxn
  have HL3 := Lib.hid hL3
  have HL4 := Lib.hid hL4
  clear h1 h2 h3 h4 h1' h2' h3' h4' hX hY hmax hmaxn hL1 hL2 hL3 hL4 e1 e2 e3 e4 hA hB hP hQ hn hXs hYs hXl hYl hAs hBs hS
  go_enter Tryd.func30, Tryd.ntmps30
  go_wp2_with fail
  rw [HM.out]
  obtain ⟨W0, hW0⟩ : ∃ W0, ((w.alloc (.cells #[.string a, .int .i64 s] 24)).alloc (.cells #[.string b, .int .i64 t] 24)) = W0 := ⟨_, rfl⟩
  have k0 : W0.cell? ⟨w.heap.size, 0, none⟩ = some (.string a) := by rw [← hW0]; simp
  have k1 : W0.cell? ⟨w.heap.size, 1, none⟩ = some (.int .i64 s) := by rw [← hW0]; simp
  have k2 : W0.cell? ⟨w.heap.size + 1, 0, none⟩ = some (.string b) := by rw [← hW0]; simp
  have k3 : W0.cell? ⟨w.heap.size + 1, 1, none⟩ = some (.int .i64 t) := by rw [← hW0]; simp
  have hb0 : Bel w W0 := by rw [← hW0]; (repeat (first | exact Bel.refl _ | assumption | refine Bel.to_drewN ?_ _ | refine Bel.to_drew ?_ | refine Bel.to_setCell ?_ (by first | exact Nat.le_refl _ | (simp; done) | (simp; omega) | omega) _ | refine Bel.to_alloc ?_ _ | refine Bel.trans ?_ (by assumption)))
  rw [hW0]
  clear hW0
  have HB0 := Lib.hid hb0
  clear hb0
  go_region_held3 (fun w' => w'.cell? ⟨w.heap.size, 0, none⟩ = some (.string a) ∧ w'.cell? ⟨w.heap.size, 1, none⟩ = some (.int .i64 s) ∧ w'.cell? ⟨w.heap.size + 1, 0, none⟩ = some (.string b) ∧ w'.cell? ⟨w.heap.size + 1, 1, none⟩ = some (.int .i64 t) ∧ Bel W0 w')
    (((try dsimp only); (try go_split_ands); (refine ⟨?_, ?_, ?_, ?_, ?_⟩ <;> first | assumption | exact Bel.keep (by assumption) (by assumption) | ((repeat (first | exact Bel.refl _ | assumption | refine Bel.to_drewN ?_ _ | refine Bel.to_drew ?_ | refine Bel.to_setCell ?_ (by first | exact Nat.le_refl _ | (simp; done) | (simp; omega) | omega) _ | refine Bel.to_alloc ?_ _ | refine Bel.trans ?_ (by assumption))); done) | (go_keep; done))))
    (first
      | (go_at_call 28; refine (H1.out _).mono ?_; rintro e w3 ⟨rfl, hb3⟩))
  rw [HX.out]
  go_split_ands
  rename_i q0 q1 q2 q3 q4
  have HB1 := Lib.hid (HB0.out.trans q4)
  clear k0 k1 k2 k3 q4 HB0
  go_wp2_with fail
  go_region_held3 (fun w' => w'.cell? ⟨w.heap.size, 0, none⟩ = some (.string a) ∧ w'.cell? ⟨w.heap.size, 1, none⟩ = some (.int .i64 s) ∧ w'.cell? ⟨w.heap.size + 1, 0, none⟩ = some (.string b) ∧ w'.cell? ⟨w.heap.size + 1, 1, none⟩ = some (.int .i64 t) ∧ Bel w3 w')
    (((try dsimp only); (try go_split_ands); (refine ⟨?_, ?_, ?_, ?_, ?_⟩ <;> first | assumption | exact Bel.keep (by assumption) (by assumption) | ((repeat (first | exact Bel.refl _ | assumption | refine Bel.to_drewN ?_ _ | refine Bel.to_drew ?_ | refine Bel.to_setCell ?_ (by first | exact Nat.le_refl _ | (simp; done) | (simp; omega) | omega) _ | refine Bel.to_alloc ?_ _ | refine Bel.trans ?_ (by assumption))); done) | (go_keep; done))))
    (first
      | (go_at_call 28; refine (H2.out _).mono ?_; rintro e w4 ⟨rfl, hb4⟩))
  rw [HY.out]
  go_split_ands
  rename_i r0 r1 r2 r3 r4
  have HB2 := Lib.hid (HB1.out.trans r4)
  clear q0 q1 q2 q3 r4 HB1
  go_wp2_with fail
  rw [HN.out]
  refine (H3.out _).mono ?_
  rintro e w5 ⟨rfl, hb5⟩
  go_wp2_with fail
  refine (H4.out _).mono ?_
  rintro e w6 ⟨rfl, hb6⟩
  go_wp2_with fail
  go_ret3
  refine ⟨?_, Bel.trans HB2.out (by (repeat (first | exact Bel.refl _ | assumption | refine Bel.to_drewN ?_ _ | refine Bel.to_drew ?_ | refine Bel.to_setCell ?_ (by first | exact Nat.le_refl _ | (simp; done) | (simp; omega) | omega) _ | refine Bel.to_alloc ?_ _ | refine Bel.trans ?_ (by assumption))))⟩
  rw [HL3.out, HL4.out]
  rfl

/-- Which of two is more, or what is wrong with which. -/
def compareE (a : List UInt8) (s : Int) (b : List UInt8) (t : Int) : Int × Nat :=
  if bothN a s b t = 0 then (cmpN (V a s.toNat) (V b t.toNat), 0) else (0, bothN a s b t)
theorem bothN_zero {a : List UInt8} {s : Int} {b : List UInt8} {t : Int} (h : bothN a s b t = 0) : checkN a s = 0 ∧ checkN b t = 0 := by
  unfold bothN at h
  split at h
  · exact ⟨by assumption, h⟩
  · contradiction
def RetIntE (r : Int × Nat) (w : World) (e : Ending) (w' : World) : Prop := e = .returned (.tuple #[.int .i64 r.1, .int .i64 r.2]) ∧ Bel w w'

set_option maxHeartbeats 4000000 in
theorem compare_c (a : ByteArray) (ha : a.size ≤ maxLen) (s : Int) (b : ByteArray) (hb : b.size ≤ maxLen) (t : Int) (w : World) (hE : EnvN w) :
    Calls Tryd.prog 17 #[.agg #[.string a, .int .i64 s], .agg #[.string b, .int .i64 t]] w (RetIntE (compareE (dl a) s (dl b) t) w) := by
  have h1 := fun w1 => both_c a ha s b hb t w1
  obtain ⟨R, hR⟩ : ∃ R, compareE (dl a) s (dl b) t = R := ⟨_, rfl⟩
  rw [hR]
  unfold compareE at hR
  obtain ⟨n, hn⟩ : ∃ n, bothN (dl a) s (dl b) t = n := ⟨_, rfl⟩
  have hz := @bothN_zero (dl a) s (dl b) t
  rw [hn] at h1 hR hz
  have H1 := Lib.hid h1
  have HE := Lib.hid hE
  clear h1 hn hE
  by_cases h0 : n = 0
  · obtain ⟨hz1, hz2⟩ := hz h0
    obtain ⟨hd1, hn1, hl1, hs0, hs1⟩ := checkN_zero hz1
    obtain ⟨hd2, hn2, hl2, ht0, ht1⟩ := checkN_zero hz2
    rw [if_pos h0] at hR
    subst h0
    obtain ⟨s, rfl⟩ := Int.eq_ofNat_of_zero_le hs0
    obtain ⟨t, rfl⟩ := Int.eq_ofNat_of_zero_le ht0
    rw [dl_size] at hl1 hl2
    have h2 := fun w1 => level_c a b s t (by omega) (by omega) (by omega) (by omega) w1
    have hcm := level_compare (dl a) (dl b) s t hd1 hd2 (by omega) (by omega)
    simp only [Int.toNat_natCast] at hR
    rw [← hcm] at hR
    obtain ⟨X, hX⟩ : ∃ X : ByteArray, bs (levelX (dl a) (dl b) s t) = X := ⟨_, rfl⟩
    obtain ⟨Y, hY⟩ : ∃ Y : ByteArray, bs (levelX (dl b) (dl a) t s) = Y := ⟨_, rfl⟩
    have h2' : ∀ w1, Calls Tryd.prog 30 #[.agg #[.string a, .int .i64 s], .agg #[.string b, .int .i64 t]] w1 fun e w' => e = .returned (.tuple #[.string X, .string Y, .int .i64 (max s t : Nat)]) ∧ Bel w1 w' := by rw [← hX, ← hY]; exact h2
    have h3 := fun w1 => Tryd.strings_Compare X Y w1
    rw [show Lib.compareBytes X.data.toList Y.data.toList = Lib.compareBytes (levelX (dl a) (dl b) s t) (levelX (dl b) (dl a) t s) from by rw [← hX, ← hY]; rfl] at h3
    obtain ⟨C, hC⟩ : ∃ C, Lib.compareBytes (levelX (dl a) (dl b) s t) (levelX (dl b) (dl a) t s) = C := ⟨_, rfl⟩
    rw [hC] at h3 hR
    have H2 := Lib.hid h2'
    have H3 := Lib.hid h3
    have HR := Lib.hid hR
    clear h2 h2' h3 hR hC hX hY hcm hz1 hz2 hd1 hd2 hs1 ht1 hn1 hn2 hl1 hl2 hs0 ht0 hz
    go_enter Tryd.func17, Tryd.ntmps17
    go_wp2_with fail
    refine (H1.out _).mono ?_
    rintro e w1 ⟨v, rfl, ⟨_, rfl⟩ | ⟨h, _⟩, hb1⟩
    · obtain ⟨hc, hf⟩ := bcell hb1
      have hz : w.heap.size + 1 < w1.heap.size := by have := hb1.size; simp at this; omega
      go_wp2_with fail
      refine (H2.out _).mono ?_
      rintro e w2 ⟨rfl, hb2⟩
      go_wp2_with fail
      refine (H3.out _).mono ?_
      rintro e w3 ⟨rfl, rfl⟩
      go_wp2_with fail
      go_ret2
      refine ⟨?_, by (repeat (first | exact Bel.refl _ | assumption | refine Bel.to_drewN ?_ _ | refine Bel.to_drew ?_ | refine Bel.to_setCell ?_ (by first | exact Nat.le_refl _ | (simp; done) | (simp; omega) | omega) _ | refine Bel.to_alloc ?_ _ | refine Bel.trans ?_ (by assumption)))⟩
      rw [← HR.out]; rfl
    · exact absurd rfl h
  · rw [if_neg h0] at hR
    have HR := Lib.hid hR
    clear hR hz
    go_enter Tryd.func17, Tryd.ntmps17
    go_wp2_with fail
    refine (H1.out _).mono ?_
    rintro e w1 ⟨v, rfl, ⟨h, _⟩ | ⟨h, b, rfl, hcb⟩, hb1⟩
    · exact absurd h h0
    · have h3 := told_c _ n w1 (HE.out.bel (((Bel.alloc w _).to_alloc _).trans hb1)).1 (.inr ⟨h, b, rfl, hcb⟩)
      have H3 := Lib.hid h3
      clear h3 hcb
      go_wp2_with fail
      refine H3.out.mono ?_
      rintro e w2 ⟨rfl, hb2⟩
      go_wp2_with fail
      go_ret2
      refine ⟨?_, by (repeat (first | exact Bel.refl _ | assumption | refine Bel.to_drewN ?_ _ | refine Bel.to_drew ?_ | refine Bel.to_setCell ?_ (by first | exact Nat.le_refl _ | (simp; done) | (simp; omega) | omega) _ | refine Bel.to_alloc ?_ _ | refine Bel.trans ?_ (by assumption)))⟩
      rw [← HR.out]; rfl
end Go.Proofs.YtdpmibkiihddjaaDoor
