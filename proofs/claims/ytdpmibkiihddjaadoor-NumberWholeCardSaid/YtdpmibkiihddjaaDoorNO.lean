/-
  The laws' own examples: alive.
-/
import Derived.Test.YtdpmibkiihddjaaDoorNI
namespace Go.Proofs.YtdpmibkiihddjaaDoor
open Go.RowKit

theorem V_eq (l : List UInt8) (s : Nat) : V l s = 10 ^ (1000 - s) * val l := by unfold V; rfl
theorem add_alive (S : List UInt8) (hS : S.all isDig = true) (m : Nat) (hm : m = 2) (h : 10 ^ (1000 - max m m) * val S = V [55, 53] m + V [50, 53] m) : addE [55, 53] 2 [50, 53] 2 S = (([49], 0), 0) := by
  have hb : bothN [55, 53] 2 [50, 53] 2 = 0 := by decide
  have key : ∀ N z, 2 ≤ N → z = 0 → 10 ^ (N - max m m) * val S = 10 ^ (N - m) * val [55, 53] + 10 ^ (N - m) * val [50, 53] → 10 ^ (N - m) * val S = 10 ^ (N - z) * val [49] := by
    intro N z hN hz h1
    rw [Nat.max_self] at h1
    have hp : 0 < 10 ^ (N - m) := Nat.pow_pos (by omega)
    have h2 : val [55, 53] = 75 := rfl
    have h3 : val [50, 53] = 25 := rfl
    have h4 : val [49] = 1 := rfl
    rw [h2, h3, ← Nat.mul_add] at h1
    have h5 := Nat.eq_of_mul_eq_mul_left hp h1
    rw [h5, h4, show N - z = (N - m) + 2 from by omega, Nat.pow_add, Nat.mul_one]
  rw [V_eq, V_eq] at h
  obtain ⟨z, hz⟩ : ∃ z : Nat, z = 0 := ⟨0, rfl⟩
  have hV : V S m = V [49] z := by
    rw [V_eq, V_eq]
    exact key _ z (by omega) hz h
  have hc := (canon_iff S [49] m z hS (by decide) (by omega) (by omega)).2 hV
  have hc1 : canonL [49] (z : Int) = ([49], 0) := by rw [hz]; decide
  unfold addE
  rw [hb, if_pos rfl, show max (2 : Int) 2 = (m : Int) from by omega, hc, hc1]
  rfl

set_option maxRecDepth 100000 in
set_option maxHeartbeats 2000000 in
theorem alive_c (w : World) (hE : EnvN w) :
    Calls Tryd.prog 8 #[] w fun e w' => e = .returned (.bool true) ∧ Bel w w' := by
  have r1 : ∀ w1, EnvN w1 → Calls Tryd.prog 9 #[.string ⟨#[48, 48, 55, 46, 53, 48]⟩] w1 fun e w' => e = .returned (.tuple #[.agg #[.string ⟨#[55, 53]⟩, .int .i64 1], .int .i64 0]) ∧ Bel w1 w' := fun w1 h1 =>
    (read_c ⟨#[48, 48, 55, 46, 53, 48]⟩ (by decide) w1 h1.2).mono fun e w' ⟨he, hb⟩ => ⟨by rw [he, show readL (dl ⟨#[48, 48, 55, 46, 53, 48]⟩) = (([55, 53], 1), 0) from by decide]; rfl, hb⟩
  have r2 : ∀ w1, EnvN w1 → Calls Tryd.prog 12 #[.agg #[.string ⟨#[55, 53]⟩, .int .i64 1]] w1 fun e w' => e = .returned (.tuple #[.string ⟨#[55, 46, 53]⟩, .int .i64 0]) ∧ Bel w1 w' := fun w1 h1 =>
    (text_c ⟨#[55, 53]⟩ (by unfold maxLen; decide) 1 w1 h1).mono fun e w' ⟨he, hb⟩ => ⟨by rw [he, show textE (dl ⟨#[55, 53]⟩) 1 = ([55, 46, 53], 0) from by decide]; rfl, hb⟩
  have r3 : ∀ w1, EnvN w1 → Calls Tryd.prog 9 #[.string ⟨#[49, 46]⟩] w1 fun e w' => e = .returned (.tuple #[.agg #[.string ⟨#[]⟩, .int .i64 0], .int .i64 17]) ∧ Bel w1 w' := fun w1 h1 =>
    (read_c ⟨#[49, 46]⟩ (by decide) w1 h1.2).mono fun e w' ⟨he, hb⟩ => ⟨by rw [he, show readL (dl ⟨#[49, 46]⟩) = (([], 0), 17) from by decide]; rfl, hb⟩
  have r4 : ∀ w1, EnvN w1 → Calls Tryd.prog 18 #[.agg #[.string ⟨#[55, 53]⟩, .int .i64 2], .agg #[.string ⟨#[50, 53]⟩, .int .i64 2]] w1 fun e w' => e = .returned (.tuple #[.agg #[.string ⟨#[49]⟩, .int .i64 0], .int .i64 0]) ∧ Bel w1 w' := fun w1 h1 =>
    (add_c ⟨#[55, 53]⟩ (by unfold maxLen; decide) 2 ⟨#[50, 53]⟩ (by unfold maxLen; decide) 2 w1 h1).mono fun e w' ⟨S, hS, _, _, hv, he, hb⟩ => ⟨by
      have h1 := hv (by decide)
      rw [show dl (⟨#[55, 53]⟩ : ByteArray) = [55, 53] from rfl, show dl (⟨#[50, 53]⟩ : ByteArray) = [50, 53] from rfl] at h1
      have h := add_alive S hS (2 : Int).toNat (by decide) h1
      rw [he, show addE (dl ⟨#[55, 53]⟩) 2 (dl ⟨#[50, 53]⟩) 2 S = (([49], 0), 0) from h]; rfl, hb⟩
  have q1 : ∀ w1, (binOp .eql 24 (.agg #[.string ⟨#[55, 53]⟩, .int .i64 1]) (.agg #[.string ⟨#[55, 53]⟩, .int .i64 1])).run Tryd.prog w1 = .ok (.bool true) w1 := fun w1 => by rw [eql_num, numEq_true.2 ⟨rfl, rfl⟩]
  have q2 : ∀ w1, (binOp .eql 24 (.agg #[.string ⟨#[49]⟩, .int .i64 0]) (.agg #[.string ⟨#[49]⟩, .int .i64 0])).run Tryd.prog w1 = .ok (.bool true) w1 := fun w1 => by rw [eql_num, numEq_true.2 ⟨rfl, rfl⟩]
  have qg := fun op x y xs ys w1 => eqGuard_num op x y xs ys w1
  have R1 := Lib.hid r1
  have R2 := Lib.hid r2
  have R3 := Lib.hid r3
  have R4 := Lib.hid r4
  have HE := Lib.hid hE
  clear r1 r2 r3 r4 hE
  go_enter Tryd.func8, Tryd.ntmps8
  go_wp2_with fail
  refine (R1.out _ (HE.out.bel (by (repeat (first | exact Bel.refl _ | assumption | refine Bel.to_drewN ?_ _ | refine Bel.to_drew ?_ | refine Bel.to_setCell ?_ (by first | exact Nat.le_refl _ | (simp; done) | (simp; omega) | omega) _ | refine Bel.to_alloc ?_ _ | refine Bel.trans ?_ (by assumption)))))).mono ?_
  rintro e w1 ⟨rfl, hb1⟩
  go_wp2_with fail
  refine (R2.out _ (HE.out.bel (by (repeat (first | exact Bel.refl _ | assumption | refine Bel.to_drewN ?_ _ | refine Bel.to_drew ?_ | refine Bel.to_setCell ?_ (by first | exact Nat.le_refl _ | (simp; done) | (simp; omega) | omega) _ | refine Bel.to_alloc ?_ _ | refine Bel.trans ?_ (by assumption)))))).mono ?_
  rintro e w2 ⟨rfl, hb2⟩
  obtain ⟨hc2, hf2⟩ := bcell hb2
  have hz2 : w1.heap.size < w2.heap.size := by have := hb2.size; simp at this; omega
  go_wp2_with fail
  refine (R3.out _ (HE.out.bel (by (repeat (first | exact Bel.refl _ | assumption | refine Bel.to_drewN ?_ _ | refine Bel.to_drew ?_ | refine Bel.to_setCell ?_ (by first | exact Nat.le_refl _ | (simp; done) | (simp; omega) | omega) _ | refine Bel.to_alloc ?_ _ | refine Bel.trans ?_ (by assumption)))))).mono ?_
  rintro e w3 ⟨rfl, hb3⟩
  obtain ⟨hc3, hf3⟩ := bcell hb3
  have hz3 : w1.heap.size < w3.heap.size := by have := hb3.size; omega
  go_wp2_with fail
  refine (R4.out _ (HE.out.bel (by (repeat (first | exact Bel.refl _ | assumption | refine Bel.to_drewN ?_ _ | refine Bel.to_drew ?_ | refine Bel.to_setCell ?_ (by first | exact Nat.le_refl _ | (simp; done) | (simp; omega) | omega) _ | refine Bel.to_alloc ?_ _ | refine Bel.trans ?_ (by assumption)))))).mono ?_
  rintro e w4 ⟨rfl, hb4⟩
  obtain ⟨hc4, hf4⟩ := bcell hb4
  have hz4 : w1.heap.size < w4.heap.size := by have := hb4.size; simp at this; omega
  have hz5 : w1.heap.size ≠ w4.heap.size := by omega
  go_wp2_with fail
  go_ret
  refine ⟨rfl, by (repeat (first | exact Bel.refl _ | assumption | refine Bel.to_drewN ?_ _ | refine Bel.to_drew ?_ | refine Bel.to_setCell ?_ (by first | exact Nat.le_refl _ | (simp; done) | (simp; omega) | omega) _ | refine Bel.to_alloc ?_ _ | refine Bel.trans ?_ (by assumption)))⟩
end Go.Proofs.YtdpmibkiihddjaaDoor
