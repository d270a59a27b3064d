/-
  The walk of the law NumberReads: whatever the text: true.
-/
import Derived.Test.YtdpmibkiihddjaaDoorNO
import Derived.Test.YtdpmibkiihddjaaDoorNK
namespace Go.Proofs.YtdpmibkiihddjaaDoor
open Go.RowKit

set_option maxRecDepth 100000 in
set_option maxHeartbeats 2000000 in
theorem numberReads_walk (s : ByteArray) (hs : s.size ≤ maxLen) (w : World) (hE : EnvN w) : Calls Tryd.prog 3 #[.string s] w (fun e w' => e = .returned (.bool true) ∧ Bel w w') := by
  unfold maxLen at hs
  have HE := Lib.hid hE
  clear hE
  by_cases hbig : 3000 < s.size
  · have hbig' : (3000 : Int) < s.size := by omega
    go_enter Tryd.func3, Tryd.ntmps3
    go_wp2_with fail
    refine (alive_c _ HE.out).mono ?_
    rintro e w1 ⟨rfl, hb1⟩
    go_wp2_with fail
    go_ret
    exact ⟨rfl, hb1⟩
  · have h3000 : (s.size : Int) ≤ 3000 := by omega
    have h1 := fun w1 (h : EnvN w1) => read_c s (by omega) w1 h.2
    have h2 := fun w1 => rread_c s (by omega) w1
    obtain ⟨⟨⟨R1, R2⟩, n⟩, hR⟩ : ∃ R, readL (dl s) = R := ⟨_, rfl⟩
    rw [hR] at h1 h2
    have H1 := Lib.hid h1
    have H2 := Lib.hid h2
    have q1 : ∀ w1, (binOp .eql 24 (.agg #[.string (bs R1), .int .i64 R2]) (.agg #[.string (bs R1), .int .i64 R2])).run Tryd.prog w1 = .ok (.bool true) w1 := fun w1 => by rw [eql_num, numEq_true.2 ⟨rfl, rfl⟩]
    have qg := fun op x y xs ys w1 => eqGuard_num op x y xs ys w1
    clear h1 h2 hR hbig
    go_enter Tryd.func3, Tryd.ntmps3
    go_wp2_with fail
    refine (H1.out _ (HE.out.bel (by (repeat (first | exact Bel.refl _ | assumption | refine Bel.to_drewN ?_ _ | refine Bel.to_drew ?_ | refine Bel.to_setCell ?_ (by first | exact Nat.le_refl _ | (simp; done) | (simp; omega) | omega) _ | refine Bel.to_alloc ?_ _ | refine Bel.trans ?_ (by assumption)))))).mono ?_
    rintro e w1 ⟨rfl, hb1⟩
    go_wp2_with fail
    refine (H2.out _).mono ?_
    rintro e w2 ⟨rfl, hb2⟩
    obtain ⟨hc2, hf2⟩ := bcell hb2
    have hz2 : w1.heap.size < w2.heap.size := by have := hb2.size; simp at this; omega
    go_wp2_with fail
    refine (alive_c _ (HE.out.bel (by (repeat (first | exact Bel.refl _ | assumption | refine Bel.to_drewN ?_ _ | refine Bel.to_drew ?_ | refine Bel.to_setCell ?_ (by first | exact Nat.le_refl _ | (simp; done) | (simp; omega) | omega) _ | refine Bel.to_alloc ?_ _ | refine Bel.trans ?_ (by assumption)))))).mono ?_
    rintro e w3 ⟨rfl, hb3⟩
    obtain ⟨hc3, hf3⟩ := bcell hb3
    have hz3 : w2.heap.size < w3.heap.size := by have := hb3.size; simp at this; omega
    have hz4 : w1.heap.size < w3.heap.size := by omega
    have hz5 : w1.heap.size ≠ w2.heap.size := by omega
    go_wp2_with fail
    go_ret
    refine ⟨rfl, by (repeat (first | exact Bel.refl _ | assumption | refine Bel.to_drewN ?_ _ | refine Bel.to_drew ?_ | refine Bel.to_setCell ?_ (by first | exact Nat.le_refl _ | (simp; done) | (simp; omega) | omega) _ | refine Bel.to_alloc ?_ _ | refine Bel.trans ?_ (by assumption)))⟩
end Go.Proofs.YtdpmibkiihddjaaDoor
