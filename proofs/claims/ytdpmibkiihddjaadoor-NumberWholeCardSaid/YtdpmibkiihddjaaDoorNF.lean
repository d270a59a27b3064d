/-
  The walks of the layer number: Canon, Right.
-/
import Derived.Test.YtdpmibkiihddjaaDoorNE
import Derived.Test.YtdpmibkiihddjaaDoorNEQ
import Derived.Deep.RegionHeld3
namespace Go.Proofs.YtdpmibkiihddjaaDoor
open Go.RowKit
attribute [local go_sem] eql_num neq_num eqGuard_num

/-- What the walks of number ask of the world. -/
def EnvN (w : World) : Prop := ErrT w ∧ MaxT w
theorem EnvN.bel {w w' : World} (h : EnvN w) (hb : Bel w w') : EnvN w' := ⟨hb.keep h.1, h.2.bel hb⟩

/-- What Canon answers: the one form, or why it is no number. -/
def canonE (l : List UInt8) (sc : Int) : (List UInt8 × Int) × Nat := if checkN l sc = 0 then (canonL l sc, 0) else (([], 0), checkN l sc)
theorem checkN_zero {l : List UInt8} {sc : Int} (h : checkN l sc = 0) : l.all isDig = true ∧ l ≠ [] ∧ l.length ≤ 1000 ∧ 0 ≤ sc ∧ sc ≤ 1000 := by
  unfold checkN at h
  split at h
  · cases h
  · rename_i h1
    simp only [Bool.not_eq_false] at h1
    unfold digitsL at h1
    rw [Bool.and_eq_true] at h1
    split at h
    · cases h
    · split at h
      · cases h
      · exact ⟨h1.1, by intro e; subst e; simp at h1, by omega, by omega, by omega⟩

set_option maxHeartbeats 2000000 in
theorem canonE_c (d : ByteArray) (hs : d.size ≤ maxLen) (sc : Int) (w : World) (hE : EnvN w) :
    Calls Tryd.prog 11 #[.agg #[.string d, .int .i64 sc]] w (RetNumE (canonE (dl d) sc) w) := by
  have h1 := fun w1 => check_c d hs sc w1
  have hcan := @canon_c d
  obtain ⟨R, hR⟩ : ∃ R, canonE (dl d) sc = R := ⟨_, rfl⟩
  rw [hR]
  unfold canonE at hR
  obtain ⟨n, hn⟩ : ∃ n, checkN (dl d) sc = n := ⟨_, rfl⟩
  have hz := @checkN_zero (dl d) sc
  have hds := dl_size d
  rw [hn] at h1 hR hz
  have H1 := Lib.hid h1
  have HE := Lib.hid hE
  clear h1 hn hE
  by_cases h0 : n = 0
  · obtain ⟨_, _, hl, hs0, hs1⟩ := hz h0
    rw [if_pos h0] at hR
    subst h0
    have h2 := fun w1 => hcan (by omega) sc hs0 (by omega) w1
    obtain ⟨C, hC⟩ : ∃ C, canonL (dl d) sc = C := ⟨_, rfl⟩
    rw [hC] at h2 hR
    have H2 := Lib.hid h2
    have HR := Lib.hid hR
    clear h2 hR hC hcan hz hds hl hs0 hs1 hs
    go_enter Tryd.func11, Tryd.ntmps11
    go_wp2_with fail
    refine (H1.out _).mono ?_
    rintro e w1 ⟨v, rfl, ⟨_, rfl⟩ | ⟨h, _⟩, hb1⟩
    · obtain ⟨hc, hf⟩ := bcell hb1
      have hz : w.heap.size + 1 < w1.heap.size := by have := hb1.size; simp at this; omega
      go_wp2_with fail
      refine (H2.out _).mono ?_
      rintro e w2 ⟨rfl, hb2⟩
      obtain ⟨hc2, hf2⟩ := bcell hb2
      have hz2 : w1.heap.size ≤ w2.heap.size := hb2.size
      go_wp2_with fail
      have hr := HR.out
      refine bodyPost_ret (v := .tuple #[.agg #[.string (bs R.1.1), .int .i64 R.1.2], .int .i64 R.2]) (by simp [results, Tryd.results11, go_sem, ← hr, hc, hc2, hz]) rfl ⟨rfl, ?_⟩
      (repeat (first | exact Bel.refl _ | assumption | refine Bel.to_drewN ?_ _ | refine Bel.to_drew ?_ | refine Bel.to_setCell ?_ (by first | exact Nat.le_refl _ | (simp; done) | (simp; omega) | omega) _ | refine Bel.to_alloc ?_ _ | refine Bel.trans ?_ (by assumption)))
    · exact absurd rfl h
  · rw [if_neg h0] at hR
    have HR := Lib.hid hR
    clear hR hcan hz hds
    go_enter Tryd.func11, Tryd.ntmps11
    go_wp2_with fail
    refine (H1.out _).mono ?_
    rintro e w1 ⟨v, rfl, ⟨h, _⟩ | ⟨h, b, rfl, hcb⟩, hb1⟩
    · exact absurd h h0
    · obtain ⟨hc, hf⟩ := bcell hb1
      have hz : w.heap.size + 1 < w1.heap.size := by have := hb1.size; simp at this; omega
      have h3 := told_c _ n w1 (HE.out.bel (by first | exact ((Bel.alloc w _).to_alloc _).trans hb1)).1 (.inr ⟨h, b, rfl, hcb⟩)
      have H3 := Lib.hid h3
      clear h3 hcb
      go_wp2_with fail
      refine H3.out.mono ?_
      rintro e w2 ⟨rfl, hb2⟩
      obtain ⟨hc2, hf2⟩ := bcell hb2
      have hz2 : w1.heap.size ≤ w2.heap.size := hb2.size
      go_wp2_with fail
      have hr := HR.out
      refine bodyPost_ret (v := .tuple #[.agg #[.string (bs R.1.1), .int .i64 R.1.2], .int .i64 R.2]) (by simp [results, Tryd.results11, go_sem, ← hr, hc, hc2, hz]; rfl) rfl ⟨rfl, ?_⟩
      (repeat (first | exact Bel.refl _ | assumption | refine Bel.to_drewN ?_ _ | refine Bel.to_drew ?_ | refine Bel.to_setCell ?_ (by first | exact Nat.le_refl _ | (simp; done) | (simp; omega) | omega) _ | refine Bel.to_alloc ?_ _ | refine Bel.trans ?_ (by assumption)))

def sameC (l : List UInt8) (sc : Int) : Bool := decide (canonL l sc = (l, sc))
/-- Is it a number in its one form? -/
def rightN (l : List UInt8) (sc : Int) : Bool := decide (checkN l sc = 0) && sameC l sc

set_option maxHeartbeats 4000000 in
theorem right_c (d : ByteArray) (hs : d.size ≤ maxLen) (sc : Int) (w : World) :
    Calls Tryd.prog 14 #[.agg #[.string d, .int .i64 sc]] w fun e w' => e = .returned (.bool (rightN (dl d) sc)) ∧ Bel w w' := by
  have h1 := fun w1 => check_c d hs sc w1
  have hcan := @canon_c d
  obtain ⟨R, hR⟩ : ∃ R, rightN (dl d) sc = R := ⟨_, rfl⟩
  rw [hR]
  unfold rightN at hR
  obtain ⟨n, hn⟩ : ∃ n, checkN (dl d) sc = n := ⟨_, rfl⟩
  have hz := @checkN_zero (dl d) sc
  have hds := dl_size d
  rw [hn] at h1 hR hz
  have H1 := Lib.hid h1
  clear h1 hn
  by_cases h0 : n = 0
  · obtain ⟨_, _, hl, hs0, hs1⟩ := hz h0
    rw [decide_eq_true h0, Bool.true_and] at hR
    subst h0
    have h2 := fun w1 => hcan (by omega) sc hs0 (by omega) w1
    unfold sameC at hR
    obtain ⟨⟨C1, C2⟩, hC⟩ : ∃ C, canonL (dl d) sc = C := ⟨_, rfl⟩
    rw [hC] at h2 hR
    have H2 := Lib.hid h2
    have HR := Lib.hid hR
    clear h2 hR hC hcan hz hds hl hs0 hs1 hs
    go_enter Tryd.func14, Tryd.ntmps14
    go_wp2_with fail
    obtain ⟨W0, hW0⟩ : ∃ W0, w.alloc (.cells #[.string d, .int .i64 sc] 24) = W0 := ⟨_, rfl⟩
    have hc0 : W0.cell? ⟨w.heap.size, 0, none⟩ = some (.string d) := by rw [← hW0]; simp
    have hc1 : W0.cell? ⟨w.heap.size, 1, none⟩ = some (.int .i64 sc) := by rw [← hW0]; simp
    have hb0 : Bel w W0 := by rw [← hW0]; exact Bel.alloc _ _
    rw [hW0]
    clear hW0
    have HB0 := Lib.hid hb0
    clear hb0
    have heq := fun w1 => eql_num (bs C1) C2 d sc w1
    have hgu := fun op x y xs ys w1 => eqGuard_num op x y xs ys w1
    go_region_held3 (fun w' => w'.cell? ⟨w.heap.size, 0, none⟩ = some (.string d) ∧ w'.cell? ⟨w.heap.size, 1, none⟩ = some (.int .i64 sc) ∧ Bel W0 w')
      ((((try dsimp only); (try go_split_ands); (refine ⟨?_, ?_, ?_⟩ <;> first | assumption | exact Bel.keep (by assumption) (by assumption) | ((repeat (first | exact Bel.refl _ | assumption | refine Bel.to_drewN ?_ _ | refine Bel.to_drew ?_ | refine Bel.to_setCell ?_ (by first | exact Nat.le_refl _ | (simp; done) | (simp; omega) | omega) _ | refine Bel.to_alloc ?_ _ | refine Bel.trans ?_ (by assumption))); done) | (go_keep; done)))))
      (first
        | (go_at_call 26; refine (H1.out _).mono ?_; rintro e w1 ⟨v, rfl, ⟨_, rfl⟩ | ⟨h, _⟩, hb1⟩; rotate_left; exact absurd rfl h)
        | (go_at_call 24; refine (H2.out _).mono ?_; rintro e w2 ⟨rfl, hb2⟩))
    go_wp2_with fail
    go_ret
    refine ⟨ret_bool ?_, ?_⟩
    · rw [← HR.out]
      unfold numEq
      refine bool_ext ?_
      simp only [decide_eq_true_eq, Prod.mk.injEq]
      constructor
      · rintro ⟨h, h'⟩; exact ⟨by rw [← h]; rfl, h'⟩
      · rintro ⟨h, h'⟩; exact ⟨by rw [h]; rfl, h'⟩
    · go_split_ands
      exact Bel.trans HB0.out (by assumption)
  · rw [decide_eq_false h0, Bool.false_and] at hR
    subst hR
    clear hcan hz hds
    go_enter Tryd.func14, Tryd.ntmps14
    go_wp2_with fail
    obtain ⟨W0, hW0⟩ : ∃ W0, w.alloc (.cells #[.string d, .int .i64 sc] 24) = W0 := ⟨_, rfl⟩
    have hc0 : W0.cell? ⟨w.heap.size, 0, none⟩ = some (.string d) := by rw [← hW0]; simp
    have hc1 : W0.cell? ⟨w.heap.size, 1, none⟩ = some (.int .i64 sc) := by rw [← hW0]; simp
    have hb0 : Bel w W0 := by rw [← hW0]; exact Bel.alloc _ _
    rw [hW0]
    clear hW0
    have HB0 := Lib.hid hb0
    clear hb0
    go_region_with (first
        | (go_at_call 26; refine (H1.out _).mono ?_; rintro e w1 ⟨v, rfl, ⟨h, _⟩ | ⟨_, b, rfl, _⟩, hb1⟩; exact absurd h h0))
    all_goals
      go_wp2_with fail
      go_ret
      exact ⟨rfl, Bel.trans HB0.out (by (repeat (first | exact Bel.refl _ | assumption | refine Bel.to_drewN ?_ _ | refine Bel.to_drew ?_ | refine Bel.to_setCell ?_ (by first | exact Nat.le_refl _ | (simp; done) | (simp; omega) | omega) _ | refine Bel.to_alloc ?_ _ | refine Bel.trans ?_ (by assumption))))⟩
end Go.Proofs.YtdpmibkiihddjaaDoor
