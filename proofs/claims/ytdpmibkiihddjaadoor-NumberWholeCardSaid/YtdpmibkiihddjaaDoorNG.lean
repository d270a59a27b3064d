/-
  The walks of the layer number: Text.
-/
import Derived.Test.YtdpmibkiihddjaaDoorNF
namespace Go.Proofs.YtdpmibkiihddjaaDoor
open Go.RowKit

theorem repeatL_48 (m : Nat) : Lib.repeatL [48] m = List.replicate m 48 := by
  induction m with
  | zero => rfl
  | succ m ih => simp [Lib.repeatL] at ih ⊢; simp [List.replicate_succ, ih]
theorem repeat_c (m : Nat) (hm : m ≤ 4294967280) (w : World) :
    Calls Tryd.prog 28 #[.string ⟨#[48]⟩, .int .i64 m] w fun e w' => e = .returned (.string (bs (List.replicate m 48))) ∧ Bel w w' :=
  (Tryd.strings_Repeat ⟨#[48]⟩ m w (by omega) (by show 1 * m ≤ _; omega)).mono fun e w' ⟨he, hw⟩ => ⟨by rw [he, ← repeatL_48]; rfl, hw⟩
theorem repeat_i (m : Int) (h0 : 0 ≤ m) (hm : m ≤ 4294967280) (w : World) :
    Calls Tryd.prog 28 #[.string ⟨#[48]⟩, .int .i64 m] w fun e w' => e = .returned (.string (bs (List.replicate m.toNat 48))) ∧ Bel w w' := by
  obtain ⟨n, rfl⟩ := Int.eq_ofNat_of_zero_le h0
  exact repeat_c n (by omega) w

theorem add_str (a b : ByteArray) (h : a.size + b.size ≤ 4294967296) (t : TypeId) (w : World) : (binOp .add t (.string a) (.string b)).run Tryd.prog w = .ok (.string (a ++ b)) w := by
  simp only [binOp]
  exact run_string_add_sum w a b (by omega)

/-- The text of a number in its one form. -/
def textC (l : List UInt8) (sc : Int) : List UInt8 :=
  if sc = 0 then l
  else
    let s := List.replicate (max 0 (sc + 1 - l.length)).toNat 48 ++ l
    s.take (s.length - sc.toNat) ++ 46 :: s.drop (s.length - sc.toNat)
def textE (l : List UInt8) (sc : Int) : List UInt8 × Nat := if checkN l sc = 0 then (textC (canonL l sc).1 (canonL l sc).2, 0) else ([], checkN l sc)
def RetTextE (r : List UInt8 × Nat) (w : World) (e : Ending) (w' : World) : Prop := e = .returned (.tuple #[.string (bs r.1), .int .i64 r.2]) ∧ Bel w w'

theorem text_join (X : ByteArray) (k : Nat) : X.extract 0 k ++ ⟨#[46]⟩ ++ X.extract k X.size = bs ((dl X).take k ++ 46 :: (dl X).drop k) := by
  rw [Lib.extract_upto, Lib.extract_from]
  apply ByteArray.ext
  apply Array.ext'
  simp [bs, dl]

set_option maxHeartbeats 4000000 in
theorem text_c (d : ByteArray) (hs : d.size ≤ maxLen) (sc : Int) (w : World) (hE : EnvN w) :
    Calls Tryd.prog 12 #[.agg #[.string d, .int .i64 sc]] w (RetTextE (textE (dl d) sc) w) := by
  have h1 := fun w1 => check_c d hs sc w1
  have hcan := @canon_c d
  have hcc := canon_can (dl d)
  obtain ⟨R, hR⟩ : ∃ R, textE (dl d) sc = R := ⟨_, rfl⟩
  rw [hR]
  unfold textE at hR
  obtain ⟨n, hn⟩ : ∃ n, checkN (dl d) sc = n := ⟨_, rfl⟩
  have hz := @checkN_zero (dl d) sc
  have hds := dl_size d
  rw [hn] at h1 hR hz
  have H1 := Lib.hid h1
  have HE := Lib.hid hE
  clear h1 hn hE
  by_cases h0 : n = 0
  · obtain ⟨hd, _, hl, hs0, hs1⟩ := hz h0
    rw [if_pos h0] at hR
    subst h0
    obtain ⟨S, rfl⟩ := Int.eq_ofNat_of_zero_le hs0
    have h2 := fun w1 => hcan (by omega) S hs0 (by omega) w1
    obtain ⟨C1, C2, hC, _, _, hC2, _, hC1⟩ := hcc S hd (by omega)
    rw [hC] at h2 hR
    dsimp only at hR
    obtain ⟨B, hB⟩ : ∃ B : ByteArray, B = bs C1 := ⟨_, rfl⟩
    have hB1 : dl B = C1 := by rw [hB]; rfl
    have h2' : ∀ w1, Calls Tryd.prog 24 #[.agg #[.string d, .int .i64 S]] w1 fun e w' => e = .returned (.agg #[.string B, .int .i64 C2]) ∧ Bel w1 w' := by rw [hB]; exact h2
    have hBs : B.size = C1.length := by rw [hB, bs_size]
    rw [← hBs] at hC1
    rw [← hB1] at hR
    have H2 := Lib.hid h2'
    have HR := Lib.hid hR
    have hB3 : B.size ≤ 1000 := by omega
    have hC3 : (C2 : Int) ≤ 1000 := by omega
    clear h2 h2' hR hC hcan hz hds hl hs1 hs hcc hd hB hB1 hC1 hBs hC2 hs0
    by_cases hc0 : C2 = 0
    · subst hc0
      go_enter Tryd.func12, Tryd.ntmps12
      go_wp2_with fail
      refine (H1.out _).mono ?_
      rintro e w1 ⟨v, rfl, ⟨_, rfl⟩ | ⟨h, _⟩, hb1⟩
      · obtain ⟨hc, hf⟩ := bcell hb1
        have hz : w.heap.size < w1.heap.size := by have := hb1.size; simp at this; omega
        go_wp2_with fail
        refine (H2.out _).mono ?_
        rintro e w2 ⟨rfl, hb2⟩
        obtain ⟨hc2, hf2⟩ := bcell hb2
        have hz2 : w1.heap.size ≤ w2.heap.size := hb2.size
        go_wp2_with fail
        go_ret2
        refine ⟨?_, by (repeat (first | exact Bel.refl _ | assumption | refine Bel.to_drewN ?_ _ | refine Bel.to_drew ?_ | refine Bel.to_setCell ?_ (by first | exact Nat.le_refl _ | (simp; done) | (simp; omega) | omega) _ | refine Bel.to_alloc ?_ _ | refine Bel.trans ?_ (by assumption)))⟩
        rw [← HR.out]; rfl
      · exact absurd rfl h
    · go_enter Tryd.func12, Tryd.ntmps12
      go_wp2_with fail
      refine (H1.out _).mono ?_
      rintro e w1 ⟨v, rfl, ⟨_, rfl⟩ | ⟨h, _⟩, hb1⟩
      · obtain ⟨hc, hf⟩ := bcell hb1
        have hz : w.heap.size < w1.heap.size := by have := hb1.size; simp at this; omega
        have hcz : ((C2 : Int) == 0) = false := by simpa using hc0
        go_wp2_with fail
        refine (H2.out _).mono ?_
        rintro e w2 ⟨rfl, hb2⟩
        obtain ⟨hc2, hf2⟩ := bcell hb2
        have hz2 : w1.heap.size ≤ w2.heap.size := hb2.size
        have hz3 : w.heap.size < w2.heap.size := by omega
        have HC0 := Lib.hid hc0
        clear hc0
        go_wp2_with fail
        have k0 : ((w2.setCell ⟨w.heap.size, 0, none⟩ (.string B)).setCell ⟨w.heap.size, 1, none⟩ (.int .i64 C2)).cell? ⟨w.heap.size, 0, none⟩ = some (.string B) := by go_simp
        have k1 : ((w2.setCell ⟨w.heap.size, 0, none⟩ (.string B)).setCell ⟨w.heap.size, 1, none⟩ (.int .i64 C2)).cell? ⟨w.heap.size, 1, none⟩ = some (.int .i64 C2) := by go_simp
        obtain ⟨W0, hW0⟩ : ∃ W0, (w2.setCell ⟨w.heap.size, 0, none⟩ (.string B)).setCell ⟨w.heap.size, 1, none⟩ (.int .i64 C2) = W0 := ⟨_, rfl⟩
        have hb0 : Bel w W0 := by rw [← hW0]; (repeat (first | exact Bel.refl _ | assumption | refine Bel.to_drewN ?_ _ | refine Bel.to_drew ?_ | refine Bel.to_setCell ?_ (by first | exact Nat.le_refl _ | (simp; done) | (simp; omega) | omega) _ | refine Bel.to_alloc ?_ _ | refine Bel.trans ?_ (by assumption)))
        rw [hW0] at k0 k1 ⊢
        clear hW0 hc2 hf2 hc hf hz hz2 hz3 hb1 hb2
        have HB0 := Lib.hid hb0
        clear hb0
        obtain ⟨M, hM⟩ : ∃ M : Int, max 0 ((C2 : Int) + 1 - (B.size : Int)) = M := ⟨_, rfl⟩
        have hM0 : 0 ≤ M := by omega
        have hM1 : M ≤ 1001 := by omega
        have hM2 : (C2 : Int) < M + B.size := by omega
        obtain ⟨m, rfl⟩ := Int.eq_ofNat_of_zero_le hM0
        have h4 := fun w1 => repeat_c m (by omega) w1
        obtain ⟨Z, hZ⟩ : ∃ Z : ByteArray, Z = bs (List.replicate m 48) := ⟨_, rfl⟩
        rw [← hZ] at h4
        have hZs : Z.size = m := by rw [hZ, bs_size, List.length_replicate]
        have hZl : dl Z = List.replicate m 48 := by rw [hZ]; rfl
        have hr := HR.out
        unfold textC at hr
        rw [if_neg (by have := HC0.out; omega), dl_size, hM] at hr
        simp only [Int.toNat_natCast] at hr
        rw [← hZl] at hr
        have H4 := Lib.hid h4
        have HRR := Lib.hid hr
        have HM := Lib.hid hM
        have HZ := Lib.hid hZs
        have f1 : IntKind.i64.wrap ((C2 : Int) + 1) = (C2 : Int) + 1 := IntWalk.i64_in _ (by omega)
        have f2 : IntKind.i64.wrap ((C2 : Int) + 1 - (B.size : Int)) = (C2 : Int) + 1 - (B.size : Int) := IntWalk.i64_in _ (by omega)
        have f3 : ¬ (9223372036854775807 < Z.size + B.size) := by omega
        clear h4 hr hZ hZs hZl HR
        go_region_held3 (fun w' => w'.cell? ⟨w.heap.size, 0, none⟩ = some (.string B) ∧ w'.cell? ⟨w.heap.size, 1, none⟩ = some (.int .i64 C2) ∧ Bel W0 w')
          (((try dsimp only); (try go_split_ands); (refine ⟨?_, ?_, ?_⟩ <;> first | assumption | exact Bel.keep (by assumption) (by assumption) | ((repeat (first | exact Bel.refl _ | assumption | refine Bel.to_drewN ?_ _ | refine Bel.to_drew ?_ | refine Bel.to_setCell ?_ (by first | exact Nat.le_refl _ | (simp; done) | (simp; omega) | omega) _ | refine Bel.to_alloc ?_ _ | refine Bel.trans ?_ (by assumption))); done) | (go_keep; done))))
          (first
            | (go_at_call 28; refine (H4.out _).mono ?_; rintro e w3 ⟨rfl, hb3⟩))
        obtain ⟨X, hX⟩ : ∃ X, Z ++ B = X := ⟨_, rfl⟩
        have hXs : X.size = m + B.size := by rw [← hX, ByteArray.size_append, HZ.out]
        have hXl : dl Z ++ dl B = dl X := by rw [← hX]; simp [dl]
        have hr := HRR.out
        rw [hXl, dl_size] at hr
        obtain ⟨k, hk⟩ : ∃ k, X.size - C2 = k := ⟨_, rfl⟩
        have hki : (X.size : Int) - C2 = k := by omega
        rw [hk] at hr
        have HR3 := Lib.hid hr
        have g0 : (C2 : Int) ≤ X.size := by omega
        have g1 : k ≤ X.size := by omega
        have g2 : X.size ≤ 4294967296 := by omega
        have HK := Lib.hid hki
        go_split_ands
        rename_i q0 q1 q2
        rw [hX]
        clear hr hXl hX hXs hki hk f1 f2 f3 hM2 hM0 hM1 k0 k1 HM HZ HRR H1 H2 H4
        go_wp2_with fail
        rw [HK.out]
        have e1 : (X.extract 0 k).size = k := by simp; omega
        have e2 : (X.extract k X.size).size = X.size - k := by simp
        have e3 : ((X.extract 0 k) ++ ⟨#[46]⟩).size = k + 1 := by rw [ByteArray.size_append, e1]; rfl
        have g3 : ¬ (9223372036854775807 < (X.extract 0 k).size + 1) := by omega
        have g4 : ¬ (9223372036854775807 < ((X.extract 0 k) ++ ⟨#[46]⟩ : ByteArray).size + (X.extract k X.size).size) := by omega
        have g5 : (0 : Int) ≤ k := by omega
        have g6 : (k : Int) ≤ X.size := by omega
        go_region
        go_wp2_with fail
        go_ret2
        refine ⟨?_, Bel.trans HB0.out (Bel.to_drew (by assumption))⟩
        rw [← HR3.out, text_join]
        rfl
      · exact absurd rfl h
  · rw [if_neg h0] at hR
    have HR := Lib.hid hR
    clear hR hcan hz hds hcc
    go_enter Tryd.func12, Tryd.ntmps12
    go_wp2_with fail
    refine (H1.out _).mono ?_
    rintro e w1 ⟨v, rfl, ⟨h, _⟩ | ⟨h, b, rfl, hcb⟩, hb1⟩
    · exact absurd h h0
    · have h3 := told_c _ n w1 (HE.out.bel ((Bel.alloc w _).trans hb1)).1 (.inr ⟨h, b, rfl, hcb⟩)
      have H3 := Lib.hid h3
      clear h3 hcb
      go_wp2_with fail
      refine H3.out.mono ?_
      rintro e w2 ⟨rfl, hb2⟩
      go_wp2_with fail
      go_ret2
      refine ⟨?_, by (repeat (first | exact Bel.refl _ | assumption | refine Bel.to_drewN ?_ _ | refine Bel.to_drew ?_ | refine Bel.to_setCell ?_ (by first | exact Nat.le_refl _ | (simp; done) | (simp; omega) | omega) _ | refine Bel.to_alloc ?_ _ | refine Bel.trans ?_ (by assumption)))⟩
      rw [← HR.out]; rfl
end Go.Proofs.YtdpmibkiihddjaaDoor
