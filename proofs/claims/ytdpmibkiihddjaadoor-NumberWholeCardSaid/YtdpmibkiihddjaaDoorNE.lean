/-
  The walks of the layer number: canon.
-/
import Derived.Test.YtdpmibkiihddjaaDoorND
import Derived.Test.YtdpmibkiihddjaaDoorShelf
import Derived.RegionTactic
import Derived.ChangeAlike
namespace Go.Proofs.YtdpmibkiihddjaaDoor
open Go.RowKit

/-- A text of bytes. -/
def bs (l : List UInt8) : ByteArray := ⟨l.toArray⟩
theorem dl_bs (l : List UInt8) : dl (bs l) = l := rfl
theorem bs_dl (s : ByteArray) : bs (dl s) = s := rfl
theorem bs_size (l : List UInt8) : (bs l).size = l.length := by simp [bs, ByteArray.size]
def RetNum (r : List UInt8 × Int) (w : World) (e : Ending) (w' : World) : Prop := e = .returned (.agg #[.string (bs r.1), .int .i64 r.2]) ∧ Bel w w'

theorem trimLeft_le (l : List UInt8) : (Lib.trimLeftB l 48).length ≤ l.length := by
  obtain ⟨k, h, _⟩ := trimLeft_spec l
  have := congrArg List.length h
  simp at this; omega
theorem trimRight_le (l : List UInt8) : (Lib.trimRightB l 48).length ≤ l.length := by
  obtain ⟨k, h, _⟩ := trimRight_spec l
  have := congrArg List.length h
  simp at this; omega

set_option maxHeartbeats 2000000 in
theorem canon_c (d : ByteArray) (hs : d.size ≤ 4294967280) (sc : Int) (h0 : 0 ≤ sc) (hsc : sc ≤ 4294967280) (w : World) :
    Calls Tryd.prog 24 #[.agg #[.string d, .int .i64 sc]] w (RetNum (canonL (dl d) sc) w) := by
  have hl := trimLeft_le (dl d)
  have hd := dl_size d
  have h1 := fun w1 => Tryd.strings_TrimLeft_one d 48 (by decide) w1
  obtain ⟨R, hR⟩ : ∃ R, canonL (dl d) sc = R := ⟨_, rfl⟩
  rw [hR]
  obtain ⟨D, hD⟩ : ∃ D, Lib.trimLeftB (dl d) 48 = D := ⟨_, rfl⟩
  rw [show Lib.trimLeftB d.data.toList 48 = D from hD] at h1
  rw [hD] at hl
  unfold canonL at hR
  rw [hD] at hR
  by_cases hz : D = []
  · rw [if_pos hz] at hR
    subst hz
    have H1 := Lib.hid h1
    have HR := Lib.hid hR
    clear h1 hR hD hl
    go_enter Tryd.func24, Tryd.ntmps24
    go_wp2_with (go_at_call 34; refine (H1.out _).mono ?_; rintro e w' ⟨rfl, rfl⟩)
    refine bodyPost_ret (v := .agg #[.string ⟨#[48]⟩, .int .i64 0]) (by simp [results, Tryd.results24, go_sem]) rfl ?_
    rw [← HR.out]
    exact ⟨rfl, by first | exact Bel.to_setCell ((Bel.alloc w _).to_alloc _) (by simp) _ | exact (Bel.alloc w _).to_alloc _⟩
  · rw [if_neg hz] at hR
    have hr := trimRight_le D
    obtain ⟨T, hT⟩ : ∃ T, bs D = T := ⟨_, rfl⟩
    have hDT : dl T = D := by rw [← hT]; rfl
    have h2 := fun w1 => Tryd.strings_TrimRight_one T 48 (by decide) w1 (by rw [← hT, bs_size]; omega)
    obtain ⟨E, hE⟩ : ∃ E, Lib.trimRightB D 48 = E := ⟨_, rfl⟩
    rw [show Lib.trimRightB T.data.toList 48 = E from by rw [← hE, ← hDT]; rfl] at h2
    rw [hE] at hr hR
    obtain ⟨S, hS⟩ : ∃ S, bs E = S := ⟨_, rfl⟩
    have hSn : S.size = E.length := by rw [← hS, bs_size]
    have hTn : T.size = D.length := by rw [← hT, bs_size]
    have hne : T.toList.isEmpty = false := by
      rw [dl_empty, hDT]
      cases D with
      | nil => exact absurd rfl hz
      | cons c l => rfl
    have h1' : ∀ w1, Calls Tryd.prog 34 #[.string d, .string ⟨#[48]⟩] w1 fun e w' => e = .returned (.string T) ∧ w' = w1 := fun w1 => by rw [← hT]; exact h1 w1
    have h2' : ∀ w1, Calls Tryd.prog 35 #[.string T, .string ⟨#[48]⟩] w1 fun e w' => e = .returned (.string S) ∧ w' = w1 := fun w1 => by rw [← hS]; exact h2 w1
    have hne2 : T.toList ≠ [] := fun h => by rw [h] at hne; cases hne
    rw [← hTn, ← hSn] at hR
    rw [← hSn, ← hTn] at hr
    rw [← hTn] at hl
    obtain ⟨c, hc⟩ : ∃ c, min ((T.size : Int) - (S.size : Int)) sc = c := ⟨_, rfl⟩
    rw [hc] at hR
    have hc0 : 0 ≤ c := by omega
    have hc1 : c ≤ T.size := by omega
    have hc2 : c ≤ sc := by omega
    have HC := Lib.hid hc
    have H1 := Lib.hid h1'
    have H2 := Lib.hid h2'
    have HR := Lib.hid hR
    clear h1 h2 h1' h2' hR hc hS hT hD hE hSn hTn hz
    go_enter Tryd.func24, Tryd.ntmps24
    go_wp2_with (first
      | (go_at_call 34; refine (H1.out _).mono ?_; rintro e w' ⟨rfl, rfl⟩)
      | (go_at_call 35; refine (H2.out _).mono ?_; rintro e w' ⟨rfl, rfl⟩))
    rw [HC.out]
    have hcn : ((c.toNat : Nat) : Int) = c := by omega
    obtain ⟨k, rfl⟩ : ∃ k : Nat, c = k := ⟨c.toNat, hcn.symm⟩
    have f1 : IntKind.i64.wrap ((T.size : Int) - k) = (T.size : Int) - k := IntWalk.i64_in _ (by omega)
    have f2 : (0 : Int) ≤ (T.size : Int) - k := by omega
    have f3 : ((T.size : Int) - k).toNat = T.size - k := by omega
    have f4 : (T.size : Int) - k ≤ T.size := by omega
    have f5 : IntKind.i64.wrap (sc - k) = sc - k := IntWalk.i64_in _ (by omega)
    clear hcn
    go_region
    go_wp2_with fail
    refine bodyPost_ret (v := .agg #[.string (T.extract 0 (T.size - k)), .int .i64 (sc - k)]) (by simp [results, Tryd.results24, go_sem]) rfl ?_
    refine ⟨?_, ?_⟩
    · rw [← HR.out, ← hDT]
      simp only [Int.toNat_natCast]
      rw [Lib.extract_upto]; rfl
    · exact ((Bel.alloc w _).to_alloc _).to_drew

/-- What Read answers: the number, the error. -/
def readL (l : List UInt8) : (List UInt8 × Int) × Nat :=
  let t := Lib.cut l [46]
  if (digitsL t.1 = false ∧ ¬ (t.1 = [] ∧ t.2.2 = true)) ∨ (t.2.2 = true ∧ digitsL t.2.1 = false) then (([], 0), 17)
  else if 1000 < t.1.length + t.2.1.length then (([], 0), 19)
  else (canonL (t.1 ++ t.2.1) t.2.1.length, 0)
def RetNumE (r : (List UInt8 × Int) × Nat) (w : World) (e : Ending) (w' : World) : Prop := e = .returned (.tuple #[.agg #[.string (bs r.1.1), .int .i64 r.1.2], .int .i64 r.2]) ∧ Bel w w'
/-- bytealg's one variable holds some number. -/
def MaxT (w : World) : Prop := ∃ m, w.cell? ⟨1, 0, none⟩ = some (.int .i64 m)
theorem MaxT.bel {w w' : World} (h : MaxT w) (hb : Bel w w') : MaxT w' := by
  obtain ⟨m, h⟩ := h
  exact ⟨m, hb.keep h⟩

theorem cut_len (l : List UInt8) (c : UInt8) : (Lib.cut l [c]).1.length + (Lib.cut l [c]).2.1.length ≤ l.length := by
  unfold Lib.cut; simp; split <;> simp
  omega

set_option maxHeartbeats 2000000 in
theorem read_c (s : ByteArray) (hs : s.size ≤ 4294967280) (w : World) (hM : MaxT w) :
    Calls Tryd.prog 9 #[.string s] w (RetNumE (readL (dl s)) w) := by
  have hlen := cut_len (dl s) 46
  have hds := dl_size s
  obtain ⟨R, hR⟩ : ∃ R, readL (dl s) = R := ⟨_, rfl⟩
  rw [hR]
  obtain ⟨m, hm⟩ := hM
  have hcut := fun w1 (hM1 : MaxT w1) => Tryd.strings_Cut s ⟨#[46]⟩ hM1.choose w1 (by omega) hM1.choose_spec
  dsimp only at hcut
  unfold readL at hR
  dsimp only at hR
  obtain ⟨⟨a, b, t⟩, hab⟩ : ∃ x, Lib.cut (dl s) [46] = x := ⟨_, rfl⟩
  have hab2 : Lib.cut s.data.toList [46] = (a, b, t) := hab
  simp only [hab] at hR hlen
  simp only [hab2] at hcut
  obtain ⟨A, hA⟩ : ∃ A : ByteArray, A = bs a := ⟨_, rfl⟩
  obtain ⟨B, hB⟩ : ∃ B : ByteArray, B = bs b := ⟨_, rfl⟩
  have hA2 : dl A = a := by rw [hA]; rfl
  have hB2 : dl B = b := by rw [hB]; rfl
  have hcut' : ∀ w1, MaxT w1 → Calls Tryd.prog 22 #[.string s, .string ⟨#[46]⟩] w1 fun e w' => e = .returned (.tuple #[.string A, .string B, .bool t]) ∧ ∃ n, w' = w1.drewN n := by
    rw [hA, hB]; exact hcut
  have hAs : A.size = a.length := by rw [hA, bs_size]
  have hBs : B.size = b.length := by rw [hB, bs_size]
  have hd1 := fun w1 => digits_c A (by unfold maxLen; omega) w1
  have hd2 := fun w1 => digits_c B (by unfold maxLen; omega) w1
  obtain ⟨D, hD⟩ : ∃ D, digitsL a = D := ⟨_, rfl⟩
  obtain ⟨E, hE⟩ : ∃ E, digitsL b = E := ⟨_, rfl⟩
  rw [hA2, hD] at hd1
  rw [hB2, hE] at hd2
  rw [hD, hE, ← hAs, ← hBs] at hR
  have hab3 : (A ++ B).size = A.size + B.size := ByteArray.size_append
  have hdl : dl (A ++ B) = a ++ b := by rw [← hA2, ← hB2]; simp [dl]
  have hcan := fun w1 => canon_c (A ++ B) (by rw [hab3]; omega) B.size (by omega) (by omega) w1
  rw [hdl] at hcan
  have hAe : A.toList.isEmpty = decide (a = []) := by rw [dl_empty, hA2]; cases a <;> simp
  rw [← hAs, ← hBs] at hlen
  have H1 := Lib.hid hcut'
  have H2 := Lib.hid hd1
  have H3 := Lib.hid hd2
  have H4 := Lib.hid hcan
  have HR := Lib.hid hR
  have HM : Hid (MaxT w) := Lib.hid ⟨m, hm⟩
  have H5 := Lib.hid hab3
  clear hcut hcut' hd1 hd2 hcan hR hm hab hab2 hA hB hdl hAs hBs hab3 hD hE
  have hba : A.size + B.size ≤ 4294967280 := by omega
  clear hlen hds
  have key : ∀ em : Bool, decide (a = []) = em → Calls Tryd.prog 9 #[.string s] w (RetNumE R w) := by
    intro em hem
    have hR := HR.out
    have hAe1 : A.toList.isEmpty = em := by rw [hAe, hem]
    have hema : a = [] ↔ em = true := by rw [← hem]; simp
    simp only [hema] at hR
    have hAe2 : (A.toList = []) = (em = true) := by rw [← hAe1, List.isEmpty_iff]
    by_cases hbig : 1000 < A.size + B.size
    · have hbi : (1000 : Int) < (A.size : Int) + B.size := by omega
      rw [if_pos hbig] at hR
      have HR2 := Lib.hid hR
      clear hR HR hema hem hAe
      cases D <;> cases t <;> cases E <;> cases em
      all_goals
        simp only [Bool.false_eq_true, eq_iff_iff, iff_false, iff_true] at hAe2
        go_enter Tryd.func9, Tryd.ntmps9
        go_wp2_with (first
          | (go_at_call 22; refine (H1.out _ (HM.out.bel (by first | exact Bel.alloc _ _ | exact Bel.refl _))).mono ?_; rintro e w' ⟨rfl, n, rfl⟩)
          | ((with_reducible refine (H2.out _).mono ?_); rintro e w' ⟨rfl, rfl⟩)
          | ((with_reducible refine (H3.out _).mono ?_); rintro e w' ⟨rfl, rfl⟩))
        have hr := HR2.out
        simp at hr
        refine bodyPost_ret (v := .tuple #[.agg #[.string (bs R.1.1), .int .i64 R.1.2], .int .i64 R.2]) (by simp [results, Tryd.results9, go_sem, ← hr, bs]) rfl ⟨rfl, by (repeat (first | exact Bel.refl _ | assumption | refine Bel.to_drewN ?_ _ | refine Bel.to_drew ?_ | refine Bel.to_setCell ?_ (by first | exact Nat.le_refl _ | (simp; done) | (simp; omega) | omega) _ | refine Bel.to_alloc ?_ _ | refine Bel.trans ?_ (by assumption)))⟩
    · have hbi : (A.size : Int) + B.size ≤ 1000 := by omega
      rw [if_neg hbig] at hR
      obtain ⟨C, hC⟩ : ∃ C, canonL (a ++ b) B.size = C := ⟨_, rfl⟩
      have h4 := fun w1 => H4.out w1
      rw [hC] at h4 hR
      have H6 := Lib.hid h4
      have HR2 := Lib.hid hR
      clear hR HR hema hem hAe h4 H4 hC
      cases D <;> cases t <;> cases E <;> cases em
      all_goals
        simp only [Bool.false_eq_true, eq_iff_iff, iff_false, iff_true] at hAe2
        go_enter Tryd.func9, Tryd.ntmps9
        go_wp2_with (first
          | (go_at_call 22; refine (H1.out _ (HM.out.bel (by first | exact Bel.alloc _ _ | exact Bel.refl _))).mono ?_; rintro e w' ⟨rfl, n, rfl⟩)
          | ((with_reducible refine (H2.out _).mono ?_); rintro e w' ⟨rfl, rfl⟩)
          | ((with_reducible refine (H3.out _).mono ?_); rintro e w' ⟨rfl, rfl⟩)
          | (go_at_call 24; refine (H6.out _).mono ?_; rintro e w2 ⟨rfl, hb⟩; obtain ⟨hc, hf⟩ := bcell hb; have hz : w.heap.size < w2.heap.size := by have := hb.size; simp at this; omega))
        have hr := HR2.out
        simp at hr
        refine bodyPost_ret (v := .tuple #[.agg #[.string (bs R.1.1), .int .i64 R.1.2], .int .i64 R.2]) (by first | (simp [results, Tryd.results9, go_sem, ← hr, bs]; done) | (simp [results, Tryd.results9, go_sem, ← hr, hc]; done) | (simp [results, Tryd.results9, go_sem, ← hr, hc, hz]; trace_state; fail)) rfl ⟨rfl, by first | ((repeat (first | exact Bel.refl _ | assumption | refine Bel.to_drewN ?_ _ | refine Bel.to_drew ?_ | refine Bel.to_setCell ?_ (by first | exact Nat.le_refl _ | (simp; done) | (simp; omega) | omega) _ | refine Bel.to_alloc ?_ _ | refine Bel.trans ?_ (by assumption))); done) | (have hb' : Bel _ _ := hb; refine Bel.to_setCell (Bel.to_setCell (Bel.trans ?_ hb) (Nat.le_refl _) _) (Nat.le_refl _) _; (repeat (first | exact Bel.refl _ | assumption | refine Bel.to_drewN ?_ _ | refine Bel.to_drew ?_ | refine Bel.to_setCell ?_ (by first | exact Nat.le_refl _ | (simp; done) | (simp; omega) | omega) _ | refine Bel.to_alloc ?_ _ | refine Bel.trans ?_ (by assumption))))⟩
  exact key _ rfl
end Go.Proofs.YtdpmibkiihddjaaDoor
