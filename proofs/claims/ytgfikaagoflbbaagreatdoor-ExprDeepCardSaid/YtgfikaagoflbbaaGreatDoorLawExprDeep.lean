/-
  The walk of the law ExprDeep: whatever the number and the kind: true.
-/
import Derived.Test.YtgfikaagoflbbaaGreatDoorEDP
namespace Go.Proofs.YtgfikaagoflbbaaGreatDoor
open Go.RowKit

set_option maxRecDepth 100000 in
set_option maxHeartbeats 8000000 in
theorem exprDeep_walk {w : World} (n : Int) (_hn : (Lit.int .i64 n).wf = true) (q : Int) (_hq : (Lit.int .u8 q).wf = true) (hE : EnvX w) :
    Calls Tryz.prog 5 #[.int .i64 n, .int .u8 q] w (RetBel (.bool true) w) := by
  have HE := Lib.hid hE
  obtain ⟨K, hK, hK3⟩ : ∃ K : Nat, (max 0 n).tmod 300 = K ∧ K < 300 := ⟨((max 0 n).tmod 300).toNat, by rw [Int.tmod_eq_emod_of_nonneg (by omega)]; omega, by rw [Int.tmod_eq_emod_of_nonneg (by omega)]; omega⟩
  obtain ⟨r, hr⟩ : ∃ r, bits .and .u8 q 3 = r := ⟨_, rfl⟩
  clear hE
  go_enter Tryz.func5, Tryz.ntmps5
  go_wp2_with fail
  obtain ⟨V1, h1, k1, l1, s1⟩ := alloc_step w 25 [.int .i64 3, .string ⟨#[97]⟩, .slice none 0 0, .slice none 0 0]
  rw [h1]
  have BK0 := Lib.hid k1
  have L0 := Lib.hid l1
  have S0 := Lib.hid s1
  clear h1 k1 l1 s1
  go_loopw [13] (fun i wr => ∃ j : Nat, j ≤ K ∧ i = .int .i64 j ∧ Bel w wr ∧ ∃ vn vl, Blk wr w.heap.size 25 [.int .i64 (deepX r j).k, .string (deepX r j).s, vn, vl] ∧ ExAt (Less wr w.heap.size) (deepX r j) vn vl) (fun i _ => K - (intOf i).toNat)
  case atStart => exact ⟨0, Nat.zero_le _, rfl, L0.out, _, _, BK0.out, exAt_leaf _ _ _ (by decide)⟩
  case round =>
    obtain ⟨j, hj, rfl, hbel, vn, vl, hblk, hex⟩ := hrel
    have HBL := Lib.hid hbel
    have HBK := Lib.hid hblk
    have HEX := Lib.hid hex
    obtain ⟨na, la, nn, nc, m, lc, rfl, rfl, _, _, _, _, _, _, _, _⟩ := hex.opened
    have y0 := hblk.at 0
    have y1 := hblk.at 1
    have y2 := hblk.at 2
    have y3 := hblk.at 3
    have f0 := hblk.fz 0
    have f1 := hblk.fz 1
    have f2 := hblk.fz 2
    have f3 := hblk.fz 3
    have hlt := hblk.lt
    clear hbel hblk hex
    by_cases hjk : j < K
    · have hji : (j : Int) < K := by omega
      by_cases hr0 : r = 0
      · have r0 : (r == 0) = true := by simpa using hr0
        have HEQ := Lib.hid (deepX_s0 (r := r) j hr0)
        clear hr0
        go_wp2_with fail
        obtain ⟨b1, vn', vl', b2, b3⟩ := deep_one (k := 4) (s := ⟨#[]⟩) (by decide) hlt HBL.out HBK.out HEX.out _ rfl
        exact ⟨⟨j + 1, by omega, by go_num, b1, vn', vl', by rw [HEQ.out]; exact b2, by rw [HEQ.out]; exact b3⟩, by simp [intOf]; omega⟩
      · by_cases hr1 : r = 1
        · have r0 : (r == 0) = false := by simpa using hr0
          have r1 : (r == 1) = true := by simpa using hr1
          have HEQ := Lib.hid (deepX_s1 (r := r) j hr1)
          clear hr0 hr1
          go_wp2_with fail
          obtain ⟨b1, vn', vl', b2, b3⟩ := deep_two (k := 16) (s := ⟨#[]⟩) (.mk 0 ⟨#[49]⟩ [] []) (deepX r j) (.slice none 0 0) (.slice none 0 0) (.slice na nn nc) (.slice la m lc) (.inr ⟨rfl, rfl, rfl, 0, ⟨#[49]⟩, rfl, by decide, rfl, rfl⟩) (by decide) hlt HBL.out HBK.out HEX.out _ rfl
          exact ⟨⟨j + 1, by omega, by go_num, b1, vn', vl', by rw [HEQ.out]; exact b2, by rw [HEQ.out]; exact b3⟩, by simp [intOf]; omega⟩
        · by_cases hr2 : r = 2
          · have r0 : (r == 0) = false := by simpa using hr0
            have r1 : (r == 1) = false := by simpa using hr1
            have r2 : (r == 2) = true := by simpa using hr2
            have HEQ := Lib.hid (deepX_s2 (r := r) j hr2)
            clear hr0 hr1 hr2
            go_wp2_with fail
            obtain ⟨b1, vn', vl', b2, b3⟩ := deep_one (k := 8) (s := ⟨#[98, 32, 99]⟩) (by decide) hlt HBL.out HBK.out HEX.out _ rfl
            exact ⟨⟨j + 1, by omega, by go_num, b1, vn', vl', by rw [HEQ.out]; exact b2, by rw [HEQ.out]; exact b3⟩, by simp [intOf]; omega⟩
          · have r0 : (r == 0) = false := by simpa using hr0
            have r1 : (r == 1) = false := by simpa using hr1
            have r2 : (r == 2) = false := by simpa using hr2
            have HEQ := Lib.hid (deepX_s3 (r := r) j ⟨hr0, hr1, hr2⟩)
            clear hr0 hr1 hr2
            go_wp2_with fail
            obtain ⟨b1, vn', vl', b2, b3⟩ := deep_two (k := 5) (s := ⟨#[97, 110, 100]⟩) (deepX r j) (.mk 0 ⟨#[50]⟩ [] []) (.slice na nn nc) (.slice la m lc) (.slice none 0 0) (.slice none 0 0) (.inl ⟨rfl, rfl, rfl, 0, ⟨#[50]⟩, rfl, by decide, rfl, rfl⟩) (by decide) hlt HBL.out HBK.out HEX.out _ rfl
            exact ⟨⟨j + 1, by omega, by go_num, b1, vn', vl', by rw [HEQ.out]; exact b2, by rw [HEQ.out]; exact b3⟩, by simp [intOf]; omega⟩
    · obtain rfl : j = K := by omega
      have hb8 := deepX_bulk r j
      have hxa := ex_back HEX.out
      have hck := fun W (hW : Bel wr W) => check_x (deepX r j) _ _ W (HE.out.bel (HBL.out.trans hW)) (by omega) (ExAt.bel hW _ hxa)
      have hdp := fun W (hW : Bel wr W) => depth_c (deepX r j).bulk (deepX r j) (Nat.le_refl _) (by omega) _ _ W (ExAt.bel hW _ hxa)
      rw [deepX_Check] at hck
      rw [deepX_dE] at hdp
      have HDP := Lib.hid hdp
      have hwr1 : IntKind.i64.wrap ((j : Int) + 1) = (j : Int) + 1 := IntWalk.i64_in _ (by omega)
      have hcast : ((j + 1 : Nat) : Int) = (j : Int) + 1 := by omega
      clear hdp hxa hb8 hjk f0 f1 f2 f3
      by_cases h200 : j < 200
      · have h2i : (j : Int) < 200 := by omega
        rw [if_pos h200] at hck
        have HCK := Lib.hid hck
        clear hck h200
        go_wp2_with fail
        refine (HCK.out _ (Bel.refl _)).mono ?_
        rintro e1 w1 ⟨rfl, hb1⟩
        go_wp2_with fail
        refine (ealive_c _ (HE.out.bel (HBL.out.trans hb1))).mono ?_
        rintro e2 w2 ⟨rfl, hb2⟩
        have hb3 := hb1.trans hb2
        replace y0 := hb3.keep y0
        replace y1 := hb3.keep y1
        replace y2 := hb3.keep y2
        replace y3 := hb3.keep y3
        have HB3 := Lib.hid hb3
        clear hb1 hb2 hb3
        go_wp2_with fail
        refine (HDP.out _ HB3.out).mono ?_
        rintro e3 w3 ⟨rfl, hb4⟩
        go_wp2_with fail
        go_ret
        exact ⟨rfl, HBL.out.trans (HB3.out.trans hb4)⟩
      · have h2i : ¬ (j : Int) < 200 := by omega
        rw [if_neg h200] at hck
        have HCK := Lib.hid hck
        clear hck h200
        go_wp2_with fail
        refine (HCK.out _ (Bel.refl _)).mono ?_
        rintro e1 w1 ⟨rfl, hb1⟩
        go_wp2_with fail
        refine (ealive_c _ (HE.out.bel (HBL.out.trans hb1))).mono ?_
        rintro e2 w2 ⟨rfl, hb2⟩
        have hb3 := hb1.trans hb2
        replace y0 := hb3.keep y0
        replace y1 := hb3.keep y1
        replace y2 := hb3.keep y2
        replace y3 := hb3.keep y3
        have HB3 := Lib.hid hb3
        clear hb1 hb2 hb3
        go_wp2_with fail
        refine (HDP.out _ HB3.out).mono ?_
        rintro e3 w3 ⟨rfl, hb4⟩
        go_wp2_with fail
        go_ret
        exact ⟨ret_bool (by simp; omega), HBL.out.trans (HB3.out.trans hb4)⟩
end Go.Proofs.YtgfikaagoflbbaaGreatDoor
