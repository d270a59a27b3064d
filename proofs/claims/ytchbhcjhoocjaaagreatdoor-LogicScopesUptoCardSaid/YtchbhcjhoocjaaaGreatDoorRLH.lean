/-
  logic: the walks of the document's form and names.
-/
import Derived.Test.YtchbhcjhoocjaaaGreatDoorRLG
namespace Go.Proofs.YtchbhcjhoocjaaaGreatDoor
open Go.RowKit

set_option maxRecDepth 100000 in
set_option maxHeartbeats 16000000 in
theorem rform_c (l : Lg) (q : LgQ) (w : World) (hat : LgAt w l q) (hb : l.bulk ≤ 1073741824) : Calls Tryz.prog 81 #[lgV l q] w (RetBel (.bool (formL l)) w) := by
  obtain ⟨nea, nen, nec, lea, len, lec, ia, im, ic, oa, om, oc, ra, rm, rc, na, nm, nc, la, lm, lc, rfl, ⟨him, hom, hrm, hnm, hlm⟩, ⟨hci, hco, hcr, hcn, hcl⟩, ⟨hbi, hbo, hbr, hbn, hbl⟩, hex, hpi, hpo, hpr, hpn, hpl⟩ := LgAt.opened hat
  unfold lgV
  dsimp only
  have HS := Lib.hid (fun W (hW : Bel w W) => rempty_c l.e _ _ W (ExAt.bel hW _ hex) (by have := lbulk_eq l; omega))
  have HPC := Lib.hid (fun W v (hv : RowAt0 W v (strsV polS)) => rhas_c v polS l.p W hv (by decide))
  obtain ⟨R, hR⟩ : ∃ R, formL l = R := ⟨_, rfl⟩
  rw [hR]
  unfold formL at hR
  rw [hnm, hlm, hom] at hR
  obtain ⟨S, hS⟩ : ∃ S, sameE l.e emptyE = S := ⟨_, rfl⟩
  obtain ⟨B, hB⟩ : ∃ B, bareL l = B := ⟨_, rfl⟩
  obtain ⟨P, hPP⟩ : ∃ P, decide (l.p ∈ polS) = P := ⟨_, rfl⟩
  obtain ⟨Z, hZ⟩ : ∃ Z, decide (nm + lm = 0) = Z := ⟨_, rfl⟩
  rw [hS] at HS hR
  rw [hB, hZ] at hR
  rw [hPP] at HPC hR
  unfold bareL at hB
  rw [him, hom, hrm] at hB
  obtain ⟨k, hk⟩ : ∃ k, l.k = k := ⟨_, rfl⟩
  obtain ⟨ek, hek⟩ : ∃ k, l.e.k = k := ⟨_, rfl⟩
  obtain ⟨p, hp⟩ : ∃ k, l.p = k := ⟨_, rfl⟩
  rw [hp] at hB HPC
  rw [hk] at hR ⊢
  rw [hek] at HS hR ⊢
  rw [hp]
  have hi2 : im ≤ 1073741824 := by omega
  have ho2 : om ≤ 1073741824 := by omega
  have hr2 : rm ≤ 1073741824 := by omega
  have hn2 : nm ≤ 1073741824 := by omega
  have hl2 : lm ≤ 1073741824 := by omega
  have HR := Lib.hid hR
  have HBB := Lib.hid hB
  have HZZ := Lib.hid hZ
  obtain ⟨W0, z0, t0, hb0, s0⟩ := alloc_step w 30 [.int .i64 k, .int .i64 ek, .string l.e.s, .slice nea nen nec, .slice lea len lec, .string p, .slice ia im ic, .slice oa om oc, .slice ra rm rc, .slice na nm nc, .slice la lm lc]
  have HW0 := Lib.hid z0
  have HB0 := Lib.hid hb0
  have c0 := Blk.at t0 0
  have c1 := Blk.at t0 1
  have c2 := Blk.at t0 2
  have c3 := Blk.at t0 3
  have c4 := Blk.at t0 4
  have c5 := Blk.at t0 5
  have c6 := Blk.at t0 6
  have c7 := Blk.at t0 7
  have c8 := Blk.at t0 8
  have c9 := Blk.at t0 9
  have c10 := Blk.at t0 10
  clear him hom hrm hnm hlm hex hpi hpo hpr hpn hpl hat hR hS hB hPP hk hek hp t0 hb0 z0 s0 hZ
  go_enter Tryz.func81, Tryz.ntmps81
  go_upto_region 1 with fail
  rw [show w.alloc (.cells #[.int .i64 k, .int .i64 ek, .string l.e.s, .slice nea nen nec, .slice lea len lec, .string p, .slice ia im ic, .slice oa om oc, .slice ra rm rc, .slice na nm nc, .slice la lm lc] 30) = W0 from HW0.out]
  clear HW0
  go_cut [3] (fun v wx => v = .bool B ∧ W0 = wx)
  case first =>
    clear c0 c1 c2 c3 c4 c9 c10
    by_cases hp : p.size = 0
    · obtain rfl := size_none hp
      by_cases hi : im = 0
      · subst hi
        by_cases ho : om = 0
        · subst ho
          by_cases hr : rm = 0
          · subst hr
            have hB2 : true = B := by rw [← HBB.out]; decide
            subst hB2
            clear hp
            go_wp2_with fail
            go_meet
            exact ⟨rfl, rfl⟩
          · have hB2 : false = B := by rw [← HBB.out]; simp; omega
            have h3 : ((rm : Int) == 0) = false := by simpa using hr
            subst hB2
            clear hp hr
            go_wp2_with fail
            go_meet
            exact ⟨rfl, rfl⟩
        · have hB2 : false = B := by rw [← HBB.out]; simp; omega
          have h3 : ((om : Int) == 0) = false := by simpa using ho
          subst hB2
          clear hp ho
          go_wp2_with fail
          go_meet
          exact ⟨rfl, rfl⟩
      · have hB2 : false = B := by rw [← HBB.out]; simp; omega
        have h3 : ((im : Int) == 0) = false := by simpa using hi
        subst hB2
        clear hp hi
        go_wp2_with fail
        go_meet
        exact ⟨rfl, rfl⟩
    · have hB2 : false = B := by rw [← HBB.out, size_some hp]; simp
      have h3 := size_list hp
      subst hB2
      clear hp
      go_wp2_with fail
      go_meet
      exact ⟨rfl, rfl⟩
  case rest =>
  obtain ⟨rfl, rfl⟩ := hcut
  go_upto_region 2 with fail
  go_cut [4] (fun v wx => v = .bool Z ∧ W0 = wx)
  case first =>
    clear c0 c1 c2 c3 c4 c5 c6 c7 c8
    by_cases hi : nm = 0
    · subst hi
      by_cases ho : lm = 0
      · subst ho
        have hB2 : true = Z := by rw [← HZZ.out]; simp
        subst hB2
        go_wp2_with fail
        go_meet
        exact ⟨rfl, rfl⟩
      · have hB2 : false = Z := by rw [← HZZ.out]; simp; omega
        have h3 : ((lm : Int) == 0) = false := by simpa using ho
        subst hB2
        clear ho
        go_wp2_with fail
        go_meet
        exact ⟨rfl, rfl⟩
    · have hB2 : false = Z := by rw [← HZZ.out]; simp; omega
      have h3 : ((nm : Int) == 0) = false := by simpa using hi
      subst hB2
      clear hi
      go_wp2_with fail
      go_meet
      exact ⟨rfl, rfl⟩
  case rest =>
  obtain ⟨rfl, rfl⟩ := hcut
  clear HBB HZZ
  by_cases h0 : k = 0
  · subst h0
    have hR : (B && Z) = R := HR.out
    have HR2 := Lib.hid hR
    clear hR HR
    cases B
    all_goals
      go_wp2_with fail
      go_ret
      exact ⟨ret_bool (by rw [← HR2.out]; rfl), HB0.out⟩
  have n0 : (k == 0) = false := by simpa using h0
  by_cases h1 : k = 1
  · subst h1
    have hR : (S && (Z && (decide (0 < om) && P))) = R := HR.out
    have HR2 := Lib.hid hR
    clear hR HR n0 h0
    cases Z with
    | false =>
      have HR3 : Hid (false = R) := Lib.hid (by rw [← HR2.out]; simp)
      clear HR2
      go_wp2_with fail
      refine wp_region_held_drew (S := fun w' => Bel W0 w') (by kernel_rfl) (by (repeat (first | exact Bel.refl _ | assumption | refine Bel.to_drewN ?_ _ | refine Bel.to_drew ?_ | refine Bel.to_setCell ?_ (by first | exact Nat.le_refl _ | (simp; done) | (simp; omega) | omega) _ | refine Bel.to_alloc ?_ _ | refine Bel.trans ?_ (by assumption)))) (fun hHeld => ?_)
      refine tk 0 (v := ?_) ?_ ?_
      rotate_left 1
      · first
          | (refine Or.inl ⟨by rfl, ?_⟩; intro w9 hSw; go_simp; (try with_reducible rfl); done)
          | (refine Or.inr ⟨by rfl, ?_⟩; rfl)
      simp only [List.getElem_toArray, List.getElem_cons_zero, Act.put, List.setIfInBounds_toArray, List.set_cons_zero, List.set_cons_succ]
      refine tk 1 (v := ?_) ?_ ?_
      rotate_left 1
      · first
          | (refine Or.inl ⟨by rfl, ?_⟩; intro w9 hSw; go_simp; (try with_reducible rfl); done)
          | (refine Or.inr ⟨by rfl, ?_⟩; rfl)
      simp only [List.getElem_toArray, List.getElem_cons_succ, List.getElem_cons_zero, Act.put, List.setIfInBounds_toArray, List.set_cons_zero, List.set_cons_succ]
      refine tk 2 (v := ?_) ?_ ?_
      rotate_left 1
      · first
          | (refine Or.inl ⟨by rfl, ?_⟩; intro w9 hSw; go_simp; (try with_reducible rfl); done)
          | (refine Or.inr ⟨by rfl, ?_⟩; rfl)
      simp only [List.getElem_toArray, List.getElem_cons_succ, List.getElem_cons_zero, Act.put, List.setIfInBounds_toArray, List.set_cons_zero, List.set_cons_succ]
      refine tk 3 (v := ?_) ?_ ?_
      rotate_left 1
      · first
          | (refine Or.inl ⟨by rfl, ?_⟩; intro w9 hSw; go_simp; (try with_reducible rfl); done)
          | (refine Or.inr ⟨by rfl, ?_⟩; rfl)
      simp only [List.getElem_toArray, List.getElem_cons_succ, List.getElem_cons_zero, Act.put, List.setIfInBounds_toArray, List.set_cons_zero, List.set_cons_succ]
      refine tk 4 (v := ?_) ?_ ?_
      rotate_left 1
      · first
          | (refine Or.inl ⟨by rfl, ?_⟩; intro w9 hSw; go_simp; (try with_reducible rfl); done)
          | (refine Or.inr ⟨by rfl, ?_⟩; rfl)
      simp only [List.getElem_toArray, List.getElem_cons_succ, List.getElem_cons_zero, Act.put, List.setIfInBounds_toArray, List.set_cons_zero, List.set_cons_succ]
      refine tk 5 (v := ?_) ?_ ?_
      rotate_left 1
      · first
          | (refine Or.inl ⟨by rfl, ?_⟩; intro w9 hSw; go_simp; (try with_reducible rfl); done)
          | (refine Or.inr ⟨by rfl, ?_⟩; rfl)
      simp only [List.getElem_toArray, List.getElem_cons_succ, List.getElem_cons_zero, Act.put, List.setIfInBounds_toArray, List.set_cons_zero, List.set_cons_succ]
      refine tk 6 (v := ?_) ?_ ?_
      rotate_left 1
      · first
          | (refine Or.inl ⟨by rfl, ?_⟩; intro w9 hSw; go_simp; (try with_reducible rfl); done)
          | (refine Or.inr ⟨by rfl, ?_⟩; rfl)
      simp only [List.getElem_toArray, List.getElem_cons_succ, List.getElem_cons_zero, Act.put, List.setIfInBounds_toArray, List.set_cons_zero, List.set_cons_succ]
      refine tk 7 (v := ?_) ?_ ?_
      rotate_left 1
      · first
          | (refine Or.inl ⟨by rfl, ?_⟩; intro w9 hSw; go_simp; (try with_reducible rfl); done)
          | (refine Or.inr ⟨by rfl, ?_⟩; rfl)
      simp only [List.getElem_toArray, List.getElem_cons_succ, List.getElem_cons_zero, Act.put, List.setIfInBounds_toArray, List.set_cons_zero, List.set_cons_succ]
      refine tk 8 (v := ?_) ?_ ?_
      rotate_left 1
      · first
          | (refine Or.inl ⟨by rfl, ?_⟩; intro w9 hSw; go_simp; (try with_reducible rfl); done)
          | (refine Or.inr ⟨by rfl, ?_⟩; rfl)
      simp only [List.getElem_toArray, List.getElem_cons_succ, List.getElem_cons_zero, Act.put, List.setIfInBounds_toArray, List.set_cons_zero, List.set_cons_succ]
      refine tk 9 (v := ?_) ?_ ?_
      rotate_left 1
      · first
          | (refine Or.inl ⟨by rfl, ?_⟩; intro w9 hSw; go_simp; (try with_reducible rfl); done)
          | (refine Or.inr ⟨by rfl, ?_⟩; rfl)
      simp only [List.getElem_toArray, List.getElem_cons_succ, List.getElem_cons_zero, Act.put, List.setIfInBounds_toArray, List.set_cons_zero, List.set_cons_succ]
      refine tk 10 (v := ?_) ?_ ?_
      rotate_left 1
      · first
          | (refine Or.inl ⟨by rfl, ?_⟩; intro w9 hSw; go_simp; (try with_reducible rfl); done)
          | (refine Or.inr ⟨by rfl, ?_⟩; rfl)
      simp only [List.getElem_toArray, List.getElem_cons_succ, List.getElem_cons_zero, Act.put, List.setIfInBounds_toArray, List.set_cons_zero, List.set_cons_succ]
      refine tk 11 (v := ?_) ?_ ?_
      rotate_left 1
      · first
          | (refine Or.inl ⟨by rfl, ?_⟩; intro w9 hSw; go_simp; (try with_reducible rfl); done)
          | (refine Or.inr ⟨by rfl, ?_⟩; rfl)
      simp only [List.getElem_toArray, List.getElem_cons_succ, List.getElem_cons_zero, Act.put, List.setIfInBounds_toArray, List.set_cons_zero, List.set_cons_succ]
      refine tk 12 (v := ?_) ?_ ?_
      rotate_left 1
      · first
          | (refine Or.inl ⟨by rfl, ?_⟩; intro w9 hSw; go_simp; (try with_reducible rfl); done)
          | (refine Or.inr ⟨by rfl, ?_⟩; rfl)
      simp only [List.getElem_toArray, List.getElem_cons_succ, List.getElem_cons_zero, Act.put, List.setIfInBounds_toArray, List.set_cons_zero, List.set_cons_succ]
      refine tk 13 (v := ?_) ?_ ?_
      rotate_left 1
      · first
          | (refine Or.inl ⟨by rfl, ?_⟩; intro w9 hSw; go_simp; (try with_reducible rfl); done)
          | (refine Or.inr ⟨by rfl, ?_⟩; rfl)
      simp only [List.getElem_toArray, List.getElem_cons_succ, List.getElem_cons_zero, Act.put, List.setIfInBounds_toArray, List.set_cons_zero, List.set_cons_succ]
      refine tk 14 (v := ?_) ?_ ?_
      rotate_left 1
      · first
          | (refine Or.inl ⟨by rfl, ?_⟩; intro w9 hSw; go_simp; (try with_reducible rfl); done)
          | (refine Or.inr ⟨by rfl, ?_⟩; rfl)
      simp only [List.getElem_toArray, List.getElem_cons_succ, List.getElem_cons_zero, Act.put, List.setIfInBounds_toArray, List.set_cons_zero, List.set_cons_succ]
      refine tk 15 (v := ?_) ?_ ?_
      rotate_left 1
      · first
          | (refine Or.inl ⟨by rfl, ?_⟩; intro w9 hSw; go_simp; (try with_reducible rfl); done)
          | (refine Or.inr ⟨by rfl, ?_⟩; rfl)
      simp only [List.getElem_toArray, List.getElem_cons_succ, List.getElem_cons_zero, Act.put, List.setIfInBounds_toArray, List.set_cons_zero, List.set_cons_succ]
      refine tk 16 (v := ?_) ?_ ?_
      rotate_left 1
      · first
          | (refine Or.inl ⟨by rfl, ?_⟩; intro w9 hSw; go_simp; (try with_reducible rfl); done)
          | (refine Or.inr ⟨by rfl, ?_⟩; rfl)
      simp only [List.getElem_toArray, List.getElem_cons_succ, List.getElem_cons_zero, Act.put, List.setIfInBounds_toArray, List.set_cons_zero, List.set_cons_succ]
      refine tk 17 (v := ?_) ?_ ?_
      rotate_left 1
      · first
          | (refine Or.inl ⟨by rfl, ?_⟩; intro w9 hSw; go_simp; (try with_reducible rfl); done)
          | (refine Or.inr ⟨by rfl, ?_⟩; rfl)
      simp only [List.getElem_toArray, List.getElem_cons_succ, List.getElem_cons_zero, Act.put, List.setIfInBounds_toArray, List.set_cons_zero, List.set_cons_succ]
      refine tk 18 (v := ?_) ?_ ?_
      rotate_left 1
      · first
          | (refine Or.inl ⟨by rfl, ?_⟩; intro w9 hSw; go_simp; (try with_reducible rfl); done)
          | (refine Or.inr ⟨by rfl, ?_⟩; rfl)
      simp only [List.getElem_toArray, List.getElem_cons_succ, List.getElem_cons_zero, Act.put, List.setIfInBounds_toArray, List.set_cons_zero, List.set_cons_succ]
      refine wpAnyH_done (by kernel_rfl) ?_ _
      go_wp2_with fail
      go_ret
      exact ⟨ret_bool HR3.out, HB0.out.trans hHeld⟩
    | true =>
    go_wp2_with fail
    refine wp_region_held_drew (S := fun w' => Bel W0 w') (by kernel_rfl) (by (repeat (first | exact Bel.refl _ | assumption | refine Bel.to_drewN ?_ _ | refine Bel.to_drew ?_ | refine Bel.to_setCell ?_ (by first | exact Nat.le_refl _ | (simp; done) | (simp; omega) | omega) _ | refine Bel.to_alloc ?_ _ | refine Bel.trans ?_ (by assumption)))) (fun hHeld => ?_)
    refine tk 0 (v := ?_) ?_ ?_
    rotate_left 1
    · first
        | (refine Or.inl ⟨by rfl, ?_⟩; intro w9 hSw; have e9_0 := Bel.keep hSw c1; have e9_1 := Bel.keep hSw c2; have e9_2 := Bel.keep hSw c3; have e9_3 := Bel.keep hSw c4; go_simp; (try with_reducible rfl); done)
        | (refine Or.inr ⟨by rfl, ?_⟩; rfl)
    simp only [List.getElem_toArray, List.getElem_cons_zero, Act.put, List.setIfInBounds_toArray, List.set_cons_zero, List.set_cons_succ]
    refine tk 1 (v := ?_) ?_ ?_
    rotate_left 1
    · first
        | (refine Or.inl ⟨by rfl, ?_⟩; intro w9 hSw; have e9_0 := Bel.keep hSw c1; have e9_1 := Bel.keep hSw c2; have e9_2 := Bel.keep hSw c3; have e9_3 := Bel.keep hSw c4; go_simp; (try with_reducible rfl); done)
        | (refine Or.inr ⟨by rfl, ?_⟩; rfl)
    simp only [List.getElem_toArray, List.getElem_cons_succ, List.getElem_cons_zero, Act.put, List.setIfInBounds_toArray, List.set_cons_zero, List.set_cons_succ]
    refine tk 2 (v := ?_) ?_ ?_
    rotate_left 1
    · first
        | (refine Or.inl ⟨by rfl, ?_⟩; intro w9 hSw; have e9_0 := Bel.keep hSw c1; have e9_1 := Bel.keep hSw c2; have e9_2 := Bel.keep hSw c3; have e9_3 := Bel.keep hSw c4; go_simp; (try with_reducible rfl); done)
        | (refine Or.inr ⟨by rfl, ?_⟩; rfl)
    simp only [List.getElem_toArray, List.getElem_cons_succ, List.getElem_cons_zero, Act.put, List.setIfInBounds_toArray, List.set_cons_zero, List.set_cons_succ]
    refine tk 3 (v := ?_) ?_ ?_
    rotate_left 1
    · first
        | (refine Or.inl ⟨by rfl, ?_⟩; intro w9 hSw; have e9_0 := Bel.keep hSw c1; have e9_1 := Bel.keep hSw c2; have e9_2 := Bel.keep hSw c3; have e9_3 := Bel.keep hSw c4; go_simp; (try with_reducible rfl); done)
        | (refine Or.inr ⟨by rfl, ?_⟩; rfl)
    simp only [List.getElem_toArray, List.getElem_cons_succ, List.getElem_cons_zero, Act.put, List.setIfInBounds_toArray, List.set_cons_zero, List.set_cons_succ]
    refine wpAnyH_ready (rs := [4]) (by kernel_rfl) (by simp) ?_
    refine AllReadyH.cons (o := _) rfl (fun K hK => ?_) AllReadyH.nil
    go_simp
    refine (HS.out _ (HB0.out.trans hHeld)).mono ?_
    rintro e2 w2 ⟨rfl, hb2⟩
    dsimp only
    refine hK.out _ _ (hHeld.trans hb2) (fun hHeld => ?_)
    clear hK K hb2
    cases S with
    | false =>
      have HR3 : Hid (false = R) := Lib.hid (by rw [← HR2.out]; simp)
      clear HR2
      refine tk 5 (v := ?_) ?_ ?_
      rotate_left 1
      · first
          | (refine Or.inl ⟨by rfl, ?_⟩; intro w9 hSw; go_simp; (try with_reducible rfl); done)
          | (refine Or.inr ⟨by rfl, ?_⟩; rfl)
      simp only [List.getElem_toArray, List.getElem_cons_succ, List.getElem_cons_zero, Act.put, List.setIfInBounds_toArray, List.set_cons_zero, List.set_cons_succ]
      refine tk 6 (v := ?_) ?_ ?_
      rotate_left 1
      · first
          | (refine Or.inl ⟨by rfl, ?_⟩; intro w9 hSw; go_simp; (try with_reducible rfl); done)
          | (refine Or.inr ⟨by rfl, ?_⟩; rfl)
      simp only [List.getElem_toArray, List.getElem_cons_succ, List.getElem_cons_zero, Act.put, List.setIfInBounds_toArray, List.set_cons_zero, List.set_cons_succ]
      refine tk 7 (v := ?_) ?_ ?_
      rotate_left 1
      · first
          | (refine Or.inl ⟨by rfl, ?_⟩; intro w9 hSw; go_simp; (try with_reducible rfl); done)
          | (refine Or.inr ⟨by rfl, ?_⟩; rfl)
      simp only [List.getElem_toArray, List.getElem_cons_succ, List.getElem_cons_zero, Act.put, List.setIfInBounds_toArray, List.set_cons_zero, List.set_cons_succ]
      refine tk 8 (v := ?_) ?_ ?_
      rotate_left 1
      · first
          | (refine Or.inl ⟨by rfl, ?_⟩; intro w9 hSw; go_simp; (try with_reducible rfl); done)
          | (refine Or.inr ⟨by rfl, ?_⟩; rfl)
      simp only [List.getElem_toArray, List.getElem_cons_succ, List.getElem_cons_zero, Act.put, List.setIfInBounds_toArray, List.set_cons_zero, List.set_cons_succ]
      refine tk 9 (v := ?_) ?_ ?_
      rotate_left 1
      · first
          | (refine Or.inl ⟨by rfl, ?_⟩; intro w9 hSw; go_simp; (try with_reducible rfl); done)
          | (refine Or.inr ⟨by rfl, ?_⟩; rfl)
      simp only [List.getElem_toArray, List.getElem_cons_succ, List.getElem_cons_zero, Act.put, List.setIfInBounds_toArray, List.set_cons_zero, List.set_cons_succ]
      refine tk 10 (v := ?_) ?_ ?_
      rotate_left 1
      · first
          | (refine Or.inl ⟨by rfl, ?_⟩; intro w9 hSw; go_simp; (try with_reducible rfl); done)
          | (refine Or.inr ⟨by rfl, ?_⟩; rfl)
      simp only [List.getElem_toArray, List.getElem_cons_succ, List.getElem_cons_zero, Act.put, List.setIfInBounds_toArray, List.set_cons_zero, List.set_cons_succ]
      refine tk 11 (v := ?_) ?_ ?_
      rotate_left 1
      · first
          | (refine Or.inl ⟨by rfl, ?_⟩; intro w9 hSw; go_simp; (try with_reducible rfl); done)
          | (refine Or.inr ⟨by rfl, ?_⟩; rfl)
      simp only [List.getElem_toArray, List.getElem_cons_succ, List.getElem_cons_zero, Act.put, List.setIfInBounds_toArray, List.set_cons_zero, List.set_cons_succ]
      refine tk 12 (v := ?_) ?_ ?_
      rotate_left 1
      · first
          | (refine Or.inl ⟨by rfl, ?_⟩; intro w9 hSw; go_simp; (try with_reducible rfl); done)
          | (refine Or.inr ⟨by rfl, ?_⟩; rfl)
      simp only [List.getElem_toArray, List.getElem_cons_succ, List.getElem_cons_zero, Act.put, List.setIfInBounds_toArray, List.set_cons_zero, List.set_cons_succ]
      refine tk 13 (v := ?_) ?_ ?_
      rotate_left 1
      · first
          | (refine Or.inl ⟨by rfl, ?_⟩; intro w9 hSw; go_simp; (try with_reducible rfl); done)
          | (refine Or.inr ⟨by rfl, ?_⟩; rfl)
      simp only [List.getElem_toArray, List.getElem_cons_succ, List.getElem_cons_zero, Act.put, List.setIfInBounds_toArray, List.set_cons_zero, List.set_cons_succ]
      refine tk 14 (v := ?_) ?_ ?_
      rotate_left 1
      · first
          | (refine Or.inl ⟨by rfl, ?_⟩; intro w9 hSw; go_simp; (try with_reducible rfl); done)
          | (refine Or.inr ⟨by rfl, ?_⟩; rfl)
      simp only [List.getElem_toArray, List.getElem_cons_succ, List.getElem_cons_zero, Act.put, List.setIfInBounds_toArray, List.set_cons_zero, List.set_cons_succ]
      refine tk 15 (v := ?_) ?_ ?_
      rotate_left 1
      · first
          | (refine Or.inl ⟨by rfl, ?_⟩; intro w9 hSw; go_simp; (try with_reducible rfl); done)
          | (refine Or.inr ⟨by rfl, ?_⟩; rfl)
      simp only [List.getElem_toArray, List.getElem_cons_succ, List.getElem_cons_zero, Act.put, List.setIfInBounds_toArray, List.set_cons_zero, List.set_cons_succ]
      refine tk 16 (v := ?_) ?_ ?_
      rotate_left 1
      · first
          | (refine Or.inl ⟨by rfl, ?_⟩; intro w9 hSw; go_simp; (try with_reducible rfl); done)
          | (refine Or.inr ⟨by rfl, ?_⟩; rfl)
      simp only [List.getElem_toArray, List.getElem_cons_succ, List.getElem_cons_zero, Act.put, List.setIfInBounds_toArray, List.set_cons_zero, List.set_cons_succ]
      refine tk 17 (v := ?_) ?_ ?_
      rotate_left 1
      · first
          | (refine Or.inl ⟨by rfl, ?_⟩; intro w9 hSw; go_simp; (try with_reducible rfl); done)
          | (refine Or.inr ⟨by rfl, ?_⟩; rfl)
      simp only [List.getElem_toArray, List.getElem_cons_succ, List.getElem_cons_zero, Act.put, List.setIfInBounds_toArray, List.set_cons_zero, List.set_cons_succ]
      refine tk 18 (v := ?_) ?_ ?_
      rotate_left 1
      · first
          | (refine Or.inl ⟨by rfl, ?_⟩; intro w9 hSw; go_simp; (try with_reducible rfl); done)
          | (refine Or.inr ⟨by rfl, ?_⟩; rfl)
      simp only [List.getElem_toArray, List.getElem_cons_succ, List.getElem_cons_zero, Act.put, List.setIfInBounds_toArray, List.set_cons_zero, List.set_cons_succ]
      refine wpAnyH_done (by kernel_rfl) ?_ _
      go_wp2_with fail
      go_ret
      exact ⟨ret_bool HR3.out, HB0.out.trans hHeld⟩
    | true =>
    by_cases ho : 0 < om
    · have hoi : (0 : Int) < om := by omega
      have HR3 : Hid (P = R) := Lib.hid (by have := HR2.out; rw [decide_eq_true ho] at this; simpa using this)
      clear HR2
      refine tk 5 (v := ?_) ?_ ?_
      rotate_left 1
      · first
          | (refine Or.inl ⟨by rfl, ?_⟩; intro w9 hSw; have e9_0 := Bel.keep hSw c7; go_simp; (try with_reducible rfl); done)
          | (refine Or.inr ⟨by rfl, ?_⟩; rfl)
      simp only [List.getElem_toArray, List.getElem_cons_succ, List.getElem_cons_zero, Act.put, List.setIfInBounds_toArray, List.set_cons_zero, List.set_cons_succ]
      refine tk 6 (v := ?_) ?_ ?_
      rotate_left 1
      · first
          | (refine Or.inl ⟨by rfl, ?_⟩; intro w9 hSw; have e9_0 := Bel.keep hSw c7; go_simp; (try with_reducible rfl); done)
          | (refine Or.inr ⟨by rfl, ?_⟩; rfl)
      simp only [List.getElem_toArray, List.getElem_cons_succ, List.getElem_cons_zero, Act.put, List.setIfInBounds_toArray, List.set_cons_zero, List.set_cons_succ]
      refine tk 7 (v := ?_) ?_ ?_
      rotate_left 1
      · first
          | (refine Or.inl ⟨by rfl, ?_⟩; intro w9 hSw; have e9_0 := Bel.keep hSw c7; go_simp; (try with_reducible rfl); done)
          | (refine Or.inr ⟨by rfl, ?_⟩; rfl)
      simp only [List.getElem_toArray, List.getElem_cons_succ, List.getElem_cons_zero, Act.put, List.setIfInBounds_toArray, List.set_cons_zero, List.set_cons_succ]
      refine tk 8 (v := ?_) ?_ ?_
      rotate_left 1
      · first
          | (refine Or.inl ⟨by rfl, ?_⟩; intro w9 hSw; have e9_0 := Bel.keep hSw c7; go_simp; (try with_reducible rfl); done)
          | (refine Or.inr ⟨by rfl, ?_⟩; rfl)
      simp only [List.getElem_toArray, List.getElem_cons_succ, List.getElem_cons_zero, Act.put, List.setIfInBounds_toArray, List.set_cons_zero, List.set_cons_succ]
      refine tk 9 (v := ?_) ?_ ?_
      rotate_left 1
      · first
          | (refine Or.inl ⟨by rfl, ?_⟩; intro w9 hSw; have e9_0 := Bel.keep hSw c7; go_simp; (try with_reducible rfl); done)
          | (refine Or.inr ⟨by rfl, ?_⟩; rfl)
      simp only [List.getElem_toArray, List.getElem_cons_succ, List.getElem_cons_zero, Act.put, List.setIfInBounds_toArray, List.set_cons_zero, List.set_cons_succ]
      refine tk 10 (v := ?_) ?_ ?_
      rotate_left 1
      · first
          | (refine Or.inl ⟨by rfl, ?_⟩; intro w9 hSw; have e9_0 := Bel.keep hSw c7; go_simp; (try with_reducible rfl); done)
          | (refine Or.inr ⟨by rfl, ?_⟩; rfl)
      simp only [List.getElem_toArray, List.getElem_cons_succ, List.getElem_cons_zero, Act.put, List.setIfInBounds_toArray, List.set_cons_zero, List.set_cons_succ]
      refine tk 11 (v := ?_) ?_ ?_
      rotate_left 1
      · first
          | (refine Or.inl ⟨by rfl, ?_⟩; intro w9 hSw; have e9_0 := Bel.keep hSw c7; go_simp; (try with_reducible rfl); done)
          | (refine Or.inr ⟨by rfl, ?_⟩; rfl)
      simp only [List.getElem_toArray, List.getElem_cons_succ, List.getElem_cons_zero, Act.put, List.setIfInBounds_toArray, List.set_cons_zero, List.set_cons_succ]
      refine tk 12 (v := ?_) ?_ ?_
      rotate_left 1
      · first
          | (refine Or.inl ⟨by rfl, ?_⟩; intro w9 hSw; have e9_0 := Bel.keep hSw c7; go_simp; (try with_reducible rfl); done)
          | (refine Or.inr ⟨by rfl, ?_⟩; rfl)
      simp only [List.getElem_toArray, List.getElem_cons_succ, List.getElem_cons_zero, Act.put, List.setIfInBounds_toArray, List.set_cons_zero, List.set_cons_succ]
      refine tk 14 (v := ?_) ?_ ?_
      rotate_left 1
      · first
          | (refine Or.inl ⟨by rfl, ?_⟩; intro w9 hSw; have e9_0 := Bel.keep hSw c5; go_simp; (try with_reducible rfl); done)
          | (refine Or.inr ⟨by rfl, ?_⟩; rfl)
      simp only [List.getElem_toArray, List.getElem_cons_succ, List.getElem_cons_zero, Act.put, List.setIfInBounds_toArray, List.set_cons_zero, List.set_cons_succ]
      refine tk 15 (v := ?_) ?_ ?_
      rotate_left 1
      · first
          | (refine Or.inl ⟨by rfl, ?_⟩; intro w9 hSw; have e9_0 := Bel.keep hSw c5; go_simp; (try with_reducible rfl); done)
          | (refine Or.inr ⟨by rfl, ?_⟩; rfl)
      simp only [List.getElem_toArray, List.getElem_cons_succ, List.getElem_cons_zero, Act.put, List.setIfInBounds_toArray, List.set_cons_zero, List.set_cons_succ]
      refine wpAnyH_ready (rs := [13]) (by kernel_rfl) (by simp) ?_
      refine AllReadyH.cons (o := _) rfl (fun K hK => ?_) AllReadyH.nil
      go_simp
      refine (rpolicies_c _).mono ?_
      rintro e3 w3 ⟨pa, pn, pc, rfl, hpn, hpr, hb3⟩
      dsimp only
      refine hK.out _ _ (hHeld.trans hb3) (fun hHeld => ?_)
      clear hK K hb3
      refine wpAnyH_ready (rs := [16]) (by kernel_rfl) (by simp) ?_
      refine AllReadyH.cons (o := _) rfl (fun K hK => ?_) AllReadyH.nil
      go_simp
      refine (HPC.out _ _ (hpr.bel (by (repeat (first | exact Bel.refl _ | assumption | refine Bel.to_drewN ?_ _ | refine Bel.to_drew ?_ | refine Bel.to_setCell ?_ (by first | exact Nat.le_refl _ | (simp; done) | (simp; omega) | omega) _ | refine Bel.to_alloc ?_ _ | refine Bel.trans ?_ (by assumption)))))).mono ?_
      rintro e4 w4 ⟨rfl, hb4⟩
      dsimp only
      refine hK.out _ _ (hHeld.trans hb4) (fun hHeld => ?_)
      clear hK K hb4
      refine tk 17 (v := ?_) ?_ ?_
      rotate_left 1
      · first
          | (refine Or.inl ⟨by rfl, ?_⟩; intro w9 hSw; go_simp; (try with_reducible rfl); done)
          | (refine Or.inr ⟨by rfl, ?_⟩; rfl)
      simp only [List.getElem_toArray, List.getElem_cons_succ, List.getElem_cons_zero, Act.put, List.setIfInBounds_toArray, List.set_cons_zero, List.set_cons_succ]
      refine tk 18 (v := ?_) ?_ ?_
      rotate_left 1
      · first
          | (refine Or.inl ⟨by rfl, ?_⟩; intro w9 hSw; go_simp; (try with_reducible rfl); done)
          | (refine Or.inr ⟨by rfl, ?_⟩; rfl)
      simp only [List.getElem_toArray, List.getElem_cons_succ, List.getElem_cons_zero, Act.put, List.setIfInBounds_toArray, List.set_cons_zero, List.set_cons_succ]
      refine wpAnyH_done (by kernel_rfl) ?_ _
      go_wp2_with fail
      go_ret
      exact ⟨ret_bool HR3.out, HB0.out.trans hHeld⟩
    · obtain rfl : om = 0 := by omega
      have HR3 : Hid (false = R) := Lib.hid (by have := HR2.out; simpa using this)
      clear HR2 ho
      refine tk 5 (v := ?_) ?_ ?_
      rotate_left 1
      · first
          | (refine Or.inl ⟨by rfl, ?_⟩; intro w9 hSw; have e9_0 := Bel.keep hSw c7; go_simp; (try with_reducible rfl); done)
          | (refine Or.inr ⟨by rfl, ?_⟩; rfl)
      simp only [List.getElem_toArray, List.getElem_cons_succ, List.getElem_cons_zero, Act.put, List.setIfInBounds_toArray, List.set_cons_zero, List.set_cons_succ]
      refine tk 6 (v := ?_) ?_ ?_
      rotate_left 1
      · first
          | (refine Or.inl ⟨by rfl, ?_⟩; intro w9 hSw; have e9_0 := Bel.keep hSw c7; go_simp; (try with_reducible rfl); done)
          | (refine Or.inr ⟨by rfl, ?_⟩; rfl)
      simp only [List.getElem_toArray, List.getElem_cons_succ, List.getElem_cons_zero, Act.put, List.setIfInBounds_toArray, List.set_cons_zero, List.set_cons_succ]
      refine tk 7 (v := ?_) ?_ ?_
      rotate_left 1
      · first
          | (refine Or.inl ⟨by rfl, ?_⟩; intro w9 hSw; have e9_0 := Bel.keep hSw c7; go_simp; (try with_reducible rfl); done)
          | (refine Or.inr ⟨by rfl, ?_⟩; rfl)
      simp only [List.getElem_toArray, List.getElem_cons_succ, List.getElem_cons_zero, Act.put, List.setIfInBounds_toArray, List.set_cons_zero, List.set_cons_succ]
      refine tk 8 (v := ?_) ?_ ?_
      rotate_left 1
      · first
          | (refine Or.inl ⟨by rfl, ?_⟩; intro w9 hSw; have e9_0 := Bel.keep hSw c7; go_simp; (try with_reducible rfl); done)
          | (refine Or.inr ⟨by rfl, ?_⟩; rfl)
      simp only [List.getElem_toArray, List.getElem_cons_succ, List.getElem_cons_zero, Act.put, List.setIfInBounds_toArray, List.set_cons_zero, List.set_cons_succ]
      refine tk 9 (v := ?_) ?_ ?_
      rotate_left 1
      · first
          | (refine Or.inl ⟨by rfl, ?_⟩; intro w9 hSw; have e9_0 := Bel.keep hSw c7; go_simp; (try with_reducible rfl); done)
          | (refine Or.inr ⟨by rfl, ?_⟩; rfl)
      simp only [List.getElem_toArray, List.getElem_cons_succ, List.getElem_cons_zero, Act.put, List.setIfInBounds_toArray, List.set_cons_zero, List.set_cons_succ]
      refine tk 10 (v := ?_) ?_ ?_
      rotate_left 1
      · first
          | (refine Or.inl ⟨by rfl, ?_⟩; intro w9 hSw; have e9_0 := Bel.keep hSw c7; go_simp; (try with_reducible rfl); done)
          | (refine Or.inr ⟨by rfl, ?_⟩; rfl)
      simp only [List.getElem_toArray, List.getElem_cons_succ, List.getElem_cons_zero, Act.put, List.setIfInBounds_toArray, List.set_cons_zero, List.set_cons_succ]
      refine tk 11 (v := ?_) ?_ ?_
      rotate_left 1
      · first
          | (refine Or.inl ⟨by rfl, ?_⟩; intro w9 hSw; have e9_0 := Bel.keep hSw c7; go_simp; (try with_reducible rfl); done)
          | (refine Or.inr ⟨by rfl, ?_⟩; rfl)
      simp only [List.getElem_toArray, List.getElem_cons_succ, List.getElem_cons_zero, Act.put, List.setIfInBounds_toArray, List.set_cons_zero, List.set_cons_succ]
      refine tk 12 (v := ?_) ?_ ?_
      rotate_left 1
      · first
          | (refine Or.inl ⟨by rfl, ?_⟩; intro w9 hSw; have e9_0 := Bel.keep hSw c7; go_simp; (try with_reducible rfl); done)
          | (refine Or.inr ⟨by rfl, ?_⟩; rfl)
      simp only [List.getElem_toArray, List.getElem_cons_succ, List.getElem_cons_zero, Act.put, List.setIfInBounds_toArray, List.set_cons_zero, List.set_cons_succ]
      refine tk 13 (v := ?_) ?_ ?_
      rotate_left 1
      · first
          | (refine Or.inl ⟨by rfl, ?_⟩; intro w9 hSw; have e9_0 := Bel.keep hSw c7; go_simp; (try with_reducible rfl); done)
          | (refine Or.inr ⟨by rfl, ?_⟩; rfl)
      simp only [List.getElem_toArray, List.getElem_cons_succ, List.getElem_cons_zero, Act.put, List.setIfInBounds_toArray, List.set_cons_zero, List.set_cons_succ]
      refine tk 14 (v := ?_) ?_ ?_
      rotate_left 1
      · first
          | (refine Or.inl ⟨by rfl, ?_⟩; intro w9 hSw; have e9_0 := Bel.keep hSw c7; go_simp; (try with_reducible rfl); done)
          | (refine Or.inr ⟨by rfl, ?_⟩; rfl)
      simp only [List.getElem_toArray, List.getElem_cons_succ, List.getElem_cons_zero, Act.put, List.setIfInBounds_toArray, List.set_cons_zero, List.set_cons_succ]
      refine tk 15 (v := ?_) ?_ ?_
      rotate_left 1
      · first
          | (refine Or.inl ⟨by rfl, ?_⟩; intro w9 hSw; have e9_0 := Bel.keep hSw c7; go_simp; (try with_reducible rfl); done)
          | (refine Or.inr ⟨by rfl, ?_⟩; rfl)
      simp only [List.getElem_toArray, List.getElem_cons_succ, List.getElem_cons_zero, Act.put, List.setIfInBounds_toArray, List.set_cons_zero, List.set_cons_succ]
      refine tk 16 (v := ?_) ?_ ?_
      rotate_left 1
      · first
          | (refine Or.inl ⟨by rfl, ?_⟩; intro w9 hSw; have e9_0 := Bel.keep hSw c7; go_simp; (try with_reducible rfl); done)
          | (refine Or.inr ⟨by rfl, ?_⟩; rfl)
      simp only [List.getElem_toArray, List.getElem_cons_succ, List.getElem_cons_zero, Act.put, List.setIfInBounds_toArray, List.set_cons_zero, List.set_cons_succ]
      refine tk 17 (v := ?_) ?_ ?_
      rotate_left 1
      · first
          | (refine Or.inl ⟨by rfl, ?_⟩; intro w9 hSw; have e9_0 := Bel.keep hSw c7; go_simp; (try with_reducible rfl); done)
          | (refine Or.inr ⟨by rfl, ?_⟩; rfl)
      simp only [List.getElem_toArray, List.getElem_cons_succ, List.getElem_cons_zero, Act.put, List.setIfInBounds_toArray, List.set_cons_zero, List.set_cons_succ]
      refine tk 18 (v := ?_) ?_ ?_
      rotate_left 1
      · first
          | (refine Or.inl ⟨by rfl, ?_⟩; intro w9 hSw; have e9_0 := Bel.keep hSw c7; go_simp; (try with_reducible rfl); done)
          | (refine Or.inr ⟨by rfl, ?_⟩; rfl)
      simp only [List.getElem_toArray, List.getElem_cons_succ, List.getElem_cons_zero, Act.put, List.setIfInBounds_toArray, List.set_cons_zero, List.set_cons_succ]
      refine wpAnyH_done (by kernel_rfl) ?_ _
      go_wp2_with fail
      go_ret
      exact ⟨ret_bool HR3.out, HB0.out.trans hHeld⟩
  have n1 : (k == 1) = false := by simpa using h1
  by_cases h2 : k = 2
  · subst h2
    have hR : (S && (B && (decide (0 < lm) && decide (nm = lm)))) = R := HR.out
    have HR2 := Lib.hid hR
    clear hR HR n0 h0 n1 h1
    cases B with
    | false =>
      have HR3 : Hid (false = R) := Lib.hid (by rw [← HR2.out]; simp)
      clear HR2
      go_wp2_with fail
      go_ret
      exact ⟨ret_bool HR3.out, HB0.out⟩
    | true =>
    go_wp2_with fail
    refine (HS.out _ HB0.out).mono ?_
    rintro e2 w2 ⟨rfl, hb2⟩
    have d9 := hb2.keep c9
    have d10 := hb2.keep c10
    have HB2 := Lib.hid (HB0.out.trans hb2)
    clear hb2 c0 c1 c2 c3 c4 c5 c6 c7 c8 c9 c10
    cases S with
    | false =>
      have HR3 : Hid (false = R) := Lib.hid (by rw [← HR2.out]; simp)
      clear HR2
      go_wp2_with fail
      go_ret
      exact ⟨ret_bool HR3.out, HB2.out⟩
    | true =>
    by_cases hl0 : 0 < lm
    · have hli : (0 : Int) < lm := by omega
      by_cases he : nm = lm
      · have HR3 : Hid (true = R) := Lib.hid (by have := HR2.out; simpa [hl0, he] using this)
        subst he
        clear HR2 hl0
        go_wp2_with fail
        go_ret
        exact ⟨ret_bool HR3.out, HB2.out⟩
      · have HR3 : Hid (false = R) := Lib.hid (by have := HR2.out; simpa [hl0, he] using this)
        have hne : ((nm : Int) == lm) = false := by simp; omega
        clear HR2 hl0 he
        go_wp2_with fail
        go_ret
        exact ⟨ret_bool HR3.out, HB2.out⟩
    · obtain rfl : lm = 0 := by omega
      have HR3 : Hid (false = R) := Lib.hid (by have := HR2.out; simpa using this)
      clear HR2 hl0
      go_wp2_with fail
      go_ret
      exact ⟨ret_bool HR3.out, HB2.out⟩
  · have n2 : (k == 2) = false := by simpa using h2
    have hR : (B && (decide (ek = 3) && decide (nm = lm))) = R := by have := HR.out; rwa [if_neg h0, if_neg h1, if_neg h2] at this
    have HR2 := Lib.hid hR
    clear hR HR h0 h1 h2
    cases B with
    | false =>
      have HR3 : Hid (false = R) := Lib.hid (by rw [← HR2.out]; simp)
      clear HR2
      go_wp2_with fail
      go_ret
      exact ⟨ret_bool HR3.out, HB0.out⟩
    | true =>
    by_cases h3 : ek = 3
    · subst h3
      by_cases he : nm = lm
      · have HR3 : Hid (true = R) := Lib.hid (by have := HR2.out; simpa [he] using this)
        subst he
        clear HR2
        go_wp2_with fail
        go_ret
        exact ⟨ret_bool HR3.out, HB0.out⟩
      · have HR3 : Hid (false = R) := Lib.hid (by have := HR2.out; simpa [he] using this)
        have hne : ((nm : Int) == lm) = false := by simp; omega
        clear HR2 he
        go_wp2_with fail
        go_ret
        exact ⟨ret_bool HR3.out, HB0.out⟩
    · have HR3 : Hid (false = R) := Lib.hid (by have := HR2.out; simpa [h3] using this)
      have n3 : (ek == 3) = false := by simpa using h3
      clear HR2 h3
      go_wp2_with fail
      go_ret
      exact ⟨ret_bool HR3.out, HB0.out⟩

/-- The names that are to be names. -/
def rgivenS (ns : List ByteArray) (op : Bool) : List ByteArray := if op = true ∧ ns[ns.length - 1]? = some ⟨#[]⟩ then ns.take (ns.length - 1) else ns
theorem rgiven_skip {ns : List ByteArray} {op : Bool} {j n : Nat} (hn : ns.length = n) (h1 : op = true) (h2 : j + 1 = n) (h3 : ns[j]? = some ⟨#[]⟩) : (rgivenS ns op).take (j + 1) = (rgivenS ns op).take j := by
  unfold rgivenS
  rw [if_pos ⟨h1, by rw [hn, show n - 1 = j from by omega]; exact h3⟩, hn, show n - 1 = j from by omega, List.take_take, List.take_take]
  congr 1
  omega
theorem rgiven_get {ns : List ByteArray} {op : Bool} {j n : Nat} {x : ByteArray} (hn : ns.length = n) (hx : ns[j]? = some x) (h : ¬ (op = true ∧ j + 1 = n ∧ x = ⟨#[]⟩)) : (rgivenS ns op)[j]? = some x := by
  unfold rgivenS
  split
  · next h1 =>
    have hj := (List.getElem?_eq_some_iff.1 hx).1
    have : j ≠ n - 1 := fun e => h ⟨h1.1, by omega, by have h2 := h1.2; rw [hn, ← e, hx] at h2; exact Option.some.inj h2⟩
    rw [List.getElem?_take, if_pos (by omega), hx]
  · exact hx
theorem rgiven_len (ns : List ByteArray) (op : Bool) : (rgivenS ns op).length ≤ ns.length := by
  unfold rgivenS; split
  · rw [List.length_take]; omega
  · exact Nat.le_refl _
theorem nodup_snoc {l : List ByteArray} {j : Nat} {x : ByteArray} (hx : l[j]? = some x) : (l.take (j + 1)).Nodup ↔ (l.take j).Nodup ∧ x ∉ l.take j := by
  obtain ⟨hj, rfl⟩ := List.getElem?_eq_some_iff.1 hx
  rw [List.take_succ_eq_append_getElem hj, List.nodup_append]
  constructor
  · rintro ⟨h1, _, h2⟩
    exact ⟨h1, fun h => h2 _ h _ (by simp) rfl⟩
  · rintro ⟨h1, h2⟩
    exact ⟨h1, by simp, fun a ha b hb => by rw [List.mem_singleton.1 hb]; rintro rfl; exact h2 ha⟩
theorem rnamedS_right {ns : List ByteArray} {op : Bool} {x : ByteArray} {j : Nat} (h : (rgivenS ns op)[j]? = some x) (hr : rightS x = false) : rnamedS ns op = 6 := by
  unfold rnamedS
  rw [if_pos]
  exact List.any_eq_true.2 ⟨x, List.mem_of_getElem? h, by rw [hr]; rfl⟩
theorem rnamedS_twice {ns : List ByteArray} {op : Bool} (h : ∀ x ∈ rgivenS ns op, rightS x = true) : rnamedS ns op = if ns.Nodup then 0 else 8 := by
  unfold rnamedS
  rw [if_neg]
  · by_cases hd : ns.Nodup
    · rw [if_neg (by simpa using hd), if_pos hd]
    · rw [if_pos hd, if_neg hd]
  · intro h2
    obtain ⟨x, hx, h3⟩ := List.any_eq_true.1 h2
    rw [h x hx] at h3
    cases h3
theorem ndup_take {l : List ByteArray} (h : l.Nodup) (j : Nat) : (l.take j).Nodup := h.sublist (List.take_sublist j l)
set_option maxRecDepth 100000 in
set_option maxHeartbeats 8000000 in
theorem rnames_c (l : List ByteArray) (a : Option Addr) (n c : Nat) (op : Bool) (w : World) (hn : l.length = n) (hc : n ≤ c) (hn2 : n ≤ 1073741824) (hs : ∀ x ∈ l, x.size ≤ 1073741824) (hat : NamesAt w a l) :
    Calls Tryz.prog 82 #[.slice a n c, .bool op] w (RetBel (.int .i64 (rnamedS l op)) w) := by
  have HN := Lib.hid hn
  have HS := Lib.hid hs
  have HA := Lib.hid hat
  have HC := Lib.hid hc
  obtain ⟨R, hR⟩ : ∃ R, rnamedS l op = R := ⟨_, rfl⟩
  rw [hR]
  have HR := Lib.hid hR
  clear hn hs hat hR
  go_enter Tryz.func82, Tryz.ntmps82
  go_wp2_with fail
  go_loopw [5] (fun i wr => ∃ j : Nat, j ≤ n ∧ i = .int .i64 j ∧ Bel w wr ∧ ∀ x ∈ (rgivenS l op).take j, rightS x = true) (fun i _ => n - (intOf i).toNat)
  case atStart => exact ⟨0, Nat.zero_le _, rfl, Bel.refl _, by simp⟩
  case round =>
    obtain ⟨j, hj, rfl, hbel, hall⟩ := hrel
    have HB := Lib.hid hbel
    have HALL := Lib.hid hall
    by_cases hlt : j < n
    · have hlti : (j : Int) < n := by omega
      obtain ⟨x, hx⟩ : ∃ x, l[j]? = some x := ⟨_, List.getElem?_eq_getElem (by have := HN.out; omega)⟩
      obtain ⟨b, off, rfl, g0⟩ := HA.out j x hx
      have f0 := hbel.keep g0
      have hr := fun W => rright_c x (by have := HS.out x (List.mem_of_getElem? hx); omega) W
      rw [show (wordsS x).isSome = rightS x from rfl] at hr
      have HX := Lib.hid hx
      obtain ⟨r, hrr⟩ : ∃ r, rightS x = r := ⟨_, rfl⟩
      rw [hrr] at hr
      have HRX := Lib.hid hrr
      have HRT := Lib.hid hr
      clear hall hbel g0 hx hr hrr
      have step : (rgivenS l op)[j]? = some x → r = true → ∀ y ∈ (rgivenS l op).take (j + 1), rightS y = true := fun h1 h2 y hy => by
        obtain ⟨hl, he⟩ := List.getElem?_eq_some_iff.1 h1
        rw [List.take_succ_eq_append_getElem hl] at hy
        rcases List.mem_append.1 hy with h | h
        · exact HALL.out y h
        · rw [List.mem_singleton.1 h, he, HRX.out, h2]
      have HST := Lib.hid step
      clear step
      cases op with
      | false =>
        have HG := Lib.hid (rgiven_get (op := false) HN.out HX.out (by simp))
        go_wp2_with fail
        refine (HRT.out _).mono ?_
        rintro e2 w2 ⟨rfl, hb2⟩
        have HB2 := Lib.hid (HB.out.trans hb2)
        clear hb2
        cases r with
        | true =>
          go_wp2_with fail
          exact ⟨⟨j + 1, by omega, by go_num, HB2.out, HST.out HG.out trivial⟩, by simp [intOf]; omega⟩
        | false =>
          have h6 : 6 = R := by rw [← HR.out, rnamedS_right HG.out HRX.out]
          subst h6
          go_wp2_with fail
          go_ret
          exact ⟨rfl, HB2.out⟩
      | true =>
        by_cases hlast : j + 1 = n
        · have hl1 : ((j : Int) + 1 == n) = true := by simp; omega
          have hw1 : IntKind.i64.wrap ((j : Int) + 1) = (j : Int) + 1 := IntWalk.i64_in _ (by omega)
          by_cases hz : x.size = 0
          · obtain rfl := size_none hz
            have HSK := Lib.hid (rgiven_skip HN.out rfl hlast HX.out)
            have HL := Lib.hid hlast
            clear hlast hz HRT HST
            go_wp2_with fail
            exact ⟨⟨j + 1, by have := HL.out; omega, by go_num, HB.out, by rw [HSK.out]; exact HALL.out⟩, by simp [intOf]; omega⟩
          · have hz1 := size_list hz
            have HG := Lib.hid (rgiven_get (op := true) HN.out HX.out (by rintro ⟨_, _, rfl⟩; exact hz rfl))
            have HL := Lib.hid hlast
            clear hlast hz
            go_wp2_with fail
            refine (HRT.out _).mono ?_
            rintro e2 w2 ⟨rfl, hb2⟩
            have HB2 := Lib.hid (HB.out.trans hb2)
            clear hb2
            cases r with
            | true =>
              go_wp2_with fail
              exact ⟨⟨j + 1, by have := HL.out; omega, by go_num, HB2.out, HST.out HG.out trivial⟩, by simp [intOf]; omega⟩
            | false =>
              have h6 : 6 = R := by rw [← HR.out, rnamedS_right HG.out HRX.out]
              subst h6
              go_wp2_with fail
              go_ret
              exact ⟨rfl, HB2.out⟩
        · have hl1 : ((j : Int) + 1 == n) = false := by simp; omega
          have hw1 : IntKind.i64.wrap ((j : Int) + 1) = (j : Int) + 1 := IntWalk.i64_in _ (by omega)
          have HG := Lib.hid (rgiven_get (op := true) HN.out HX.out (by rintro ⟨_, h, _⟩; exact hlast h))
          have HL := Lib.hid hlast
          clear hlast
          go_wp2_with fail
          refine (HRT.out _).mono ?_
          rintro e2 w2 ⟨rfl, hb2⟩
          have HB2 := Lib.hid (HB.out.trans hb2)
          clear hb2
          cases r with
          | true =>
            go_wp2_with fail
            exact ⟨⟨j + 1, by omega, by go_num, HB2.out, HST.out HG.out trivial⟩, by simp [intOf]; omega⟩
          | false =>
            have h6 : 6 = R := by rw [← HR.out, rnamedS_right HG.out HRX.out]
            subst h6
            go_wp2_with fail
            go_ret
            exact ⟨rfl, HB2.out⟩
    · obtain rfl : j = n := by omega
      have hfull : ∀ x ∈ rgivenS l op, rightS x = true := by
        intro x hx
        refine hall x ?_
        rwa [List.take_of_length_le (by have := rgiven_len l op; have := HN.out; omega)]
      have hR2 := HR.out
      rw [rnamedS_twice hfull] at hR2
      have HR2 := Lib.hid hR2
      obtain ⟨wo, rfl⟩ : ∃ W, W = wr := ⟨_, rfl⟩
      clear hlt hfull hR2 hall hbel HALL HR
      go_wp2_with fail
      go_loopw [6] (fun i wr => ∃ k : Nat, k ≤ j ∧ i = .int .i64 k ∧ Bel wo wr ∧ (l.take k).Nodup) (fun i _ => j - (intOf i).toNat)
      case atStart => exact ⟨0, Nat.zero_le _, rfl, Bel.refl _, by simp⟩
      case round =>
        obtain ⟨k, hk, rfl, hbel, hnd⟩ := hrel
        have HND := Lib.hid hnd
        have HBW := Lib.hid (HB.out.trans hbel)
        have HBL := Lib.hid hbel
        by_cases hkn : k < j
        · have hki : (k : Int) < j := by omega
          obtain ⟨x, hx⟩ : ∃ x, l[k]? = some x := ⟨_, List.getElem?_eq_getElem (by have := HN.out; omega)⟩
          obtain ⟨b, off, rfl, g0⟩ := HA.out k x hx
          have f0 := HBW.out.keep g0
          have g1 : (0 : Int) ≤ k := by omega
          have g2 : (k : Int) ≤ c := by have := HC.out; omega
          have HH := Lib.hid (fun W (hW : Bel w W) => rhas_c (.slice (some ⟨b, off, none⟩) k c) (l.take k) x W (row_take (HA.out.bel hW) HN.out hkn HC.out) (by rw [List.length_take]; omega))
          obtain ⟨h, hh⟩ : ∃ h, decide (x ∈ l.take k) = h := ⟨_, rfl⟩
          rw [hh] at HH
          have HHH := Lib.hid hh
          have HX := Lib.hid hx
          clear hnd hbel g0 hx hh
          go_wp2_with fail
          refine wp_region_held_drew (S := fun w' => Bel wr w') (by kernel_rfl) (by (repeat (first | exact Bel.refl _ | assumption | refine Bel.to_drewN ?_ _ | refine Bel.to_drew ?_ | refine Bel.to_setCell ?_ (by first | exact Nat.le_refl _ | (simp; done) | (simp; omega) | omega) _ | refine Bel.to_alloc ?_ _ | refine Bel.trans ?_ (by assumption)))) (fun hHeld => ?_)
          refine tk 0 (v := ?_) ?_ ?_
          rotate_left 1
          · first
              | (refine Or.inl ⟨by rfl, ?_⟩; intro w9 hSw; have e9_0 := Bel.keep hSw f0; go_simp; (try with_reducible rfl); done)
              | (refine Or.inr ⟨by rfl, ?_⟩; rfl)
          simp only [List.getElem_toArray, List.getElem_cons_zero, Act.put, List.setIfInBounds_toArray, List.set_cons_zero, List.set_cons_succ]
          refine tk 1 (v := ?_) ?_ ?_
          rotate_left 1
          · first
              | (refine Or.inl ⟨by rfl, ?_⟩; intro w9 hSw; have e9_0 := Bel.keep hSw f0; go_simp; (try with_reducible rfl); done)
              | (refine Or.inr ⟨by rfl, ?_⟩; rfl)
          simp only [List.getElem_toArray, List.getElem_cons_succ, List.getElem_cons_zero, Act.put, List.setIfInBounds_toArray, List.set_cons_zero, List.set_cons_succ]
          refine tk 2 (v := ?_) ?_ ?_
          rotate_left 1
          · first
              | (refine Or.inl ⟨by rfl, ?_⟩; intro w9 hSw; have e9_0 := Bel.keep hSw f0; go_simp; (try with_reducible rfl); done)
              | (refine Or.inr ⟨by rfl, ?_⟩; rfl)
          simp only [List.getElem_toArray, List.getElem_cons_succ, List.getElem_cons_zero, Act.put, List.setIfInBounds_toArray, List.set_cons_zero, List.set_cons_succ]
          refine tk 3 (v := ?_) ?_ ?_
          rotate_left 1
          · first
              | (refine Or.inl ⟨by rfl, ?_⟩; intro w9 hSw; have e9_0 := Bel.keep hSw f0; go_simp; (try with_reducible rfl); done)
              | (refine Or.inr ⟨by rfl, ?_⟩; rfl)
          simp only [List.getElem_toArray, List.getElem_cons_succ, List.getElem_cons_zero, Act.put, List.setIfInBounds_toArray, List.set_cons_zero, List.set_cons_succ]
          refine tk 4 (v := ?_) ?_ ?_
          rotate_left 1
          · first
              | (refine Or.inl ⟨by rfl, ?_⟩; intro w9 hSw; have e9_0 := Bel.keep hSw f0; go_simp; (try with_reducible rfl); done)
              | (refine Or.inr ⟨by rfl, ?_⟩; rfl)
          simp only [List.getElem_toArray, List.getElem_cons_succ, List.getElem_cons_zero, Act.put, List.setIfInBounds_toArray, List.set_cons_zero, List.set_cons_succ]
          refine tk 5 (v := ?_) ?_ ?_
          rotate_left 1
          · first
              | (refine Or.inl ⟨by rfl, ?_⟩; intro w9 hSw; have e9_0 := Bel.keep hSw f0; go_simp; (try with_reducible rfl); done)
              | (refine Or.inr ⟨by rfl, ?_⟩; rfl)
          simp only [List.getElem_toArray, List.getElem_cons_succ, List.getElem_cons_zero, Act.put, List.setIfInBounds_toArray, List.set_cons_zero, List.set_cons_succ]
          refine tk 6 (v := ?_) ?_ ?_
          rotate_left 1
          · first
              | (refine Or.inl ⟨by rfl, ?_⟩; intro w9 hSw; have e9_0 := Bel.keep hSw f0; go_simp; (try with_reducible rfl); done)
              | (refine Or.inr ⟨by rfl, ?_⟩; rfl)
          simp only [List.getElem_toArray, List.getElem_cons_succ, List.getElem_cons_zero, Act.put, List.setIfInBounds_toArray, List.set_cons_zero, List.set_cons_succ]
          refine wpAnyH_ready (rs := [7]) (by kernel_rfl) (by simp) ?_
          refine AllReadyH.cons (o := _) rfl (fun K hK => ?_) AllReadyH.nil
          go_simp
          go_at_call 9
          refine (HH.out _ (HBW.out.trans hHeld)).mono ?_
          rintro e5 w5 ⟨rfl, hb5⟩
          dsimp only
          have hb6 := hHeld.trans hb5
          refine hK.out _ _ hb6 (fun hHeld => ?_)
          clear hK K
          refine wpAnyH_done (by kernel_rfl) ?_ _
          have HB6 := Lib.hid hb6
          clear hHeld hb5 hb6
          cases h with
          | true =>
            have h8 : 8 = R := by
              rw [← HR2.out, if_neg]
              intro hd
              exact ((nodup_snoc HX.out).1 (ndup_take hd (k + 1))).2 (of_decide_eq_true HHH.out)
            subst h8
            go_wp2_with fail
            go_ret
            exact ⟨rfl, HBW.out.trans HB6.out⟩
          | false =>
            go_wp2_with fail
            exact ⟨⟨k + 1, by omega, by go_num, HBL.out.trans HB6.out, (nodup_snoc HX.out).2 ⟨HND.out, of_decide_eq_false HHH.out⟩⟩, by simp [intOf]; omega⟩
        · obtain rfl : k = j := by omega
          have h0 : 0 = R := by
            rw [← HR2.out, if_pos]
            have := HND.out
            rwa [List.take_of_length_le (by have := HN.out; omega)] at this
          subst h0
          go_wp2_with fail
          go_ret
          exact ⟨rfl, HBW.out⟩
end Go.Proofs.YtchbhcjhoocjaaaGreatDoor
