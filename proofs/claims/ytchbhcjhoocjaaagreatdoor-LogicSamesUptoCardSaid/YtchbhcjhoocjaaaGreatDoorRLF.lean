/-
  logic: the walk of the document's Same.
-/
import Derived.Test.YtchbhcjhoocjaaaGreatDoorRLR
namespace Go.Proofs.YtchbhcjhoocjaaaGreatDoor
open Go.RowKit

theorem sameL_split (a b : Lg) : sameL a b = ((a.k == b.k) && ((a.p.toList == b.p.toList) && (sameE a.e b.e && (samesE a.ins b.ins && (decide (a.outs = b.outs) && (decide (a.ns = b.ns) && (samesR a.rs b.rs && all2 sameL a.l b.l))))))) := by
  obtain ⟨k, e, p, ins, outs, rs, ns, l⟩ := a
  obtain ⟨k', e', p', ins', outs', rs', ns', l'⟩ := b
  rw [beq_texts, ← samesL_all]
  unfold sameL
  rfl

set_option maxRecDepth 100000 in
set_option maxHeartbeats 16000000 in
theorem rsame_l : ∀ (n : Nat) (a : Lg), a.bulk ≤ n → n ≤ 1073741820 → ∀ (b : Lg) (qa qb : LgQ) (w : World), b.bulk ≤ 1073741820 → LgAt w a qa → LgAt w b qb →
    Calls Tryz.prog 18 #[lgV a qa, lgV b qb] w (RetBel (.bool (sameL a b)) w) := by
  intro n
  induction n with
  | zero => intro e he; exfalso; have := lbulk_pos e; omega
  | succ n ih =>
    intro a ha hn b qa qb w hb hat1 hat2
    have hba := lbulk_eq a
    have hbb := lbulk_eq b
    obtain ⟨xnea, xnen, xnec, xlea, xlen, xlec, xia, xim, xic, xoa, xom, xoc, xra, xrm, xrc, xna, xnm, xnc, xla, xlm, xlc, rfl, ⟨xhim, xhom, xhrm, xhnm, xhlm⟩, ⟨xhci, xhco, xhcr, xhcn, xhcl⟩, ⟨xhbi, xhbo, xhbr, xhbn, xhbl⟩, xhex, xhpi, xhpo, xhpr, xhpn, xhpl⟩ := LgAt.opened hat1
    obtain ⟨ynea, ynen, ynec, ylea, ylen, ylec, yia, yim, yic, yoa, yom, yoc, yra, yrm, yrc, yna, ynm, ync, yla, ylm, ylc, rfl, ⟨yhim, yhom, yhrm, yhnm, yhlm⟩, ⟨yhci, yhco, yhcr, yhcn, yhcl⟩, ⟨yhbi, yhbo, yhbr, yhbn, yhbl⟩, yhex, yhpi, yhpo, yhpr, yhpn, yhpl⟩ := LgAt.opened hat2
    unfold lgV
    dsimp only
    have HE := Lib.hid (fun W (hW : Bel w W) => rsame_e a.e.bulk a.e (Nat.le_refl _) (by omega) b.e _ _ _ _ W (by omega) (ExAt.bel hW _ xhex) (ExAt.bel hW _ yhex))
    have HI := Lib.hid (fun W (hW : Bel w W) => rsame_parts a.ins b.ins xia yia xim xic yim yic W xhim xhci (xhpi.bel hW) yhim yhci (yhpi.bel hW) (by omega) (by omega))
    have HO := Lib.hid (fun W (hW : Bel w W) => rtexts_c a.outs b.outs xoa yoa xom xoc yom yoc W xhom yhom (by omega) (by omega) (xhpo.bel hW) (yhpo.bel hW))
    have HN := Lib.hid (fun W (hW : Bel w W) => rtexts_c a.ns b.ns xna yna xnm xnc ynm ync W xhnm yhnm (by omega) (by omega) (xhpn.bel hW) (yhpn.bel hW))
    have HRU := Lib.hid (fun W (hW : Bel w W) => rrules_c a.rs b.rs xra yra xrm xrc yrm yrc W xhrm yhrm (by omega) (by omega) (xhpr.bel hW) (yhpr.bel hW))
    have HIH := Lib.hid (fun (s t : Lg) q1 q2 wr (hs : s ∈ a.l) (ht : t ∈ b.l) (h1 : LgAt wr s q1) (h2 : LgAt wr t q2) => ih s (by have := lbulks_mem hs; omega) (by omega) t q1 q2 wr (by have := lbulks_mem ht; omega) h1 h2)
    have hR := sameL_split a b
    obtain ⟨k1, hk1⟩ : ∃ k, a.k = k := ⟨_, rfl⟩
    obtain ⟨k2, hk2⟩ : ∃ k, b.k = k := ⟨_, rfl⟩
    obtain ⟨p1, hp1⟩ : ∃ k, a.p = k := ⟨_, rfl⟩
    obtain ⟨p2, hp2⟩ : ∃ k, b.p = k := ⟨_, rfl⟩
    rw [hk1, hk2, hp1, hp2] at hR
    rw [hR, hk1, hk2, hp1, hp2]
    have hlm1 : xlm ≤ 1073741824 := by omega
    have hlm2 : ylm ≤ 1073741824 := by omega
    have hz1 : (k1 == k2) = !(k1 != k2) := by simp [bne]
    obtain ⟨q1, hq1⟩ : ∃ q, (k1 != k2) = q := ⟨_, rfl⟩
    obtain ⟨q2, hq2⟩ : ∃ q, (p1.toList == p2.toList) = q := ⟨_, rfl⟩
    obtain ⟨q9, hq9⟩ : ∃ q, ((xlm : Int) != ylm) = q := ⟨_, rfl⟩
    obtain ⟨q3, hq3⟩ : ∃ q, sameE a.e b.e = q := ⟨_, rfl⟩
    obtain ⟨q4, hq4⟩ : ∃ q, samesE a.ins b.ins = q := ⟨_, rfl⟩
    obtain ⟨q5, hq5⟩ : ∃ q, decide (a.outs = b.outs) = q := ⟨_, rfl⟩
    obtain ⟨q6, hq6⟩ : ∃ q, decide (a.ns = b.ns) = q := ⟨_, rfl⟩
    obtain ⟨q7, hq7⟩ : ∃ q, samesR a.rs b.rs = q := ⟨_, rfl⟩
    obtain ⟨q8, hq8⟩ : ∃ q, all2 sameL a.l b.l = q := ⟨_, rfl⟩
    rw [hz1, hq1, hq2, hq3, hq4, hq5, hq6, hq7, hq8]
    obtain ⟨R, hRR⟩ : ∃ R, (!q1 && (q2 && (q3 && (q4 && (q5 && (q6 && (q7 && q8))))))) = R := ⟨_, rfl⟩
    rw [hRR]
    have HRR := Lib.hid hRR
    clear hRR
    rw [hq3] at HE
    rw [hq4] at HI
    rw [hq5] at HO
    rw [hq6] at HN
    rw [hq7] at HRU
    have H9 := Lib.hid (show q9 = true → q8 = false from fun h => by rw [← hq8]; exact all2_len sameL _ _ (by rw [xhlm, yhlm]; rw [← hq9] at h; simp at h; omega))
    have H9F := Lib.hid (show q9 = false → xlm = ylm from fun h => by rw [← hq9] at h; simp at h; omega)
    have HQ8 := Lib.hid hq8
    have HXL := Lib.hid xhlm
    have HYL := Lib.hid yhlm
    have XP := Lib.hid xhpl
    have YP := Lib.hid yhpl
    obtain ⟨V1, h1, m1, l1, s1⟩ := alloc_step w 30 [.int .i64 k1, .int .i64 a.e.k, .string a.e.s, .slice xnea xnen xnec, .slice xlea xlen xlec, .string p1, .slice xia xim xic, .slice xoa xom xoc, .slice xra xrm xrc, .slice xna xnm xnc, .slice xla xlm xlc]
    obtain ⟨V2, h2, m2, l2, s2⟩ := alloc_step V1 30 [.int .i64 k2, .int .i64 b.e.k, .string b.e.s, .slice ynea ynen ynec, .slice ylea ylen ylec, .string p2, .slice yia yim yic, .slice yoa yom yoc, .slice yra yrm yrc, .slice yna ynm ync, .slice yla ylm ylc]
    rw [s1] at m2
    have TA := Lib.hid (m1.bel l2)
    have TB := Lib.hid m2
    have HB := Lib.hid (l1.trans l2)
    have HV1 := Lib.hid h1
    have HV2 := Lib.hid h2
    have c0 := TA.out.at 0
    have d0 := TB.out.at 0
    have c5 := TA.out.at 5
    have d5 := TB.out.at 5
    have c10 := TA.out.at 10
    have d10 := TB.out.at 10
    have c1 := TA.out.at 1
    have d1 := TB.out.at 1
    have c2 := TA.out.at 2
    have d2 := TB.out.at 2
    have c3 := TA.out.at 3
    have d3 := TB.out.at 3
    have c4 := TA.out.at 4
    have d4 := TB.out.at 4
    clear ih hba hbb hat1 hat2 xhim xhom xhrm xhnm xhlm xhex xhpi xhpo xhpr xhpn xhpl yhim yhom yhrm yhnm yhlm yhex yhpi yhpo yhpr yhpn yhpl hR hz1 hk1 hk2 hp1 hp2 hq3 hq4 hq5 hq6 hq7 hq8 h1 h2 m1 m2 l1 l2 s1 s2
    go_enter Tryz.func18, Tryz.ntmps18
    go_upto_region 1 with fail
    rw [show w.alloc (.cells #[.int .i64 k1, .int .i64 a.e.k, .string a.e.s, .slice xnea xnen xnec, .slice xlea xlen xlec, .string p1, .slice xia xim xic, .slice xoa xom xoc, .slice xra xrm xrc, .slice xna xnm xnc, .slice xla xlm xlc] 30) = V1 from HV1.out, show V1.alloc (.cells #[.int .i64 k2, .int .i64 b.e.k, .string b.e.s, .slice ynea ynen ynec, .slice ylea ylen ylec, .string p2, .slice yia yim yic, .slice yoa yom yoc, .slice yra yrm yrc, .slice yna ynm ync, .slice yla ylm ylc] 30) = V2 from HV2.out]
    clear HV1 HV2
    cases q1 with
    | true =>
      go_wp2_with fail
      go_ret
      exact ⟨ret_bool (by rw [← HRR.out]; simp), HB.out⟩
    | false =>
    cases q2 with
    | false =>
      go_wp2_with fail
      go_ret
      exact ⟨ret_bool (by rw [← HRR.out]; simp), HB.out⟩
    | true =>
    cases q9 with
    | true =>
      have h8 := H9.out rfl
      subst h8
      clear H9 H9F HQ8
      go_wp2_with fail
      go_ret
      exact ⟨ret_bool (by rw [← HRR.out]; simp), HB.out⟩
    | false =>
    have hl := H9F.out rfl
    subst hl
    clear H9 H9F hlm2
    go_wp2_with fail
    refine (HE.out _ HB.out).mono ?_
    rintro e3 w3 ⟨rfl, hb3⟩
    have TA3 := Lib.hid (TA.out.bel hb3)
    have TB3 := Lib.hid (TB.out.bel hb3)
    have c6 := TA3.out.at 6
    have d6 := TB3.out.at 6
    have HB3 := Lib.hid (HB.out.trans hb3)
    clear hb3 HE c0 d0 c5 d5 c1 d1 c2 d2 c3 d3 c4 d4 c10 d10 TA TB hq1 hq2 hq9
    cases q3 with
    | false =>
      go_wp2_with fail
      go_ret
      exact ⟨ret_bool (by rw [← HRR.out]; simp), HB3.out⟩
    | true =>
    go_wp2_with fail
    refine (HI.out _ HB3.out).mono ?_
    rintro e4 w4 ⟨rfl, hb4⟩
    have TA4 := Lib.hid (TA3.out.bel hb4)
    have TB4 := Lib.hid (TB3.out.bel hb4)
    have c7 := TA4.out.at 7
    have d7 := TB4.out.at 7
    have HB4 := Lib.hid (HB3.out.trans hb4)
    clear hb4 HI TA3 TB3 c6 d6
    cases q4 with
    | false =>
      go_wp2_with fail
      go_ret
      exact ⟨ret_bool (by rw [← HRR.out]; simp), HB4.out⟩
    | true =>
    go_wp2_with fail
    refine (HO.out _ HB4.out).mono ?_
    rintro e5 w5 ⟨rfl, hb5⟩
    have TA5 := Lib.hid (TA4.out.bel hb5)
    have TB5 := Lib.hid (TB4.out.bel hb5)
    have c9 := TA5.out.at 9
    have d9 := TB5.out.at 9
    have HB5 := Lib.hid (HB4.out.trans hb5)
    clear hb5 HO TA4 TB4 c7 d7
    cases q5 with
    | false =>
      go_wp2_with fail
      go_ret
      exact ⟨ret_bool (by rw [← HRR.out]; simp), HB5.out⟩
    | true =>
    go_wp2_with fail
    refine (HN.out _ HB5.out).mono ?_
    rintro e6 w6 ⟨rfl, hb6⟩
    have TA6 := Lib.hid (TA5.out.bel hb6)
    have TB6 := Lib.hid (TB5.out.bel hb6)
    have c8 := TA6.out.at 8
    have d8 := TB6.out.at 8
    have HB6 := Lib.hid (HB5.out.trans hb6)
    clear hb6 HN TA5 TB5 c9 d9
    cases q6 with
    | false =>
      go_wp2_with fail
      go_ret
      exact ⟨ret_bool (by rw [← HRR.out]; simp), HB6.out⟩
    | true =>
    go_wp2_with fail
    refine (HRU.out _ HB6.out).mono ?_
    rintro e7 w7 ⟨rfl, hb7⟩
    have TA7 := Lib.hid (TA6.out.bel hb7)
    have TB7 := Lib.hid (TB6.out.bel hb7)
    have HB7 := Lib.hid (HB6.out.trans hb7)
    clear hb7 HRU TA6 TB6 c8 d8
    cases q7 with
    | false =>
      go_wp2_with fail
      go_ret
      exact ⟨ret_bool (by rw [← HRR.out]; simp), HB7.out⟩
    | true =>
    go_wp2_with fail
    go_loopw [5] (fun i wr => ∃ j : Nat, j ≤ xlm ∧ i = .int .i64 j ∧ Bel w7 wr ∧ all2 sameL (a.l.drop j) (b.l.drop j) = q8) (fun i _ => xlm - (intOf i).toNat)
    case atStart => exact ⟨0, Nat.zero_le _, rfl, Bel.refl _, HQ8.out⟩
    case round =>
      obtain ⟨j, hj, rfl, hbel, hd⟩ := hrel
      have c10 : wr.cell? ⟨w.heap.size, 10, none⟩ = some (.slice xla xlm xlc) := hbel.keep (TA7.out.at 10)
      have d10 : wr.cell? ⟨w.heap.size + 1, 10, none⟩ = some (.slice yla xlm ylc) := hbel.keep (TB7.out.at 10)
      have HBL := Lib.hid hbel
      have hbw := HB7.out.trans hbel
      clear hbel
      by_cases hkn : j < xlm
      · have hki : (j : Int) < xlm := by omega
        obtain ⟨x, hx⟩ : ∃ x, a.l[j]? = some x := ⟨_, List.getElem?_eq_getElem (by have := HXL.out; omega)⟩
        obtain ⟨y, hy⟩ : ∃ y, b.l[j]? = some y := ⟨_, List.getElem?_eq_getElem (by have := HYL.out; omega)⟩
        obtain ⟨b1, o1, q1, rfl, hxc, hxa⟩ := XP.out j x hx
        obtain ⟨b2, o2, q2, rfl, hyc, hya⟩ := YP.out j y hy
        have HC := Lib.hid (fun W (hW : Bel w W) => HIH.out x y q1 q2 W (List.mem_of_getElem? hx) (List.mem_of_getElem? hy) (LgAt.bel hW x hxa) (LgAt.bel hW y hya))
        unfold lgV at HC
        unfold lgC at hxc hyc
        have g0 := CellsAt.get0 hxc
        have g1 := CellsAt.get hxc 1 rfl
        have g2 := CellsAt.get hxc 2 rfl
        have g3 := CellsAt.get hxc 3 rfl
        have g4 := CellsAt.get hxc 4 rfl
        have g5 := CellsAt.get hxc 5 rfl
        have g6 := CellsAt.get hxc 6 rfl
        have g7 := CellsAt.get hxc 7 rfl
        have g8 := CellsAt.get hxc 8 rfl
        have g9 := CellsAt.get hxc 9 rfl
        have g10 := CellsAt.get hxc 10 rfl
        have i0 := CellsAt.get0 hyc
        have i1 := CellsAt.get hyc 1 rfl
        have i2 := CellsAt.get hyc 2 rfl
        have i3 := CellsAt.get hyc 3 rfl
        have i4 := CellsAt.get hyc 4 rfl
        have i5 := CellsAt.get hyc 5 rfl
        have i6 := CellsAt.get hyc 6 rfl
        have i7 := CellsAt.get hyc 7 rfl
        have i8 := CellsAt.get hyc 8 rfl
        have i9 := CellsAt.get hyc 9 rfl
        have i10 := CellsAt.get hyc 10 rfl
        have f0 := Bel.keep hbw g0
        have f1 := Bel.keep hbw g1
        have f2 := Bel.keep hbw g2
        have f3 := Bel.keep hbw g3
        have f4 := Bel.keep hbw g4
        have f5 := Bel.keep hbw g5
        have f6 := Bel.keep hbw g6
        have f7 := Bel.keep hbw g7
        have f8 := Bel.keep hbw g8
        have f9 := Bel.keep hbw g9
        have f10 := Bel.keep hbw g10
        have e0 := Bel.keep hbw i0
        have e1 := Bel.keep hbw i1
        have e2 := Bel.keep hbw i2
        have e3 := Bel.keep hbw i3
        have e4 := Bel.keep hbw i4
        have e5 := Bel.keep hbw i5
        have e6 := Bel.keep hbw i6
        have e7 := Bel.keep hbw i7
        have e8 := Bel.keep hbw i8
        have e9 := Bel.keep hbw i9
        have e10 := Bel.keep hbw i10
        rw [all2_drop sameL a.l b.l j x y hx hy] at hd
        obtain ⟨r, hr⟩ : ∃ r, sameL x y = r := ⟨_, rfl⟩
        rw [hr] at HC hd
        have HD := Lib.hid hd
        have HBW := Lib.hid hbw
        clear g0 g1 g2 g3 g4 g5 g6 g7 g8 g9 g10 i0 i1 i2 i3 i4 i5 i6 i7 i8 i9 i10 hxc hyc hxa hya hx hy hr hd hbw
        go_wp2_with fail
        refine wp_region_held_drew (S := fun w' => Bel wr w') (by kernel_rfl) (by (repeat (first | exact Bel.refl _ | assumption | refine Bel.to_drewN ?_ _ | refine Bel.to_drew ?_ | refine Bel.to_setCell ?_ (by first | exact Nat.le_refl _ | (simp; done) | (simp; omega) | omega) _ | refine Bel.to_alloc ?_ _ | refine Bel.trans ?_ (by assumption)))) (fun hHeld => ?_)
        refine wpAnyH_take (i := 0) (oi := _) (v := ?_) rfl (by kernel_rfl) (by kernel_rfl) (by kernel_rfl) (fun _ _ _ h => h) ?_ (by assumption) ?_
        rotate_left 1
        · first
            | (refine Or.inl ⟨by rfl, ?_⟩; intro w9 hSw; (try dsimp only at hSw); have e9_0 := Bel.keep hSw c10; have e9_1 := Bel.keep hSw f0; have e9_2 := Bel.keep hSw f1; have e9_3 := Bel.keep hSw f2; have e9_4 := Bel.keep hSw f3; have e9_5 := Bel.keep hSw f4; have e9_6 := Bel.keep hSw f5; have e9_7 := Bel.keep hSw f6; have e9_8 := Bel.keep hSw f7; have e9_9 := Bel.keep hSw f8; have e9_10 := Bel.keep hSw f9; have e9_11 := Bel.keep hSw f10; go_simp; (try with_reducible rfl); done)
            | (refine Or.inr ⟨by rfl, ?_⟩; rfl)
        simp only [List.getElem_toArray, List.getElem_cons_zero, Act.put, List.setIfInBounds_toArray, List.set_cons_zero, List.set_cons_succ]
        refine wpAnyH_take (i := 1) (oi := _) (v := ?_) rfl (by kernel_rfl) (by kernel_rfl) (by kernel_rfl) (fun _ _ _ h => h) ?_ (by assumption) ?_
        rotate_left 1
        · first
            | (refine Or.inl ⟨by rfl, ?_⟩; intro w9 hSw; (try dsimp only at hSw); have e9_0 := Bel.keep hSw c10; have e9_1 := Bel.keep hSw f0; have e9_2 := Bel.keep hSw f1; have e9_3 := Bel.keep hSw f2; have e9_4 := Bel.keep hSw f3; have e9_5 := Bel.keep hSw f4; have e9_6 := Bel.keep hSw f5; have e9_7 := Bel.keep hSw f6; have e9_8 := Bel.keep hSw f7; have e9_9 := Bel.keep hSw f8; have e9_10 := Bel.keep hSw f9; have e9_11 := Bel.keep hSw f10; go_simp; (try with_reducible rfl); done)
            | (refine Or.inr ⟨by rfl, ?_⟩; rfl)
        simp only [List.getElem_toArray, List.getElem_cons_succ, List.getElem_cons_zero, Act.put, List.setIfInBounds_toArray, List.set_cons_zero, List.set_cons_succ]
        refine wpAnyH_take (i := 2) (oi := _) (v := ?_) rfl (by kernel_rfl) (by kernel_rfl) (by kernel_rfl) (fun _ _ _ h => h) ?_ (by assumption) ?_
        rotate_left 1
        · first
            | (refine Or.inl ⟨by rfl, ?_⟩; intro w9 hSw; (try dsimp only at hSw); have e9_0 := Bel.keep hSw c10; have e9_1 := Bel.keep hSw f0; have e9_2 := Bel.keep hSw f1; have e9_3 := Bel.keep hSw f2; have e9_4 := Bel.keep hSw f3; have e9_5 := Bel.keep hSw f4; have e9_6 := Bel.keep hSw f5; have e9_7 := Bel.keep hSw f6; have e9_8 := Bel.keep hSw f7; have e9_9 := Bel.keep hSw f8; have e9_10 := Bel.keep hSw f9; have e9_11 := Bel.keep hSw f10; go_simp; (try with_reducible rfl); done)
            | (refine Or.inr ⟨by rfl, ?_⟩; rfl)
        simp only [List.getElem_toArray, List.getElem_cons_succ, List.getElem_cons_zero, Act.put, List.setIfInBounds_toArray, List.set_cons_zero, List.set_cons_succ]
        refine wpAnyH_take (i := 3) (oi := _) (v := ?_) rfl (by kernel_rfl) (by kernel_rfl) (by kernel_rfl) (fun _ _ _ h => h) ?_ (by assumption) ?_
        rotate_left 1
        · first
            | (refine Or.inl ⟨by rfl, ?_⟩; intro w9 hSw; (try dsimp only at hSw); have e9_0 := Bel.keep hSw c10; have e9_1 := Bel.keep hSw f0; have e9_2 := Bel.keep hSw f1; have e9_3 := Bel.keep hSw f2; have e9_4 := Bel.keep hSw f3; have e9_5 := Bel.keep hSw f4; have e9_6 := Bel.keep hSw f5; have e9_7 := Bel.keep hSw f6; have e9_8 := Bel.keep hSw f7; have e9_9 := Bel.keep hSw f8; have e9_10 := Bel.keep hSw f9; have e9_11 := Bel.keep hSw f10; go_simp; (try with_reducible rfl); done)
            | (refine Or.inr ⟨by rfl, ?_⟩; rfl)
        simp only [List.getElem_toArray, List.getElem_cons_succ, List.getElem_cons_zero, Act.put, List.setIfInBounds_toArray, List.set_cons_zero, List.set_cons_succ]
        refine wpAnyH_take (i := 4) (oi := _) (v := ?_) rfl (by kernel_rfl) (by kernel_rfl) (by kernel_rfl) (fun _ _ _ h => h) ?_ (by assumption) ?_
        rotate_left 1
        · first
            | (refine Or.inl ⟨by rfl, ?_⟩; intro w9 hSw; (try dsimp only at hSw); have e9_0 := Bel.keep hSw c10; have e9_1 := Bel.keep hSw f0; have e9_2 := Bel.keep hSw f1; have e9_3 := Bel.keep hSw f2; have e9_4 := Bel.keep hSw f3; have e9_5 := Bel.keep hSw f4; have e9_6 := Bel.keep hSw f5; have e9_7 := Bel.keep hSw f6; have e9_8 := Bel.keep hSw f7; have e9_9 := Bel.keep hSw f8; have e9_10 := Bel.keep hSw f9; have e9_11 := Bel.keep hSw f10; go_simp; (try with_reducible rfl); done)
            | (refine Or.inr ⟨by rfl, ?_⟩; rfl)
        simp only [List.getElem_toArray, List.getElem_cons_succ, List.getElem_cons_zero, Act.put, List.setIfInBounds_toArray, List.set_cons_zero, List.set_cons_succ]
        refine wpAnyH_take (i := 5) (oi := _) (v := ?_) rfl (by kernel_rfl) (by kernel_rfl) (by kernel_rfl) (fun _ _ _ h => h) ?_ (by assumption) ?_
        rotate_left 1
        · first
            | (refine Or.inl ⟨by rfl, ?_⟩; intro w9 hSw; (try dsimp only at hSw); have e9_0 := Bel.keep hSw d10; have e9_1 := Bel.keep hSw e0; have e9_2 := Bel.keep hSw e1; have e9_3 := Bel.keep hSw e2; have e9_4 := Bel.keep hSw e3; have e9_5 := Bel.keep hSw e4; have e9_6 := Bel.keep hSw e5; have e9_7 := Bel.keep hSw e6; have e9_8 := Bel.keep hSw e7; have e9_9 := Bel.keep hSw e8; have e9_10 := Bel.keep hSw e9; have e9_11 := Bel.keep hSw e10; go_simp; (try with_reducible rfl); done)
            | (refine Or.inr ⟨by rfl, ?_⟩; rfl)
        simp only [List.getElem_toArray, List.getElem_cons_succ, List.getElem_cons_zero, Act.put, List.setIfInBounds_toArray, List.set_cons_zero, List.set_cons_succ]
        refine wpAnyH_take (i := 6) (oi := _) (v := ?_) rfl (by kernel_rfl) (by kernel_rfl) (by kernel_rfl) (fun _ _ _ h => h) ?_ (by assumption) ?_
        rotate_left 1
        · first
            | (refine Or.inl ⟨by rfl, ?_⟩; intro w9 hSw; (try dsimp only at hSw); have e9_0 := Bel.keep hSw d10; have e9_1 := Bel.keep hSw e0; have e9_2 := Bel.keep hSw e1; have e9_3 := Bel.keep hSw e2; have e9_4 := Bel.keep hSw e3; have e9_5 := Bel.keep hSw e4; have e9_6 := Bel.keep hSw e5; have e9_7 := Bel.keep hSw e6; have e9_8 := Bel.keep hSw e7; have e9_9 := Bel.keep hSw e8; have e9_10 := Bel.keep hSw e9; have e9_11 := Bel.keep hSw e10; go_simp; (try with_reducible rfl); done)
            | (refine Or.inr ⟨by rfl, ?_⟩; rfl)
        simp only [List.getElem_toArray, List.getElem_cons_succ, List.getElem_cons_zero, Act.put, List.setIfInBounds_toArray, List.set_cons_zero, List.set_cons_succ]
        refine wpAnyH_take (i := 7) (oi := _) (v := ?_) rfl (by kernel_rfl) (by kernel_rfl) (by kernel_rfl) (fun _ _ _ h => h) ?_ (by assumption) ?_
        rotate_left 1
        · first
            | (refine Or.inl ⟨by rfl, ?_⟩; intro w9 hSw; (try dsimp only at hSw); have e9_0 := Bel.keep hSw d10; have e9_1 := Bel.keep hSw e0; have e9_2 := Bel.keep hSw e1; have e9_3 := Bel.keep hSw e2; have e9_4 := Bel.keep hSw e3; have e9_5 := Bel.keep hSw e4; have e9_6 := Bel.keep hSw e5; have e9_7 := Bel.keep hSw e6; have e9_8 := Bel.keep hSw e7; have e9_9 := Bel.keep hSw e8; have e9_10 := Bel.keep hSw e9; have e9_11 := Bel.keep hSw e10; go_simp; (try with_reducible rfl); done)
            | (refine Or.inr ⟨by rfl, ?_⟩; rfl)
        simp only [List.getElem_toArray, List.getElem_cons_succ, List.getElem_cons_zero, Act.put, List.setIfInBounds_toArray, List.set_cons_zero, List.set_cons_succ]
        refine wpAnyH_take (i := 8) (oi := _) (v := ?_) rfl (by kernel_rfl) (by kernel_rfl) (by kernel_rfl) (fun _ _ _ h => h) ?_ (by assumption) ?_
        rotate_left 1
        · first
            | (refine Or.inl ⟨by rfl, ?_⟩; intro w9 hSw; (try dsimp only at hSw); have e9_0 := Bel.keep hSw d10; have e9_1 := Bel.keep hSw e0; have e9_2 := Bel.keep hSw e1; have e9_3 := Bel.keep hSw e2; have e9_4 := Bel.keep hSw e3; have e9_5 := Bel.keep hSw e4; have e9_6 := Bel.keep hSw e5; have e9_7 := Bel.keep hSw e6; have e9_8 := Bel.keep hSw e7; have e9_9 := Bel.keep hSw e8; have e9_10 := Bel.keep hSw e9; have e9_11 := Bel.keep hSw e10; go_simp; (try with_reducible rfl); done)
            | (refine Or.inr ⟨by rfl, ?_⟩; rfl)
        simp only [List.getElem_toArray, List.getElem_cons_succ, List.getElem_cons_zero, Act.put, List.setIfInBounds_toArray, List.set_cons_zero, List.set_cons_succ]
        refine wpAnyH_take (i := 9) (oi := _) (v := ?_) rfl (by kernel_rfl) (by kernel_rfl) (by kernel_rfl) (fun _ _ _ h => h) ?_ (by assumption) ?_
        rotate_left 1
        · first
            | (refine Or.inl ⟨by rfl, ?_⟩; intro w9 hSw; (try dsimp only at hSw); have e9_0 := Bel.keep hSw d10; have e9_1 := Bel.keep hSw e0; have e9_2 := Bel.keep hSw e1; have e9_3 := Bel.keep hSw e2; have e9_4 := Bel.keep hSw e3; have e9_5 := Bel.keep hSw e4; have e9_6 := Bel.keep hSw e5; have e9_7 := Bel.keep hSw e6; have e9_8 := Bel.keep hSw e7; have e9_9 := Bel.keep hSw e8; have e9_10 := Bel.keep hSw e9; have e9_11 := Bel.keep hSw e10; go_simp; (try with_reducible rfl); done)
            | (refine Or.inr ⟨by rfl, ?_⟩; rfl)
        simp only [List.getElem_toArray, List.getElem_cons_succ, List.getElem_cons_zero, Act.put, List.setIfInBounds_toArray, List.set_cons_zero, List.set_cons_succ]
        refine wpAnyH_ready (rs := [10]) (by kernel_rfl) (by simp) ?_
        refine AllReadyH.cons (o := _) rfl (fun K hK => ?_) AllReadyH.nil
        go_simp
        go_at_call 18
        refine (HC.out _ (HBW.out.trans hHeld)).mono ?_
        rintro e5 w5 ⟨rfl, hb5⟩
        dsimp only
        have hb6 := hHeld.trans hb5
        refine hK.out _ _ hb6 (fun hHeld => ?_)
        clear hK K
        refine wpAnyH_take (i := 11) (oi := _) (v := ?_) rfl (by kernel_rfl) (by kernel_rfl) (by kernel_rfl) (fun _ _ _ h => h) ?_ (by assumption) ?_
        rotate_left 1
        · first
            | (refine Or.inl ⟨by rfl, ?_⟩; intro w9 hSw; (try dsimp only at hSw); go_simp; (try with_reducible rfl); done)
            | (refine Or.inr ⟨by rfl, ?_⟩; rfl)
        simp only [List.getElem_toArray, List.getElem_cons_succ, List.getElem_cons_zero, Act.put, List.setIfInBounds_toArray, List.set_cons_zero, List.set_cons_succ]
        refine wpAnyH_done (by kernel_rfl) ?_ _
        have HB6 := Lib.hid hb6
        clear hHeld hb5 hb6 c10 d10 f0 f1 f2 f3 f4 f5 f6 f7 f8 f9 f10
        cases r with
        | false =>
          have hf : q8 = false := by rw [← HD.out]; rfl
          subst hf
          clear HD HQ8
          go_wp2_with fail
          go_ret
          exact ⟨ret_bool (by rw [← HRR.out]; simp), HBW.out.trans HB6.out⟩
        | true =>
          go_wp2_with fail
          exact ⟨⟨j + 1, by omega, by go_num, HBL.out.trans HB6.out, by have := HD.out; simpa using this⟩, by simp [intOf]; omega⟩
      · obtain rfl : j = xlm := by omega
        have hf : q8 = true := by rw [← hd, all2_end sameL a.l b.l j (by have := HXL.out; omega) (by have := HYL.out; omega)]
        subst hf
        clear HQ8 hd
        go_wp2_with fail
        go_ret
        exact ⟨ret_bool (by rw [← HRR.out]; simp), hbw⟩
end Go.Proofs.YtchbhcjhoocjaaaGreatDoor
