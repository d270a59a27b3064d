/-
  logic: the walks of what is wrong with one, with all that is in it.
-/
import Derived.Test.YtchbhcjhoocjaaaGreatDoorLGF
import Derived.Test.YtchbhcjhoocjaaaGreatDoorLGD
namespace Go.Proofs.YtchbhcjhoocjaaaGreatDoor
open Go.RowKit

theorem form_given {l : Lg} (hf : formL l = true) (hk : l.k = 2) : 0 < l.ns.length := by
  unfold formL at hf
  rw [if_neg (by omega), if_neg (by omega), if_pos hk] at hf
  simp only [Bool.and_eq_true, decide_eq_true_eq] at hf
  omega
theorem own_form_eq {l : Lg} (h0 : 0 ≤ l.k ∧ l.k ≤ 3) (hf : formL l = true) : ownL l = nz (fiveL l) := by
  unfold ownL
  rw [if_neg (by simpa using h0), if_neg (by rw [hf]; decide)]
set_option maxRecDepth 100000 in
set_option maxHeartbeats 16000000 in
theorem check_l : ∀ (n : Nat) (l : Lg), l.bulk ≤ n → n ≤ 1073741824 → ∀ (q : LgQ) (w : World), EnvX w → PolAt w → LgAt w l q →
    Calls Tryz.prog 26 #[lgV l q] w (RetBel (.int .i64 (checkL l)) w) := by
  intro n
  induction n with
  | zero => intro l hl; exfalso; have := lbulk_pos l; omega
  | succ n ih =>
    intro l hl hn q w hE hP hat
    have hat' := hat
    obtain ⟨nea, nen, nec, lea, len, lec, ia, im, ic, oa, om, oc, ra, rm, rc, na, nm, nc, la, lm, lc, rfl, ⟨him, hom, hrm, hnm, hlm⟩, ⟨hci, hco, hcr, hcn, hcl⟩, ⟨hbi, hbo, hbr, hbn, hbl⟩, hex, hpi, hpo, hpr, hpn, hpl⟩ := LgAt.opened hat
    unfold lgV
    dsimp only
    have HFORM : Hid (∀ W, Bel w W → Calls Tryz.prog 61 #[.agg #[.int .i64 l.k, .int .i64 l.e.k, .string l.e.s, .slice nea nen nec, .slice lea len lec, .string l.p, .slice ia im ic, .slice oa om oc, .slice ra rm rc, .slice na nm nc, .slice la lm lc]] W (RetBel (.bool (formL l)) W)) := Lib.hid fun W hW => form_c l ⟨.slice nea nen nec, .slice lea len lec, .slice ia im ic, .slice oa om oc, .slice ra rm rc, .slice na nm nc, .slice la lm lc⟩ W (hP.bel hW) (LgAt.bel hW l hat') (by omega)
    have HFIVE := Lib.hid (fun gb lb ga gn gc W (hW : Bel w W) hg h1 h2 h3 (h4 : CellsAt W lb 0 (lgC l ⟨.slice nea nen nec, .slice lea len lec, .slice ia im ic, .slice oa om oc, .slice ra rm rc, .slice na nm nc, .slice la lm lc⟩)) => five_funs l ⟨.slice nea nen nec, .slice lea len lec, .slice ia im ic, .slice oa om oc, .slice ra rm rc, .slice na nm nc, .slice la lm lc⟩ gb lb ga gn gc W (hE.bel hW) (LgAt.bel hW l hat') (by omega) hg h1 h2 h3 h4)
    have HIH : Hid (∀ (x : Lg), x.bulk < l.bulk → ∀ xq W, Bel w W → LgAt W x xq → Calls Tryz.prog 26 #[lgV x xq] W (RetBel (.int .i64 (checkL x)) W)) := Lib.hid fun x hx xq W hW h3 => ih x (by omega) (by omega) xq W (hE.bel hW) (hP.bel hW) h3
    obtain ⟨R, hR⟩ : ∃ R, checkL l = R := ⟨_, rfl⟩
    rw [hR]
    rw [checkL_eq] at hR
    have HR := Lib.hid hR
    have HPL := Lib.hid hpl
    have HPN := Lib.hid hpn
    have HLM := Lib.hid hlm
    have HNM := Lib.hid hnm
    have HFG := Lib.hid (form_given (l := l))
    have HOF := Lib.hid (own_form_eq (l := l))
    have hn2 : nm ≤ 1073741824 := by omega
    have hl2 : lm ≤ 1073741824 := by omega
    obtain ⟨k, hk⟩ : ∃ k, l.k = k := ⟨_, rfl⟩
    rw [hk] at HFORM HFG HOF ⊢
    have HK := Lib.hid hk
    obtain ⟨V1, h1, k1, l1, s1⟩ := alloc_step w 30 [.int .i64 k, .int .i64 l.e.k, .string l.e.s, .slice nea nen nec, .slice lea len lec, .string l.p, .slice ia im ic, .slice oa om oc, .slice ra rm rc, .slice na nm nc, .slice la lm lc]
    have HV1 := Lib.hid h1
    have T0 := Lib.hid k1
    have HB0 := Lib.hid l1
    have c0 := Blk.at k1 0
    have c1 := Blk.at k1 1
    have c2 := Blk.at k1 2
    have c3 := Blk.at k1 3
    have c4 := Blk.at k1 4
    have c5 := Blk.at k1 5
    have c6 := Blk.at k1 6
    have c7 := Blk.at k1 7
    have c8 := Blk.at k1 8
    have c9 := Blk.at k1 9
    have c10 := Blk.at k1 10
    clear ih him hom hrm hnm hlm hex hpi hpo hpr hpn hpl hat hat' hR hE hP hk h1 k1 l1 s1
    go_enter Tryz.func26, Tryz.ntmps26
    go_upto_region 1 with fail
    rw [show w.alloc (.cells #[.int .i64 k, .int .i64 l.e.k, .string l.e.s, .slice nea nen nec, .slice lea len lec, .string l.p, .slice ia im ic, .slice oa om oc, .slice ra rm rc, .slice na nm nc, .slice la lm lc] 30) = V1 from HV1.out]
    clear HV1
    by_cases hk03 : 0 ≤ k ∧ k ≤ 3
    rotate_left 1
    · have HF : Hid (2 = R) := Lib.hid (by
        have h := HR.out
        have h2 : ownL l = 2 := by unfold ownL; rw [if_pos (by rw [HK.out]; exact hk03)]
        rw [h2] at h; simpa using h)
      by_cases hk0 : k < 0
      · clear hk03
        go_wp2_with fail
        go_ret
        exact ⟨ret_int (by rw [← HF.out]; rfl), HB0.out⟩
      · have hk3 : 3 < k := by omega
        clear hk03
        go_wp2_with fail
        go_ret
        exact ⟨ret_int (by rw [← HF.out]; rfl), HB0.out⟩
    obtain ⟨hk0, hk3⟩ := hk03
    have hk0n : ¬ k < 0 := by omega
    have hk3n : ¬ 3 < k := by omega
    go_wp2_with fail
    refine (HFORM.out _ HB0.out).mono ?_
    rintro e1 w1 ⟨rfl, hb1⟩
    obtain ⟨f, hf⟩ : ∃ f, formL l = f := ⟨_, rfl⟩
    rw [hf]
    have t1 := T0.out.bel hb1
    have T1 := Lib.hid t1
    have HB1 := Lib.hid (HB0.out.trans hb1)
    clear HFORM T0 HB0 hb1 c0 c1 c2 c3 c4 c5 c6 c7 c8 c9 c10
    cases f with
    | false =>
      have HF : Hid (17 = R) := Lib.hid (by
        have h := HR.out
        have h2 : ownL l = 17 := by unfold ownL; rw [if_neg (by rw [HK.out]; simp; omega), if_pos hf]
        rw [h2] at h; simpa using h)
      clear t1 hf
      go_wp2_with fail
      go_ret
      exact ⟨ret_int (by rw [← HF.out]; rfl), HB1.out⟩
    | true =>
    have HO := Lib.hid (HOF.out ⟨hk0, hk3⟩ hf)
    have HGP : Hid (k = 2 → 0 < nm) := Lib.hid fun h2 => by have := HFG.out hf h2; rw [HNM.out] at this; exact this
    have d0 := t1.at 0
    have d9 := t1.at 9
    have d10 := t1.at 10
    clear HFG HOF hf t1
    have hcase : ∃ gn gc, (givenL k l.ns).length = gn ∧ gn ≤ gc ∧ gn ≤ 1073741824 ∧ NamesAt w na (givenL k l.ns) ∧ ((¬ k = 2 ∧ gn = nm ∧ gc = nc) ∨ ∃ g x, k = 2 ∧ nm = g + 1 ∧ l.ns[g]? = some x ∧ ((x = ⟨#[]⟩ ∧ gn = g ∧ gc = nc) ∨ (x ≠ ⟨#[]⟩ ∧ gn = nm ∧ gc = nc))) := by
      by_cases h2 : k = 2
      · have hg := HGP.out h2
        obtain ⟨g, rfl⟩ : ∃ g, nm = g + 1 := ⟨nm - 1, by omega⟩
        obtain ⟨x, hx⟩ : ∃ x, l.ns[g]? = some x := ⟨_, List.getElem?_eq_getElem (by have := HNM.out; omega)⟩
        have hgl : l.ns.length - 1 = g := by have := HNM.out; omega
        unfold givenL
        rw [hgl]
        by_cases hx0 : x = ⟨#[]⟩
        · rw [if_pos ⟨h2, by rw [hx, hx0]⟩]
          exact ⟨g, nc, by rw [List.length_take]; have := HNM.out; omega, by omega, by omega, HPN.out.take g, .inr ⟨g, x, h2, rfl, hx, .inl ⟨hx0, rfl, rfl⟩⟩⟩
        · rw [if_neg (by rintro ⟨_, h⟩; rw [hx] at h; exact hx0 (Option.some.inj h))]
          exact ⟨g + 1, nc, HNM.out, hcn, by omega, HPN.out, .inr ⟨g, x, h2, rfl, hx, .inr ⟨hx0, rfl, rfl⟩⟩⟩
      · unfold givenL
        rw [if_neg (fun h => h2 h.1)]
        exact ⟨nm, nc, HNM.out, hcn, by omega, HPN.out, .inl ⟨h2, rfl, rfl⟩⟩
    obtain ⟨gn, gc, hgl, hgc, hg2, hga, hcs⟩ := hcase
    have HGL := Lib.hid hgl
    have HGA := Lib.hid hga
    clear hgl hga
    go_upto_region 6 with fail
    obtain ⟨V2, h2, k2, l2, s2⟩ := alloc_step w1 23 [.slice na nm nc]
    rw [h2]
    have K2 := Lib.hid k2
    have L2 := Lib.hid l2
    have z0 := k2.at 0
    have y0 := l2.keep d0
    have hwl : w.heap.size < w1.heap.size := cell_lt d0
    have hfz := k2.fz 0
    clear h2 k2 l2 s2 d0
    go_upto_region 7 with fail
    obtain ⟨y, hy⟩ : ∃ y : Bool, (y = true → ∃ g, nm = g + 1 ∧ gn = g ∧ gc = nc) ∧ (y = false → gn = nm ∧ gc = nc) ∧ ((y = false ∧ ¬ k = 2) ∨ ∃ g x, k = 2 ∧ nm = g + 1 ∧ l.ns[g]? = some x ∧ y = decide (x = ⟨#[]⟩)) := by
      rcases hcs with ⟨h2, h3, h4⟩ | ⟨g, x, h2, h3, hx, ⟨hx1, h4, h5⟩ | ⟨hx1, h4, h5⟩⟩
      · exact ⟨false, fun h => (by cases h), fun _ => ⟨h3, h4⟩, .inl ⟨rfl, h2⟩⟩
      · exact ⟨true, fun _ => ⟨g, h3, h4, h5⟩, fun h => (by cases h), .inr ⟨g, x, h2, h3, hx, by rw [hx1]; rfl⟩⟩
      · exact ⟨false, fun h => (by cases h), fun _ => ⟨h4, h5⟩, .inr ⟨g, x, h2, h3, hx, (decide_eq_false hx1).symm⟩⟩
    have HYT := Lib.hid hy.1
    have HYF := Lib.hid hy.2.1
    have HYC := Lib.hid hy.2.2
    clear hy hcs
    go_cut [4, 36] (fun a v wx => a = .int .i64 ((nm : Int) - 1) ∧ v = .bool y ∧ V2 = wx)
    case first =>
      rcases HYC.out with ⟨rfl, h2⟩ | ⟨g, x, rfl, rfl, hx, rfl⟩
      · have n2 : (k == 2) = false := by simpa using h2
        clear h2
        go_wp2_with fail
        go_meet
        exact ⟨rfl, rfl, rfl⟩
      · obtain ⟨b, off, rfl, g0⟩ := HPN.out g x hx
        have f0 := (HB1.out.trans L2.out).keep g0
        have hge := lisEmpty x
        clear g0 hx HYC HYT HYF
        by_cases hx0 : x = ⟨#[]⟩
        · subst hx0
          clear hge
          go_wp2_with fail
          go_meet
          exact ⟨int_eq (by omega), bool_eq (by first | rfl | simp), rfl⟩
        · have HX0 := Lib.hid hx0
          have hxs : ¬ x.size = 0 := fun h => hx0 (ByteArray.ext (Array.eq_empty_of_size_eq_zero h))
          rw [decide_eq_false hxs] at hge
          have hge2 : (!x.toList.isEmpty) = true := by rw [hge]; rfl
          clear hx0 hxs
          go_wp2_with fail
          go_meet
          exact ⟨int_eq (by omega), bool_eq (decide_eq_false HX0.out).symm, rfl⟩
    case rest =>
    obtain ⟨rfl, rfl, rfl⟩ := hcut
    go_upto_if 36 with fail
    go_cut [36] (fun _ wx => Bel w1 wx ∧ Blk wx w1.heap.size 23 [.slice na gn gc])
    case first =>
      cases y with
      | true =>
        obtain ⟨g, rfl, rfl, rfl⟩ := HYT.out rfl
        clear HYC HYT HYF
        go_wp2_with fail
        go_meet
        exact ⟨bel_setNew L2.out (Nat.le_refl _) 0 _, K2.out.set 0 _⟩
      | false =>
        obtain ⟨rfl, rfl⟩ := HYF.out rfl
        clear HYC HYT HYF
        go_wp2_with fail
        go_meet
        exact ⟨L2.out, K2.out⟩
    case rest =>
    obtain ⟨hb2, hk2⟩ := hcut
    generalize wc = w2 at hb2 hk2 ⊢
    clear y0 z0 hfz d9 d10
    have HB2 := Lib.hid (HB1.out.trans hb2)
    have T2 := Lib.hid (T1.out.bel hb2)
    have c10 := (T1.out.bel hb2).at 10
    have hg := hk2.at 0
    obtain ⟨V3, h3, k3, l3, s3⟩ := alloc_step w2 92 (fiveV w1.heap.size w.heap.size)
    have hfun := HFIVE.out w1.heap.size w.heap.size na gn gc V3 (HB2.out.trans l3) (l3.keep hg) (by rw [HK.out]; exact HGL.out) hgc (by rw [HK.out]; exact HGA.out.bel (HB2.out.trans l3)) (by
      have h := blk_cells (T2.out.bel l3)
      unfold lgC
      rw [HK.out]
      exact h)
    have hfc := lfirst_c (fiveV w1.heap.size w.heap.size) (fiveL l) w2.heap.size 92 5 5 V3 rfl (by omega) k3 hfun
    have hor := HO.out
    obtain ⟨c, hc⟩ : ∃ c, nz (fiveL l) = c := ⟨_, rfl⟩
    rw [hc] at hfc hor
    have HR2 : Hid ((if c = 0 then nz (l.l.map checkL) else c) = R) := Lib.hid (by have h := HR.out; rwa [hor] at h)
    have HFC := Lib.hid hfc
    have HV3 := Lib.hid h3
    have L3 := Lib.hid l3
    unfold fiveV at HV3
    clear h3 k3 l3 s3 hfun hfc hor hc hg hk2 hb2 K2 L2 HYT HYF HYC HFIVE HO HGP HR
    go_wp2_with fail
    rw [show w2.alloc (.cells #[.func (.func 63) #[] #[.pointer (some ⟨w1.heap.size, 0, none⟩)], .func (.func 65) #[] #[.pointer (some ⟨w.heap.size, 0, none⟩)], .func (.func 66) #[] #[.pointer (some ⟨w.heap.size, 0, none⟩)], .func (.func 68) #[] #[.pointer (some ⟨w.heap.size, 0, none⟩)], .func (.func 69) #[] #[.pointer (some ⟨w.heap.size, 0, none⟩)]] 92) = V3 from HV3.out]
    refine HFC.out.mono ?_
    rintro e3 w3 ⟨rfl, hb3⟩
    have HB3 := Lib.hid (HB2.out.trans (L3.out.trans hb3))
    have d10 := hb3.keep (L3.out.keep c10)
    clear hb3 c10 HFC HV3 L3
    by_cases hc0 : c = 0
    rotate_left 1
    · have hc2 : ((c : Int) == 0) = false := by simpa using hc0
      have hc3 : ((c : Int) != 0) = true := by simpa using hc0
      have HF : Hid (c = R) := Lib.hid (by have := HR2.out; rwa [if_neg hc0] at this)
      clear hc0 HR2
      go_wp2_with fail
      go_ret
      exact ⟨ret_int (by rw [HF.out]), HB3.out⟩
    subst hc0
    have HR3 : Hid (nz (l.l.map checkL) = R) := Lib.hid (by have := HR2.out; simpa using this)
    clear HR2
    go_wp2_with fail
    go_loopw [53] (fun i wr => ∃ j : Nat, j ≤ lm ∧ i = .int .i64 j ∧ Bel w3 wr ∧ nz ((l.l.drop j).map checkL) = R) (fun i _ => lm - (intOf i).toNat)
    case atStart => exact ⟨0, Nat.zero_le _, rfl, Bel.refl _, HR3.out⟩
    case round =>
      obtain ⟨j, hj, rfl, hbel, hck⟩ := hrel
      by_cases hlt : j < lm
      · have hlti : (j : Int) < lm := by omega
        obtain ⟨x, hx⟩ : ∃ x, l.l[j]? = some x := ⟨_, List.getElem?_eq_getElem (by have := HLM.out; omega)⟩
        obtain ⟨b, off, xq, rfl, hxc, hxa⟩ := HPL.out j x hx
        have hbw := HB3.out.trans hbel
        have g1 := hxc.bel hbw
        have HX := Lib.hid (fun W (hW : Bel w W) => HIH.out x (lbulk_part hx) xq W hW (LgAt.bel hW x hxa))
        obtain ⟨xnea, xnen, xnec, xlea, xlen, xlec, xia, xim, xic, xoa, xom, xoc, xra, xrm, xrc, xna, xnm, xnc, xla, xlm, xlc, rfl, ⟨xhim, xhom, xhrm, xhnm, xhlm⟩, ⟨xhci, xhco, xhcr, xhcn, xhcl⟩, ⟨xhbi, xhbo, xhbr, xhbn, xhbl⟩, xhex, xhpi, xhpo, xhpr, xhpn, xhpl⟩ := LgAt.opened hxa
        unfold lgV at HX
        dsimp only at HX
        have f0 := CellsAt.get0 g1
        have f1 := CellsAt.get g1 1 rfl
        have f2 := CellsAt.get g1 2 rfl
        have f3 := CellsAt.get g1 3 rfl
        have f4 := CellsAt.get g1 4 rfl
        have f5 := CellsAt.get g1 5 rfl
        have f6 := CellsAt.get g1 6 rfl
        have f7 := CellsAt.get g1 7 rfl
        have f8 := CellsAt.get g1 8 rfl
        have f9 := CellsAt.get g1 9 rfl
        have f10 := CellsAt.get g1 10 rfl
        rw [nz_map_drop _ l.l j x hx] at hck
        obtain ⟨c, hc⟩ : ∃ c, checkL x = c := ⟨_, rfl⟩
        rw [hc] at HX hck
        have HCK := Lib.hid hck
        have HBL := Lib.hid hbel
        have HBW := Lib.hid hbw
        clear hxc g1 hxa hx hck hc hbel hbw xhim xhom xhrm xhnm xhlm xhex xhpi xhpo xhpr xhpn xhpl d10 HR3
        go_wp2_with fail
        refine (HX.out _ (HBW.out.to_alloc _)).mono ?_
        rintro e4 w4 ⟨rfl, hb4⟩
        have HB4 := Lib.hid (HBL.out.trans ((Bel.alloc _ _).trans hb4))
        clear hb4 HX f0 f1 f2 f3 f4 f5 f6 f7 f8 f9 f10
        by_cases hc0 : c = 0
        · subst hc0
          go_wp2_with fail
          exact ⟨⟨j + 1, by omega, by go_num, HB4.out, by have := HCK.out; simpa using this⟩, by simp [intOf]; omega⟩
        · have hc2 : ((c : Int) == 0) = false := by simpa using hc0
          have hc3 : ((c : Int) != 0) = true := by simpa using hc0
          have HF : Hid (c = R) := Lib.hid (by have := HCK.out; rwa [if_neg hc0] at this)
          clear hc0 HCK
          go_wp2_with fail
          go_ret
          exact ⟨ret_int (by rw [HF.out]), HB3.out.trans HB4.out⟩
      · obtain rfl : j = lm := by omega
        rw [nz_map_end _ _ _ (by have := HLM.out; omega)] at hck
        subst hck
        clear HR3
        go_wp2_with fail
        go_ret
        exact ⟨rfl, HB3.out.trans hbel⟩
set_option maxRecDepth 100000 in
set_option maxHeartbeats 4000000 in
theorem check_lx (l : Lg) (q : LgQ) (w : World) (hE : EnvX w) (hP : PolAt w) (hb : l.bulk ≤ 1073741824) (hat : LgAt w l q) :
    Calls Tryz.prog 8 #[lgV l q] w (RetBel (.int .i64 (CheckL l)) w) := by
  have hat' := hat
  obtain ⟨nea, nen, nec, lea, len, lec, ia, im, ic, oa, om, oc, ra, rm, rc, na, nm, nc, la, lm, lc, rfl, ⟨him, hom, hrm, hnm, hlm⟩, ⟨hci, hco, hcr, hcn, hcl⟩, ⟨hbi, hbo, hbr, hbn, hbl⟩, hex, hpi, hpo, hpr, hpn, hpl⟩ := LgAt.opened hat
  unfold lgV
  dsimp only
  have HD : Hid (∀ W, Bel w W → Calls Tryz.prog 25 #[.agg #[.int .i64 l.k, .int .i64 l.e.k, .string l.e.s, .slice nea nen nec, .slice lea len lec, .string l.p, .slice ia im ic, .slice oa om oc, .slice ra rm rc, .slice na nm nc, .slice la lm lc], .int .i64 30] W (RetBel (.bool (deepL l 30)) W)) := Lib.hid fun W hW => ldeep_c l.bulk l (Nat.le_refl _) hb ⟨.slice nea nen nec, .slice lea len lec, .slice ia im ic, .slice oa om oc, .slice ra rm rc, .slice na nm nc, .slice la lm lc⟩ W 30 (by omega) (by omega) (LgAt.bel hW l hat')
  have HC : Hid (∀ W, Bel w W → Calls Tryz.prog 26 #[.agg #[.int .i64 l.k, .int .i64 l.e.k, .string l.e.s, .slice nea nen nec, .slice lea len lec, .string l.p, .slice ia im ic, .slice oa om oc, .slice ra rm rc, .slice na nm nc, .slice la lm lc]] W (RetBel (.int .i64 (checkL l)) W)) := Lib.hid fun W hW => check_l l.bulk l (Nat.le_refl _) hb ⟨.slice nea nen nec, .slice lea len lec, .slice ia im ic, .slice oa om oc, .slice ra rm rc, .slice na nm nc, .slice la lm lc⟩ W (hE.bel hW) (hP.bel hW) (LgAt.bel hW l hat')
  obtain ⟨d, hd⟩ : ∃ d, deepL l 30 = d := ⟨_, rfl⟩
  obtain ⟨c, hc⟩ : ∃ c, checkL l = c := ⟨_, rfl⟩
  have hR : CheckL l = if d = true then 9 else c := by unfold CheckL; rw [hd, hc]
  rw [hd] at HD
  rw [hc] at HC
  rw [hR]
  have t0 := Blk.new w 30 [.int .i64 l.k, .int .i64 l.e.k, .string l.e.s, .slice nea nen nec, .slice lea len lec, .string l.p, .slice ia im ic, .slice oa om oc, .slice ra rm rc, .slice na nm nc, .slice la lm lc]
  have T0 := Lib.hid t0
  clear him hom hrm hnm hlm hex hpi hpo hpr hpn hpl hat hat' hR hE hP hd hc t0
  cases d with
  | true =>
    go_enter Tryz.func8, Tryz.ntmps8
    go_wp2_with fail
    refine (HD.out _ (Bel.alloc _ _)).mono ?_
    rintro e1 w1 ⟨rfl, hb1⟩
    go_wp2_with fail
    go_ret
    exact ⟨rfl, by (repeat (first | exact Bel.refl _ | assumption | refine Bel.to_drewN ?_ _ | refine Bel.to_drew ?_ | refine Bel.to_setCell ?_ (by first | exact Nat.le_refl _ | (simp; done) | (simp; omega) | omega) _ | refine Bel.to_alloc ?_ _ | refine Bel.trans ?_ (by assumption)))⟩
  | false =>
    go_enter Tryz.func8, Tryz.ntmps8
    go_wp2_with fail
    refine (HD.out _ (Bel.alloc _ _)).mono ?_
    rintro e1 w1 ⟨rfl, hb1⟩
    have t1 := T0.out.bel hb1
    have c0 := Blk.at t1 0
    have c1 := Blk.at t1 1
    have c2 := Blk.at t1 2
    have c3 := Blk.at t1 3
    have c4 := Blk.at t1 4
    have c5 := Blk.at t1 5
    have c6 := Blk.at t1 6
    have c7 := Blk.at t1 7
    have c8 := Blk.at t1 8
    have c9 := Blk.at t1 9
    have c10 := Blk.at t1 10
    clear t1
    go_wp2_with fail
    refine (HC.out _ (by (repeat (first | exact Bel.refl _ | assumption | refine Bel.to_drewN ?_ _ | refine Bel.to_drew ?_ | refine Bel.to_setCell ?_ (by first | exact Nat.le_refl _ | (simp; done) | (simp; omega) | omega) _ | refine Bel.to_alloc ?_ _ | refine Bel.trans ?_ (by assumption))))).mono ?_
    rintro e2 w2 ⟨rfl, hb2⟩
    go_wp2_with fail
    go_ret
    exact ⟨rfl, by (repeat (first | exact Bel.refl _ | assumption | refine Bel.to_drewN ?_ _ | refine Bel.to_drew ?_ | refine Bel.to_setCell ?_ (by first | exact Nat.le_refl _ | (simp; done) | (simp; omega) | omega) _ | refine Bel.to_alloc ?_ _ | refine Bel.trans ?_ (by assumption)))⟩
end Go.Proofs.YtchbhcjhoocjaaaGreatDoor
