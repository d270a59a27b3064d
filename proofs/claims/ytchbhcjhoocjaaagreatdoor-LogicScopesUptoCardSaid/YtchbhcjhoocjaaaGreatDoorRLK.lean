/-
  logic: the walks of the document's within, Scoped.
-/
import Derived.Test.YtchbhcjhoocjaaaGreatDoorRLJ
namespace Go.Proofs.YtchbhcjhoocjaaaGreatDoor
open Go.RowKit

set_option maxRecDepth 100000 in
set_option maxHeartbeats 8000000 in
theorem rwithinL_c (l : Lg) (q : LgQ) (i : Nat) (v : Value) (N M : List ByteArray) (w : World) (hat : LgAt w l q) (hb : l.bulk ≤ 1073741824) (hi : l.k = 2 → i < l.ns.length) (hv : RowAt0 w v (strsV N)) (hs : Srt N) (hN : N.length ≤ 1073741824)
    (hM : (l.k = 2 → withS N (l.ns.take i) = (some M, 0)) ∧ (¬ l.k = 2 → M = N)) :
    Calls Tryz.prog 51 #[lgV l q, .int .i64 i, v] w fun e w' => ∃ v', e = .returned v' ∧ RowAt0 w' v' (strsV M) ∧ Bel w w' := by
  obtain ⟨nea, nen, nec, lea, len, lec, ia, im, ic, oa, om, oc, ra, rm, rc, na, nm, nc, la, lm, lc, rfl, ⟨him, hom, hrm, hnm, hlm⟩, ⟨hci, hco, hcr, hcn, hcl⟩, ⟨hbi, hbo, hbr, hbn, hbl⟩, hex, hpi, hpo, hpr, hpn, hpl⟩ := LgAt.opened hat
  unfold lgV
  dsimp only
  obtain ⟨va, vc, rfl, _⟩ := row0_form hv N.length (strsV_length N)
  have hbe := lbulk_eq l
  obtain ⟨k, hk⟩ : ∃ k, l.k = k := ⟨_, rfl⟩
  rw [hk] at hi hM ⊢
  have HV := Lib.hid hv
  obtain ⟨V1, h1, k1, l1, s1⟩ := alloc_step w 30 [.int .i64 k, .int .i64 l.e.k, .string l.e.s, .slice nea nen nec, .slice lea len lec, .string l.p, .slice ia im ic, .slice oa om oc, .slice ra rm rc, .slice na nm nc, .slice la lm lc]
  have HV1 := Lib.hid h1
  have HB0 := Lib.hid l1
  by_cases h2 : k = 2
  · subst h2
    have hin := hi rfl
    rw [hnm] at hin
    have hw := hM.1 rfl
    obtain ⟨b, off, hna, hdrop⟩ := hpn 0 _ (List.getElem?_eq_getElem (by omega : 0 < l.ns.length))
    clear hdrop
    have HRW := Lib.hid (fun W (hW : Bel w W) => rwith_c (.slice va N.length vc) N (.slice na i nc) (l.ns.take i) W hs (hv.bel hW) (by omega) (row_take (hpn.bel hW) hnm hin hcn) (by rw [List.length_take]; omega) (fun x hx => by have := mem_sumS l.ns x (List.mem_of_mem_take hx); omega))
    rw [hw] at HRW
    subst hna
    have c0 := k1.at 0
    have c9 := k1.at 9
    have g1 : (0 : Int) ≤ i := by omega
    have g2 : (i : Int) ≤ nc := by omega
    clear him hom hrm hnm hlm hex hpi hpo hpr hpn hpl hat hbe hi hM hv hw hk h1 k1 l1 s1 hs hin
    go_enter Tryz.func51, Tryz.ntmps51
    go_upto_region 1 with fail
    rw [show w.alloc (.cells #[.int .i64 2, .int .i64 l.e.k, .string l.e.s, .slice nea nen nec, .slice lea len lec, .string l.p, .slice ia im ic, .slice oa om oc, .slice ra rm rc, .slice (some ⟨b, off, none⟩) nm nc, .slice la lm lc] 30) = V1 from HV1.out]
    clear HV1
    go_wp2_with fail
    refine (HRW.out _ HB0.out).mono ?_
    rintro e2 w2 ⟨hb2, v2, rfl, hr2⟩
    have HR2 := Lib.hid hr2
    have HB2 := Lib.hid hb2
    clear hr2 hb2
    go_wp2_with fail
    go_ret
    exact ⟨_, rfl, HR2.out, HB0.out.trans HB2.out⟩
  · have hMN := hM.2 h2
    subst hMN
    have h3 : (k != 2) = true := by simpa using h2
    have h4 : (k == 2) = false := by simpa using h2
    have c0 := k1.at 0
    clear him hom hrm hnm hlm hex hpi hpo hpr hpn hpl hat hbe hi hM hv hk h1 k1 l1 s1 hs h2
    go_enter Tryz.func51, Tryz.ntmps51
    go_upto_region 1 with fail
    rw [show w.alloc (.cells #[.int .i64 k, .int .i64 l.e.k, .string l.e.s, .slice nea nen nec, .slice lea len lec, .string l.p, .slice ia im ic, .slice oa om oc, .slice ra rm rc, .slice na nm nc, .slice la lm lc] 30) = V1 from HV1.out]
    clear HV1
    go_wp2_with fail
    go_ret
    exact ⟨_, rfl, HV.out.bel HB0.out, HB0.out⟩

theorem okL_in {l : Lg} (hok : OkL l) {j : Nat} {y : Lg} (hy : l.l[j]? = some y) : l.k = 2 → j < l.ns.length := fun hk => by
  have h := (((OkL_eq l).1 hok).2.1 hk).1
  have := (List.getElem?_eq_some_iff.1 hy).1
  omega
theorem rinL_not {k : Int} {ns N : List ByteArray} {i : Nat} (h : ¬ k = 2) : rinL k ns N i = N := by unfold rinL; rw [if_neg h]

set_option maxRecDepth 100000 in
set_option maxHeartbeats 16000000 in
theorem rscoped_l : ∀ (n : Nat) (l : Lg), l.bulk ≤ n → n ≤ 1048576 → ∀ (q : LgQ) (v : Value) (N : List ByteArray) (w : World), OkL l → Srt N → FitL l N → LgAt w l q → RowAt0 w v (strsV N) →
    Calls Tryz.prog 22 #[lgV l q, v] w (RetBel (.int .i64 (rscL l N)) w) := by
  intro n
  induction n with
  | zero => intro l hl; exfalso; have := lbulk_pos l; omega
  | succ n ih =>
    intro l hl hn q v N w hok hs hf hat hv
    have hat' := hat
    have hNl := hf.len hs.nodup
    obtain ⟨va, vc, rfl, hvb⟩ := row0_form hv N.length (strsV_length N)
    obtain ⟨nea, nen, nec, lea, len, lec, ia, im, ic, oa, om, oc, ra, rm, rc, na, nm, nc, la, lm, lc, rfl, ⟨him, hom, hrm, hnm, hlm⟩, ⟨hci, hco, hcr, hcn, hcl⟩, ⟨hbi, hbo, hbr, hbn, hbl⟩, hex, hpi, hpo, hpr, hpn, hpl⟩ := LgAt.opened hat
    unfold lgV
    dsimp only
    have HPT : Hid (∀ W, Bel w W → Calls Tryz.prog 49 #[.agg #[.int .i64 l.k, .int .i64 l.e.k, .string l.e.s, .slice nea nen nec, .slice lea len lec, .string l.p, .slice ia im ic, .slice oa om oc, .slice ra rm rc, .slice na nm nc, .slice la lm lc]] W (RetExs (partsL l) W)) := Lib.hid fun W hW => rpartsL_c l ⟨.slice nea nen nec, .slice lea len lec, .slice ia im ic, .slice oa om oc, .slice ra rm rc, .slice na nm nc, .slice la lm lc⟩ W (LgAt.bel hW l hat') (by omega)
    have HEX := Lib.hid (fun (x : Ex) vn vl W (hx : x ∈ partsL l) (hW : Bel w W) (h1 : ExAt W x vn vl) => rscoped_e x.bulk x (Nat.le_refl _) (by have := part_bulk hx; omega) vn vl (.slice va N.length vc) N W (((OkL_eq l).1 hok).1 x hx) (by omega) h1 (hv.bel hW))
    have HWI : Hid (∀ (j : Nat) (y : Lg), l.l[j]? = some y → ∀ W, Bel w W → Calls Tryz.prog 51 #[.agg #[.int .i64 l.k, .int .i64 l.e.k, .string l.e.s, .slice nea nen nec, .slice lea len lec, .string l.p, .slice ia im ic, .slice oa om oc, .slice ra rm rc, .slice na nm nc, .slice la lm lc], .int .i64 j, .slice va N.length vc] W (fun e w' => ∃ v', e = .returned v' ∧ RowAt0 w' v' (strsV (rinL l.k l.ns N j)) ∧ Bel W w')) := Lib.hid fun j y hy W hW =>
      rwithinL_c l ⟨.slice nea nen nec, .slice lea len lec, .slice ia im ic, .slice oa om oc, .slice ra rm rc, .slice na nm nc, .slice la lm lc⟩ j _ N _ W (LgAt.bel hW l hat') (by omega) (okL_in hok hy) (hv.bel hW) hs (by omega) ⟨(rinL_fit hok hs hf hy).2.2.2, fun h => rinL_not h⟩
    have HKID := Lib.hid (fun (j : Nat) (y : Lg) (hy : l.l[j]? = some y) => rinL_fit hok hs hf hy)
    have HOK := Lib.hid hok
    have HIH : Hid (∀ (x : Lg), x.bulk < l.bulk → ∀ xq u M W, OkL x → Srt M → FitL x M → LgAt W x xq → RowAt0 W u (strsV M) → Calls Tryz.prog 22 #[lgV x xq, u] W (RetBel (.int .i64 (rscL x M)) W)) := Lib.hid fun x hx xq u M W h1 h2 h3 h4 h5 => ih x (by omega) (by omega) xq u M W h1 h2 h3 h4 h5
    obtain ⟨R, hR⟩ : ∃ R, rscL l N = R := ⟨_, rfl⟩
    rw [hR]
    rw [rscL_eq] at hR
    have HR := Lib.hid hR
    have HPL := Lib.hid hpl
    have HLM := Lib.hid hlm
    have hl2 : lm ≤ 1073741824 := by omega
    have hpl2 : (partsL l).length ≤ 1073741824 := by have := parts_len l; omega
    obtain ⟨V1, h1, k1, l1, s1⟩ := alloc_step w 30 [.int .i64 l.k, .int .i64 l.e.k, .string l.e.s, .slice nea nen nec, .slice lea len lec, .string l.p, .slice ia im ic, .slice oa om oc, .slice ra rm rc, .slice na nm nc, .slice la lm lc]
    have HV1 := Lib.hid h1
    have T0 := Lib.hid k1
    have HB0 := Lib.hid l1
    have c0 := Blk.at k1 0
    have c1 := Blk.at k1 1
    have c2 := Blk.at k1 2
    have c3 := Blk.at k1 3
    have c4 := Blk.at k1 4
    have c5 := Blk.at k1 5
    have c6 := Blk.at k1 6
    have c7 := Blk.at k1 7
    have c8 := Blk.at k1 8
    have c9 := Blk.at k1 9
    have c10 := Blk.at k1 10
    clear ih him hom hrm hnm hlm hex hpi hpo hpr hpn hpl hat hat' hR h1 k1 l1 s1 hok hs hf hv hvb
    go_enter Tryz.func22, Tryz.ntmps22
    go_upto_region 1 with fail
    rw [show w.alloc (.cells #[.int .i64 l.k, .int .i64 l.e.k, .string l.e.s, .slice nea nen nec, .slice lea len lec, .string l.p, .slice ia im ic, .slice oa om oc, .slice ra rm rc, .slice na nm nc, .slice la lm lc] 30) = V1 from HV1.out]
    clear HV1
    go_wp2_with fail
    refine (HPT.out _ HB0.out).mono ?_
    rintro e1 w1 ⟨pa, pn, pc, rfl, hpn, hpc, hpp, hb1⟩
    have HPP := Lib.hid hpp
    have HPN := Lib.hid hpn
    have HB1 := Lib.hid (HB0.out.trans hb1)
    have T1 := Lib.hid (T0.out.bel hb1)
    have hpn2 : pn ≤ 1073741824 := by omega
    clear hpp hb1 T0 c0 c1 c2 c3 c4 c5 c6 c7 c8 c9 c10 hpn hpl2 HPT
    go_wp2_with fail
    go_loopw [6] (fun i wr => ∃ j : Nat, j ≤ pn ∧ i = .int .i64 j ∧ Bel w1 wr ∧ (if nz (((partsL l).drop j).map fun x => rscE x N) = 0 then rscsL l.k l.ns 0 l.l N else nz (((partsL l).drop j).map fun x => rscE x N)) = R) (fun i _ => pn - (intOf i).toNat)
    case atStart => exact ⟨0, Nat.zero_le _, rfl, Bel.refl _, HR.out⟩
    case round =>
      obtain ⟨j, hj, rfl, hbel, hck⟩ := hrel
      have HBL := Lib.hid hbel
      by_cases hlt : j < pn
      · have hlti : (j : Int) < pn := by omega
        obtain ⟨x, hx⟩ : ∃ x, (partsL l)[j]? = some x := ⟨_, List.getElem?_eq_getElem (by have := HPN.out; omega)⟩
        obtain ⟨b, off, xna, xnn, xnc, xla, xln, xlc, rfl, g0, g1, g2, g3, hxa⟩ := HPP.out j x hx
        have hbw := HB1.out.trans hbel
        have f0 := hbel.keep g0
        have f1 := hbel.keep g1
        have f2 := hbel.keep g2
        have f3 := hbel.keep g3
        have HC := Lib.hid (HEX.out x _ _ wr (List.mem_of_getElem? hx) hbw (ExAt.bel hbel x hxa))
        rw [nz_map_drop _ (partsL l) j x hx] at hck
        obtain ⟨c, hc⟩ : ∃ c, rscE x N = c := ⟨_, rfl⟩
        rw [hc] at HC hck
        have HCK := Lib.hid hck
        clear g0 g1 g2 g3 hxa hx hck hbel hc hbw
        go_wp2_with fail
        refine HC.out.mono ?_
        rintro e2 w2 ⟨rfl, hb2⟩
        have HB2 := Lib.hid (HBL.out.trans hb2)
        clear hb2 HC f0 f1 f2 f3
        by_cases hc0 : c = 0
        · subst hc0
          go_wp2_with fail
          exact ⟨⟨j + 1, by omega, by go_num, HB2.out, by have := HCK.out; simpa using this⟩, by simp [intOf]; omega⟩
        · obtain ⟨z1, z2⟩ := nzf hc0
          have HF : Hid (c = R) := Lib.hid (by have := HCK.out; rwa [if_neg hc0, if_neg hc0] at this)
          clear hc0 HCK
          go_wp2_with fail
          go_ret
          exact ⟨ret_int (by rw [HF.out]), HB1.out.trans HB2.out⟩
      · have hjn : j = pn := by omega
        rw [nz_map_end _ _ _ (by have := HPN.out; omega), if_pos rfl] at hck
        have HR2 := Lib.hid hck
        have hpt : ¬ (j : Int) < pn := by omega
        obtain ⟨wo, rfl⟩ : ∃ W, W = wr := ⟨_, rfl⟩
        have HBO := Lib.hid (HB1.out.trans hbel)
        have T2 := Lib.hid (T1.out.bel hbel)
        clear hck hbel hlt hjn HR HPP HPN HEX hj
        go_wp2_with fail
        go_loopw [8] (fun i wr => ∃ j : Nat, j ≤ lm ∧ i = .int .i64 j ∧ Bel wo wr ∧ rscsL l.k l.ns j (l.l.drop j) N = R) (fun i _ => lm - (intOf i).toNat)
        case atStart => exact ⟨0, Nat.zero_le _, rfl, Bel.refl _, HR2.out⟩
        case round =>
          obtain ⟨j, hj, rfl, hbel, hck⟩ := hrel
          have t3 := T2.out.bel hbel
          have T3 := Lib.hid t3
          by_cases hlt : j < lm
          · have hlti : (j : Int) < lm := by omega
            obtain ⟨x, hx⟩ : ∃ x, l.l[j]? = some x := ⟨_, List.getElem?_eq_getElem (by have := HLM.out; omega)⟩
            obtain ⟨b, off, xq, rfl, hxc, hxa⟩ := HPL.out j x hx
            obtain ⟨hm1, hm2, hm3, _⟩ := HKID.out j x hx
            have hbw := HBO.out.trans hbel
            have HWJ := Lib.hid (HWI.out j x hx wr hbw)
            rw [rscsL_drop l.k l.ns l.l N j x hx] at hck
            have hsub : N ≠ [] → rinL l.k l.ns N j ≠ [] := fun h e => by
              obtain ⟨y, hy⟩ := List.exists_mem_of_ne_nil N h
              have := (hm3 y).2 (.inl hy)
              rw [e] at this; cases this
            obtain ⟨M, hM⟩ : ∃ M, rinL l.k l.ns N j = M := ⟨_, rfl⟩
            rw [hM] at hck hm1 hm2 HWJ hsub
            have HX := Lib.hid (fun u W (hW : Bel w W) (hu : RowAt0 W u (strsV M)) => HIH.out x (lbulk_part hx) xq u M W (HOK.out.part hx) hm1 hm2 (LgAt.bel hW x hxa) hu)
            have HXC := Lib.hid (fun W (hW : Bel w W) => hxc.bel hW)
            obtain ⟨xnea, xnen, xnec, xlea, xlen, xlec, xia, xim, xic, xoa, xom, xoc, xra, xrm, xrc, xna, xnm, xnc, xla, xlm, xlc, rfl, ⟨xhim, xhom, xhrm, xhnm, xhlm⟩, ⟨xhci, xhco, xhcr, xhcn, xhcl⟩, ⟨xhbi, xhbo, xhbr, xhbn, xhbl⟩, xhex, xhpi, xhpo, xhpr, xhpn, xhpl⟩ := LgAt.opened hxa
            unfold lgV at HX
            dsimp only at HX
            obtain ⟨c, hc⟩ : ∃ c, rscL x M = c := ⟨_, rfl⟩
            rw [hc] at HX hck
            have HCK := Lib.hid hck
            have HBL := Lib.hid hbel
            have HBW := Lib.hid hbw
            have HSUB := Lib.hid hsub
            have c0 := Blk.at t3 0
            have c1 := Blk.at t3 1
            have c2 := Blk.at t3 2
            have c3 := Blk.at t3 3
            have c4 := Blk.at t3 4
            have c5 := Blk.at t3 5
            have c6 := Blk.at t3 6
            have c7 := Blk.at t3 7
            have c8 := Blk.at t3 8
            have c9 := Blk.at t3 9
            have c10 := Blk.at t3 10
            clear hxc hxa hx hck hc hbel hbw hm1 hm2 hm3 hM hsub t3 xhim xhom xhrm xhnm xhlm xhex xhpi xhpo xhpr xhpn xhpl xhbi xhbo xhbr xhbn xhbl xhci xhco xhcr xhcn xhcl HR2
            go_wp2_with fail
            refine HWJ.out.mono ?_
            rintro e4 w4 ⟨v4, rfl, hr4, hb4⟩
            obtain ⟨ma, mc, rfl, hma⟩ := row0_form hr4 M.length (strsV_length M)
            have d10 := hb4.keep c10
            have g1 := HXC.out w4 (HBW.out.trans hb4)
            unfold lgC at g1
            have f0 := CellsAt.get0 g1
            have f1 := CellsAt.get g1 1 rfl
            have f2 := CellsAt.get g1 2 rfl
            have f3 := CellsAt.get g1 3 rfl
            have f4 := CellsAt.get g1 4 rfl
            have f5 := CellsAt.get g1 5 rfl
            have f6 := CellsAt.get g1 6 rfl
            have f7 := CellsAt.get g1 7 rfl
            have f8 := CellsAt.get g1 8 rfl
            have f9 := CellsAt.get g1 9 rfl
            have f10 := CellsAt.get g1 10 rfl
            have HX4 := Lib.hid (HX.out _ w4 (HBW.out.trans hb4) hr4)
            have HB4 := Lib.hid (HBL.out.trans hb4)
            have hnone : ma = none → ¬ (0 : Int) < (N.length : Int) := fun h => by
              subst h
              intro hpos
              have hne := HSUB.out (fun e => by rw [e] at hpos; simp at hpos)
              obtain ⟨b, off, e, _⟩ := hma (by cases M with | nil => exact absurd rfl hne | cons a r => simp)
              cases e
            have HNO := Lib.hid hnone
            clear c0 c1 c2 c3 c4 c5 c6 c7 c8 c9 c10 hr4 hb4 hma g1 HX HXC HWJ HSUB hnone
            go_upto_region 12 with fail
            go_cut [45] (fun v wx => v = .bool false ∧ w4 = wx)
            case first =>
              cases ma with
              | none =>
                have hno := HNO.out rfl
                have hno2 : ¬ 0 < N.length := by omega
                clear HNO
                have heq : ∀ W, (binOp .eql 23 (.slice none M.length mc) (.slice none 0 0)).run Tryz.prog W = .ok (.bool true) W := fun _ => rfl
                go_wp2_with fail
                go_meet
                exact ⟨rfl, rfl⟩
              | some a =>
                clear HNO
                have heq : ∀ W, (binOp .eql 23 (.slice (some a) M.length mc) (.slice none 0 0)).run Tryz.prog W = .ok (.bool false) W := fun _ => rfl
                go_wp2_with fail
                go_meet
                exact ⟨rfl, rfl⟩
            case rest =>
            obtain ⟨rfl, rfl⟩ := hcut
            go_wp2_with fail
            refine HX4.out.mono ?_
            rintro e5 w5 ⟨rfl, hb5⟩
            have HB5 := Lib.hid (HB4.out.trans hb5)
            clear hb5 HX4 HNO d10 f0 f1 f2 f3 f4 f5 f6 f7 f8 f9 f10
            by_cases hc0 : c = 0
            · subst hc0
              go_wp2_with fail
              exact ⟨⟨j + 1, by omega, by go_num, HB5.out, by have := HCK.out; simpa using this⟩, by simp [intOf]; omega⟩
            · obtain ⟨z1, z2⟩ := nzf hc0
              have HF : Hid (c = R) := Lib.hid (by have := HCK.out; rwa [if_neg hc0] at this)
              clear hc0 HCK
              go_wp2_with fail
              go_ret
              exact ⟨ret_int (by rw [HF.out]), HBO.out.trans HB5.out⟩
          · have hjn : j = lm := by omega
            rw [rscsL_end _ _ _ _ _ (by have := HLM.out; omega)] at hck
            subst hck
            have c10 := t3.at 10
            have hpt2 : ¬ (j : Int) < lm := by omega
            have HBF := Lib.hid (HBO.out.trans hbel)
            clear HR2 hlt hjn t3 hbel
            go_wp2_with fail
            go_ret
            exact ⟨rfl, HBF.out⟩
end Go.Proofs.YtchbhcjhoocjaaaGreatDoor
