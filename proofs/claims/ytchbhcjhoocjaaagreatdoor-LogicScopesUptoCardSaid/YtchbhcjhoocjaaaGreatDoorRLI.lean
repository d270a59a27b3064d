/-
  logic: the walks of the document's Depth, check, Check.
-/
import Derived.Test.YtchbhcjhoocjaaaGreatDoorRLH
import Derived.Test.YtchbhcjhoocjaaaGreatDoorAPG
namespace Go.Proofs.YtchbhcjhoocjaaaGreatDoor
open Go.RowKit

set_option maxRecDepth 100000 in
set_option maxHeartbeats 8000000 in
theorem rdepth_l : ∀ (n : Nat) (l : Lg), l.bulk ≤ n → n ≤ 1073741824 → ∀ (q : LgQ) (w : World) (t : Int), 0 ≤ t → t ≤ 1099511627776 → LgAt w l q →
    Calls Tryz.prog 44 #[lgV l q, .int .i64 t] w (RetNat (fun d => d = min (dL l) (t.toNat + 1)) w) := by
  intro n
  induction n with
  | zero => intro e he; exfalso; have := lbulk_pos e; omega
  | succ n ih =>
    intro e he hn q w t ht1 ht2 hat
    obtain ⟨nea, nen, nec, lea, len, lec, ia, im, ic, oa, om, oc, ra, rm, rc, na, nm, nc, la, lm, lc, rfl, ⟨him, hom, hrm, hnm, hlm⟩, ⟨hci, hco, hcr, hcn, hcl⟩, ⟨hbi, hbo, hbr, hbn, hbl⟩, hex, hpi, hpo, hpr, hpn, hpl⟩ := LgAt.opened hat
    unfold lgV
    dsimp only
    have PS := Lib.hid hpl
    have HM := Lib.hid hlm
    have HD := Lib.hid (dL_eq e)
    have HIH : Hid (∀ (x : Lg), x.bulk < e.bulk → ∀ xq W T, 0 ≤ T → T ≤ 1099511627776 → LgAt W x xq → Calls Tryz.prog 44 #[lgV x xq, .int .i64 T] W (RetNat (fun d => d = min (dL x) (T.toNat + 1)) W)) := Lib.hid fun x hx xq W T h1 h2 h3 => ih x (by omega) (by omega) xq W T h1 h2 h3
    have hm2 : lm ≤ 1073741824 := by omega
    obtain ⟨W0, z0, t0, hb0, s0⟩ := alloc_step w 30 [.int .i64 e.k, .int .i64 e.e.k, .string e.e.s, .slice nea nen nec, .slice lea len lec, .string e.p, .slice ia im ic, .slice oa om oc, .slice ra rm rc, .slice na nm nc, .slice la lm lc]
    have T0 := Lib.hid t0
    have B0 := Lib.hid hb0
    have HZ := Lib.hid z0
    clear ih him hom hrm hnm hlm hex hpi hpo hpr hpn hpl hat t0 hb0 z0 s0
    go_enter Tryz.func44, Tryz.ntmps44
    go_upto_region 1 with fail
    rw [show w.alloc (.cells #[.int .i64 e.k, .int .i64 e.e.k, .string e.e.s, .slice nea nen nec, .slice lea len lec, .string e.p, .slice ia im ic, .slice oa om oc, .slice ra rm rc, .slice na nm nc, .slice la lm lc] 30) = W0 from HZ.out]
    clear HZ
    go_wp2_with fail
    go_loopw [5, 6] (fun d i wr => ∃ j q : Nat, j ≤ lm ∧ i = .int .i64 j ∧ d = .int .i64 q ∧ q = min (dsL (e.l.take j)) t.toNat ∧ Bel W0 wr) (fun _ i _ => lm - (intOf i).toNat)
    case atStart => exact ⟨0, 0, Nat.zero_le _, rfl, rfl, by rw [List.take_zero]; unfold dsL; omega, Bel.refl _⟩
    case round =>
      obtain ⟨j, q, hj, rfl, rfl, hq, hbel⟩ := hrel
      have c10 : wr.cell? ⟨w.heap.size, 10, none⟩ = some (.slice la lm lc) := (T0.out.bel hbel).at 10
      have hqt : (q : Int) ≤ t := by omega
      have HQ := Lib.hid hq
      have HB := Lib.hid hbel
      clear hq hbel
      by_cases hlt : j < lm
      · have hlti : (j : Int) < lm := by omega
        by_cases ht0 : 0 < t
        · obtain ⟨x, hx⟩ : ∃ x, e.l[j]? = some x := ⟨_, List.getElem?_eq_getElem (by have := HM.out; omega)⟩
          obtain ⟨b, off, xq, rfl, hxc, hxa⟩ := PS.out j x hx
          have hxb := lbulk_part hx
          have g1 := hxc.bel (B0.out.trans HB.out)
          have HC := Lib.hid (HIH.out x hxb xq wr (t - 1) (by omega) (by omega) (LgAt.bel (B0.out.trans HB.out) x hxa))
          obtain ⟨xnea, xnen, xnec, xlea, xlen, xlec, xia, xim, xic, xoa, xom, xoc, xra, xrm, xrc, xna, xnm, xnc, xla, xlm, xlc, rfl, ⟨xhim, xhom, xhrm, xhnm, xhlm⟩, ⟨xhci, xhco, xhcr, xhcn, xhcl⟩, ⟨xhbi, xhbo, xhbr, xhbn, xhbl⟩, xhex, xhpi, xhpo, xhpr, xhpn, xhpl⟩ := LgAt.opened hxa
          unfold lgV at HC
          dsimp only at HC
          have f0 := CellsAt.get0 g1
          have f1 := CellsAt.get g1 1 rfl
          have f2 := CellsAt.get g1 2 rfl
          have f3 := CellsAt.get g1 3 rfl
          have f4 := CellsAt.get g1 4 rfl
          have f5 := CellsAt.get g1 5 rfl
          have f6 := CellsAt.get g1 6 rfl
          have f7 := CellsAt.get g1 7 rfl
          have f8 := CellsAt.get g1 8 rfl
          have f9 := CellsAt.get g1 9 rfl
          have f10 := CellsAt.get g1 10 rfl
          have HT := Lib.hid (dsL_take e.l j x hx)
          clear hxc g1 hxa hxb hx xhim xhom xhrm xhnm xhlm xhex xhpi xhpo xhpr xhpn xhpl xhbi xhbo xhbr xhbn xhbl xhci xhco xhcr xhcn xhcl
          go_wp2_with fail
          refine HC.out.mono ?_
          rintro e2 w2 ⟨d, rfl, hd, hb2⟩
          have HDD := Lib.hid hd
          have hdt : (d : Int) ≤ t := by omega
          clear hd f0 f1 f2 f3 f4 f5 f6 f7 f8 f9 f10
          go_wp2_with fail
          · exact ⟨⟨j + 1, d, by omega, by go_num, rfl, by rw [HT.out]; have := HDD.out; have := HQ.out; omega, HB.out.trans hb2⟩, by simp [intOf]; omega⟩
          · exact ⟨⟨j + 1, q, by omega, by go_num, rfl, by rw [HT.out]; have := HDD.out; have := HQ.out; omega, HB.out.trans hb2⟩, by simp [intOf]; omega⟩
        · have ht3 : t ≤ 0 := by omega
          go_wp2_with fail
          go_ret
          exact ⟨q + 1, ret_int (by omega), by have := HQ.out; have := HD.out; omega, B0.out.trans HB.out⟩
      · obtain rfl : j = lm := by omega
        have hfin := HQ.out
        rw [List.take_of_length_le (by rw [HM.out]; exact Nat.le_refl _)] at hfin
        have HF := Lib.hid hfin
        clear hfin
        go_wp2_with fail
        go_ret
        exact ⟨q + 1, ret_int (by omega), by have := HF.out; have := HD.out; omega, B0.out.trans HB.out⟩

theorem rnames_v (l : List ByteArray) (v : Value) (op : Bool) (w : World) (hn2 : l.length ≤ 1073741824) (hs : ∀ x ∈ l, x.size ≤ 1073741824) (hv : RowAt0 w v (strsV l)) :
    Calls Tryz.prog 82 #[v, .bool op] w (RetBel (.int .i64 (rnamedS l op)) w) := by
  obtain ⟨a, c, rfl, _⟩ := row0_form hv l.length (strsV_length l)
  obtain ⟨_, h2, h3⟩ := names_of_row0 hv
  exact rnames_c l a l.length c op w rfl h2 hn2 hs h3
theorem rown_form_eq {l : Lg} (h0 : 0 ≤ l.k ∧ l.k ≤ 3) (hf : formL l = true) : rownL l = nz (rfourL l) := by
  unfold rownL; rw [if_neg (by simpa using h0), if_neg (by rw [hf]; simp)]
/-- A number that may be wrong. -/
theorem nzf {c : Nat} (h : ¬ c = 0) : ((c : Int) == 0) = false ∧ ((c : Int) != 0) = true := ⟨by simpa using h, by simpa using h⟩
theorem exs_box {W : World} {b : Nat} {e : Ex} {vn vl : Value} (hb : Blk W b 26 [.int .i64 e.k, .string e.s, vn, vl]) (hx : ExAt W e vn vl) : PartsAt W (some ⟨b, 0, none⟩) [e] := by
  obtain ⟨na, la, nn, nc, m, lc, rfl, rfl, _⟩ := hx.opened
  intro j x hj
  match j, hj with
  | 0, hj =>
    cases hj
    exact ⟨b, 0, na, nn, nc, la, m, lc, rfl, hb.at 0, hb.at 1, hb.at 2, hb.at 3, hx⟩
  | j + 1, hj => cases hj

set_option maxRecDepth 100000 in
set_option maxHeartbeats 16000000 in
theorem rcheck_l : ∀ (n : Nat) (l : Lg), l.bulk ≤ n → n ≤ 1073741820 → ∀ (q : LgQ) (w : World), LgAt w l q →
    Calls Tryz.prog 45 #[lgV l q] w (RetBel (.int .i64 (rcheckL l)) w) := by
  intro n
  induction n with
  | zero => intro l hl; exfalso; have := lbulk_pos l; omega
  | succ n ih =>
    intro l hl hn q w hat
    have hat' := hat
    have hbe := lbulk_eq l
    obtain ⟨nea, nen, nec, lea, len, lec, ia, im, ic, oa, om, oc, ra, rm, rc, na, nm, nc, la, lm, lc, rfl, ⟨him, hom, hrm, hnm, hlm⟩, ⟨hci, hco, hcr, hcn, hcl⟩, ⟨hbi, hbo, hbr, hbn, hbl⟩, hex, hpi, hpo, hpr, hpn, hpl⟩ := LgAt.opened hat
    unfold lgV
    dsimp only
    have HFORM : Hid (∀ W, Bel w W → Calls Tryz.prog 81 #[.agg #[.int .i64 l.k, .int .i64 l.e.k, .string l.e.s, .slice nea nen nec, .slice lea len lec, .string l.p, .slice ia im ic, .slice oa om oc, .slice ra rm rc, .slice na nm nc, .slice la lm lc]] W (RetBel (.bool (formL l)) W)) := Lib.hid fun W hW => rform_c l ⟨.slice nea nen nec, .slice lea len lec, .slice ia im ic, .slice oa om oc, .slice ra rm rc, .slice na nm nc, .slice la lm lc⟩ W (LgAt.bel hW l hat') (by omega)
    have HNAM := Lib.hid (fun v op W (hv : RowAt0 W v (strsV (l.ns ++ l.outs))) => rnames_v (l.ns ++ l.outs) v op W (by rw [List.length_append]; have := len_sumS l.ns; have := len_sumS l.outs; omega) (fun x hx => by
      rcases List.mem_append.1 hx with h | h
      · have := mem_sumS l.ns x h; omega
      · have := mem_sumS l.outs x h; omega) hv)
    have HX1 := Lib.hid (fun b W (hW : Bel w W) (hb : Blk W b 26 [.int .i64 l.e.k, .string l.e.s, .slice nea nen nec, .slice lea len lec]) => rexprs_c [l.e] (some ⟨b, 0, none⟩) 1 1 W rfl (by omega) (fun x hx => by rw [List.mem_singleton.1 hx]; omega) (exs_box hb (ExAt.bel hW _ hex)))
    have HX2 := Lib.hid (fun W (hW : Bel w W) => rexprs_c l.ins ia im ic W him (by omega) (ex_mem_bulk (by omega)) (hpi.bel hW))
    have HX3 : Hid (∀ W, Bel w W → Calls Tryz.prog 84 #[.agg #[.int .i64 l.k, .int .i64 l.e.k, .string l.e.s, .slice nea nen nec, .slice lea len lec, .string l.p, .slice ia im ic, .slice oa om oc, .slice ra rm rc, .slice na nm nc, .slice la lm lc]] W (RetBel (.int .i64 (rusE l.ins.length l.outs.length l.rs)) W)) := Lib.hid fun W hW => rrulesL_c l ⟨.slice nea nen nec, .slice lea len lec, .slice ia im ic, .slice oa om oc, .slice ra rm rc, .slice na nm nc, .slice la lm lc⟩ W (LgAt.bel hW l hat') (by omega)
    have HIH : Hid (∀ (x : Lg), x.bulk < l.bulk → ∀ xq W, LgAt W x xq → Calls Tryz.prog 45 #[lgV x xq] W (RetBel (.int .i64 (rcheckL x)) W)) := Lib.hid fun x hx xq W h3 => ih x (by omega) (by omega) xq W h3
    have HRN := Lib.hid (fun W (hW : Bel w W) => news_names (hpn.bel hW))
    have HRO := Lib.hid (fun W (hW : Bel w W) => news_names (hpo.bel hW))
    obtain ⟨R, hR⟩ : ∃ R, rcheckL l = R := ⟨_, rfl⟩
    rw [hR]
    rw [rcheckL_eq] at hR
    have HR := Lib.hid hR
    have HPL := Lib.hid hpl
    have HLM := Lib.hid hlm
    have HNM := Lib.hid hnm
    have HOM := Lib.hid hom
    have HOF := Lib.hid (rown_form_eq (l := l))
    have hn2 : nm ≤ 1073741824 := by omega
    have ho2 : om ≤ 1073741824 := by omega
    have hl2 : lm ≤ 1073741824 := by omega
    obtain ⟨k, hk⟩ : ∃ k, l.k = k := ⟨_, rfl⟩
    rw [hk] at HFORM HOF HX3 ⊢
    have HK := Lib.hid hk
    obtain ⟨V1, h1, k1, l1, s1⟩ := alloc_step w 30 [.int .i64 k, .int .i64 l.e.k, .string l.e.s, .slice nea nen nec, .slice lea len lec, .string l.p, .slice ia im ic, .slice oa om oc, .slice ra rm rc, .slice na nm nc, .slice la lm lc]
    have HV1 := Lib.hid h1
    have T0 := Lib.hid k1
    have HB0 := Lib.hid l1
    have c0 := Blk.at k1 0
    have c1 := Blk.at k1 1
    have c2 := Blk.at k1 2
    have c3 := Blk.at k1 3
    have c4 := Blk.at k1 4
    have c5 := Blk.at k1 5
    have c6 := Blk.at k1 6
    have c7 := Blk.at k1 7
    have c8 := Blk.at k1 8
    have c9 := Blk.at k1 9
    have c10 := Blk.at k1 10
    clear ih him hom hrm hnm hlm hex hpi hpo hpr hpn hpl hat hat' hR hk h1 k1 l1 s1 hbe
    go_enter Tryz.func45, Tryz.ntmps45
    go_upto_region 1 with fail
    rw [show w.alloc (.cells #[.int .i64 k, .int .i64 l.e.k, .string l.e.s, .slice nea nen nec, .slice lea len lec, .string l.p, .slice ia im ic, .slice oa om oc, .slice ra rm rc, .slice na nm nc, .slice la lm lc] 30) = V1 from HV1.out]
    clear HV1
    by_cases hk03 : 0 ≤ k ∧ k ≤ 3
    rotate_left 1
    · have HF : Hid (2 = R) := Lib.hid (by
        have h := HR.out
        have h2 : rownL l = 2 := by unfold rownL; rw [if_pos (by rw [HK.out]; exact hk03)]
        rw [h2] at h; simpa using h)
      by_cases hk0 : k < 0
      · clear hk03
        go_wp2_with fail
        go_ret
        exact ⟨ret_int (by rw [← HF.out]; rfl), HB0.out⟩
      · have hk3 : 3 < k := by omega
        clear hk03
        go_wp2_with fail
        go_ret
        exact ⟨ret_int (by rw [← HF.out]; rfl), HB0.out⟩
    obtain ⟨hk0, hk3⟩ := hk03
    have hk0n : ¬ k < 0 := by omega
    have hk3n : ¬ 3 < k := by omega
    go_wp2_with fail
    refine (HFORM.out _ HB0.out).mono ?_
    rintro e1 w1 ⟨rfl, hb1⟩
    obtain ⟨f, hf⟩ : ∃ f, formL l = f := ⟨_, rfl⟩
    rw [hf]
    have t1 := T0.out.bel hb1
    have T1 := Lib.hid t1
    have HB1 := Lib.hid (HB0.out.trans hb1)
    clear HFORM T0 HB0 hb1 c0 c1 c2 c3 c4 c5 c6 c7 c8 c9 c10
    cases f with
    | false =>
      have HF : Hid (17 = R) := Lib.hid (by
        have h := HR.out
        have h2 : rownL l = 17 := by unfold rownL; rw [if_neg (by rw [HK.out]; simp; omega), if_pos hf]
        rw [h2] at h; simpa using h)
      clear t1 hf
      go_wp2_with fail
      go_ret
      exact ⟨ret_int (by rw [← HF.out]; rfl), HB1.out⟩
    | true =>
    have hO := HOF.out ⟨hk0, hk3⟩ hf
    obtain ⟨y, hy⟩ : ∃ y, (k == 2) = y := ⟨_, rfl⟩
    have hyd : decide (l.k = 2) = y := by rw [HK.out, ← hy]; rw [Bool.eq_iff_iff]; simp
    unfold rfourL at hO
    rw [hyd, HK.out] at hO
    obtain ⟨n1, hn1⟩ : ∃ n, rnamedS (l.ns ++ l.outs) y = n := ⟨_, rfl⟩
    obtain ⟨n2, hn2'⟩ : ∃ n, exprsE [l.e] = n := ⟨_, rfl⟩
    obtain ⟨n3, hn3⟩ : ∃ n, exprsE l.ins = n := ⟨_, rfl⟩
    obtain ⟨n4, hn4⟩ : ∃ n, rusE l.ins.length l.outs.length l.rs = n := ⟨_, rfl⟩
    have hnam := fun v W hv => HNAM.out v y W hv
    rw [hn1] at hnam hO
    rw [hn2'] at HX1 hO
    rw [hn3] at HX2 hO
    rw [hn4] at HX3 hO
    have hR2 := HR.out
    rw [hO] at hR2
    have HR2 := Lib.hid hR2
    have HNA := Lib.hid hnam
    have hd0 := t1.at 0
    have d7 := t1.at 7
    have d9 := t1.at 9
    clear HOF HNAM HR hf t1 hO hyd hn1 hn2' hn3 hn4 hR2 hnam
    go_wp2_with fail
    refine wp_region_held_drew (S := fun w' => Bel w1 w') (by kernel_rfl) (by (repeat (first | exact Bel.refl _ | assumption | refine Bel.to_drewN ?_ _ | refine Bel.to_drew ?_ | refine Bel.to_setCell ?_ (by first | exact Nat.le_refl _ | (simp; done) | (simp; omega) | omega) _ | refine Bel.to_alloc ?_ _ | refine Bel.trans ?_ (by assumption)))) (fun hHeld => ?_)
    refine tk 1 (v := ?_) ?_ ?_
    rotate_left 1
    · first
        | (refine Or.inl ⟨by rfl, ?_⟩; intro w9 hSw; have e9_0 := Bel.keep hSw d9; go_simp; (try with_reducible rfl); done)
        | (refine Or.inr ⟨by rfl, ?_⟩; rfl)
    simp only [List.getElem_toArray, List.getElem_cons_succ, List.getElem_cons_zero, Act.put, List.setIfInBounds_toArray, List.set_cons_zero, List.set_cons_succ]
    refine tk 2 (v := ?_) ?_ ?_
    rotate_left 1
    · first
        | (refine Or.inl ⟨by rfl, ?_⟩; intro w9 hSw; have e9_0 := Bel.keep hSw d9; go_simp; (try with_reducible rfl); done)
        | (refine Or.inr ⟨by rfl, ?_⟩; rfl)
    simp only [List.getElem_toArray, List.getElem_cons_succ, List.getElem_cons_zero, Act.put, List.setIfInBounds_toArray, List.set_cons_zero, List.set_cons_succ]
    refine tk 4 (v := ?_) ?_ ?_
    rotate_left 1
    · first
        | (refine Or.inl ⟨by rfl, ?_⟩; intro w9 hSw; have e9_0 := Bel.keep hSw d7; go_simp; (try with_reducible rfl); done)
        | (refine Or.inr ⟨by rfl, ?_⟩; rfl)
    simp only [List.getElem_toArray, List.getElem_cons_succ, List.getElem_cons_zero, Act.put, List.setIfInBounds_toArray, List.set_cons_zero, List.set_cons_succ]
    refine tk 5 (v := ?_) ?_ ?_
    rotate_left 1
    · first
        | (refine Or.inl ⟨by rfl, ?_⟩; intro w9 hSw; have e9_0 := Bel.keep hSw d7; go_simp; (try with_reducible rfl); done)
        | (refine Or.inr ⟨by rfl, ?_⟩; rfl)
    simp only [List.getElem_toArray, List.getElem_cons_succ, List.getElem_cons_zero, Act.put, List.setIfInBounds_toArray, List.set_cons_zero, List.set_cons_succ]
    refine tk 7 (v := ?_) ?_ ?_
    rotate_left 1
    · first
        | (refine Or.inl ⟨by rfl, ?_⟩; intro w9 hSw; have e9_0 := Bel.keep hSw hd0; go_simp; (try with_reducible rfl); done)
        | (refine Or.inr ⟨by rfl, ?_⟩; rfl)
    simp only [List.getElem_toArray, List.getElem_cons_succ, List.getElem_cons_zero, Act.put, List.setIfInBounds_toArray, List.set_cons_zero, List.set_cons_succ]
    refine tk 8 (v := ?_) ?_ ?_
    rotate_left 1
    · first
        | (refine Or.inl ⟨by rfl, ?_⟩; intro w9 hSw; have e9_0 := Bel.keep hSw hd0; go_simp; (try with_reducible rfl); done)
        | (refine Or.inr ⟨by rfl, ?_⟩; rfl)
    simp only [List.getElem_toArray, List.getElem_cons_succ, List.getElem_cons_zero, Act.put, List.setIfInBounds_toArray, List.set_cons_zero, List.set_cons_succ]
    refine tk 9 (v := ?_) ?_ ?_
    rotate_left 1
    · first
        | (refine Or.inl ⟨by rfl, ?_⟩; intro w9 hSw; have e9_0 := Bel.keep hSw hd0; go_simp; (try with_reducible rfl); done)
        | (refine Or.inr ⟨by rfl, ?_⟩; rfl)
    simp only [List.getElem_toArray, List.getElem_cons_succ, List.getElem_cons_zero, Act.put, List.setIfInBounds_toArray, List.set_cons_zero, List.set_cons_succ]
    obtain ⟨V0, hV0⟩ : ∃ W, w1.drew = W := ⟨_, rfl⟩
    have hb0 : Bel w1 V0 := by rw [← hV0]; exact Bel.drew _
    rw [hV0] at hHeld ⊢
    clear hV0
    refine wpAnyH_ready (rs := [0]) (by kernel_rfl) (by simp) ?_
    refine AllReadyH.cons (o := _) rfl (fun K hK => ?_) AllReadyH.nil
    go_simp
    have hb1 : Bel w1 (V0.alloc (.cells #[] 9)) := hb0.to_alloc _
    refine hK.out _ _ hb1 (fun hHeld => ?_)
    clear hK K
    have own0 := own_fresh V0 9 V0.heap.size (Nat.le_refl _)
    refine wpAnyH_ready (rs := [3]) (by kernel_rfl) (by simp) ?_
    refine AllReadyH.cons (o := _) rfl (fun K hK => ?_) AllReadyH.nil
    rw [if_pos (by rfl)]
    refine wp_appendG _ _ 23 rfl V0.heap.size (by rw [World.size_alloc]; omega) 9 (.string ⟨#[]⟩) 1 16 Tryz.underlying23 info_str4 rfl (by decide) (by decide) (.slice (some ⟨V0.heap.size, 0, none⟩) 0 0) 0 [] rfl own0 na nm nc (strsV l.ns) rfl (by rw [strsV_length, HNM.out, Nat.mul_one]) (HRN.out _ (HB1.out.trans hb1)) (strs_one' l.ns) (by omega) (fun v2 w2 hown2 hg2 => ?_)
    have hb2v : Bel V0 w2 := own_grown own0 (Bel.alloc _ _) hg2 (Nat.le_refl _)
    have hb2 := hb0.trans hb2v
    refine hK.out _ _ hb2 (fun hHeld => ?_)
    clear hK K
    simp only [List.getElem_toArray, List.getElem_cons_succ, List.getElem_cons_zero, Act.put, List.setIfInBounds_toArray, List.set_cons_zero, List.set_cons_succ]
    refine wpAnyH_ready (rs := [6]) (by kernel_rfl) (by simp) ?_
    refine AllReadyH.cons (o := _) rfl (fun K hK => ?_) AllReadyH.nil
    rw [if_pos (by rfl)]
    refine wp_appendG _ _ 23 rfl V0.heap.size hb2v.size 9 (.string ⟨#[]⟩) 1 16 Tryz.underlying23 info_str4 rfl (by decide) (by decide) v2 _ _ rfl hown2 oa om oc (strsV l.outs) rfl (by rw [strsV_length, HOM.out, Nat.mul_one]) (HRO.out _ (HB1.out.trans hb2)) (strs_one' l.outs) (by omega) (fun v3 w3 hown3 hg3 => ?_)
    have hb3v : Bel V0 w3 := own_grown hown2 hb2v hg3 (Nat.le_refl _)
    have hb3 := hb0.trans hb3v
    refine hK.out _ _ hb3 (fun hHeld => ?_)
    clear hK K
    simp only [List.getElem_toArray, List.getElem_cons_succ, List.getElem_cons_zero, Act.put, List.setIfInBounds_toArray, List.set_cons_zero, List.set_cons_succ]
    have hr3 := own_row hown3
    rw [List.nil_append, show strsV l.ns ++ strsV l.outs = strsV (l.ns ++ l.outs) from by simp [strsV]] at hr3
    have HC1 := Lib.hid (HNA.out v3 w3 hr3)
    have HB3 := Lib.hid hb3
    clear hr3 hown2 hown3 hg2 hg3 own0 hb2 hb2v hb3 hb3v hb1
    refine wpAnyH_ready (rs := [10]) (by kernel_rfl) (by simp) ?_
    refine AllReadyH.cons (o := _) rfl (fun K hK => ?_) AllReadyH.nil
    go_simp
    go_at_call 82
    refine HC1.out.mono ?_
    rintro e5 w5 ⟨rfl, hb5⟩
    dsimp only
    have hb6 := HB3.out.trans hb5
    refine hK.out _ _ hb6 (fun hHeld => ?_)
    clear hK K
    refine tk 11 (v := ?_) ?_ ?_
    rotate_left 1
    · first
        | (refine Or.inl ⟨by rfl, ?_⟩; intro w9 hSw; go_simp; (try with_reducible rfl); done)
        | (refine Or.inr ⟨by rfl, ?_⟩; rfl)
    simp only [List.getElem_toArray, List.getElem_cons_succ, List.getElem_cons_zero, Act.put, List.setIfInBounds_toArray, List.set_cons_zero, List.set_cons_succ]
    refine wpAnyH_done (by kernel_rfl) ?_ _
    have T5 := Lib.hid (T1.out.bel hb6)
    have HB5 := Lib.hid (HB1.out.trans hb6)
    clear hb5 hb6 HC1 HB3 hHeld hd0 d7 d9 hb0 HNA
    by_cases hc1 : n1 = 0
    rotate_left 1
    · obtain ⟨z1, z2⟩ := nzf hc1
      have HF : Hid (n1 = R) := Lib.hid (by have := HR2.out; simp [nz, hc1] at this; exact this)
      clear hc1 HR2 HX1 HX2 HX3
      go_wp2_with fail
      go_ret
      exact ⟨ret_int (by rw [HF.out]), HB5.out⟩
    subst hc1
    have HR3 : Hid ((if (if k = 0 ∨ k = 3 then n2 else 0) = 0 then (if n3 = 0 then (if n4 = 0 then nz (l.l.map rcheckL) else n4) else n3) else (if k = 0 ∨ k = 3 then n2 else 0)) = R) := Lib.hid (by
      have h := HR2.out
      rw [← h]
      generalize (if k = 0 ∨ k = 3 then n2 else 0) = x
      generalize nz (l.l.map rcheckL) = z
      unfold nz nz nz nz nz
      rw [if_pos rfl]
      by_cases h1 : x = 0
      · rw [if_pos h1, if_pos h1]
        by_cases h2 : n3 = 0
        · rw [if_pos h2, if_pos h2]
          by_cases h3 : n4 = 0
          · rw [if_pos h3, if_pos h3]; rfl
          · rw [if_neg h3, if_neg h3, if_neg h3]
        · rw [if_neg h2, if_neg h2, if_neg h2]
      · rw [if_neg h1, if_neg h1, if_neg h1])
    clear HR2
    have c0 := T5.out.at 0
    obtain ⟨b03, hb03⟩ : ∃ b, decide (k = 0 ∨ k = 3) = b := ⟨_, rfl⟩
    go_upto_region 8 with fail
    go_cut [37] (fun v wx => v = .bool b03 ∧ w5 = wx)
    case first =>
      by_cases h0 : k = 0
      · subst h0
        have hb3 : true = b03 := by rw [← hb03]; simp
        subst hb3
        clear hb03
        go_wp2_with fail
        go_meet
        exact ⟨rfl, rfl⟩
      · have n0 : (k == 0) = false := by simpa using h0
        by_cases h3 : k = 3
        · subst h3
          have hb3 : true = b03 := by rw [← hb03]; simp
          subst hb3
          clear hb03 h0
          go_wp2_with fail
          go_meet
          exact ⟨rfl, rfl⟩
        · have n3' : (k == 3) = false := by simpa using h3
          have hb3 : false = b03 := by rw [← hb03]; simp [h0, h3]
          subst hb3
          clear hb03 h0 h3
          go_wp2_with fail
          go_meet
          exact ⟨rfl, rfl⟩
    case rest =>
    obtain ⟨rfl, rfl⟩ := hcut
    have HR4 : Hid ((if (if b03 = true then n2 else 0) = 0 then (if n3 = 0 then (if n4 = 0 then nz (l.l.map rcheckL) else n4) else n3) else (if b03 = true then n2 else 0)) = R) := Lib.hid (by
      have h := HR3.out
      rw [← hb03]
      simpa using h)
    clear HR3 hb03 c0
    go_upto_if 37 with fail
    go_cut [3] (fun v wx => v = .int .i64 ((0 : Nat) : Int) ∧ Bel w5 wx ∧ (if b03 = true then n2 else 0) = 0)
    case first =>
      cases b03 with
      | false =>
        go_wp2_with fail
        go_meet
        exact ⟨rfl, Bel.refl _, rfl⟩
      | true =>
        have c1 := T5.out.at 1
        have c2 := T5.out.at 2
        have c3 := T5.out.at 3
        have c4 := T5.out.at 4
        obtain ⟨V6, h6, k6, l6, s6⟩ := alloc_step w5 26 [.int .i64 l.e.k, .string l.e.s, .slice nea nen nec, .slice lea len lec]
        have HC6 := Lib.hid (HX1.out _ V6 (HB5.out.trans l6) k6)
        have L6 := Lib.hid l6
        have HV6 := Lib.hid h6
        clear h6 k6 l6 s6
        go_wp2_with fail
        rw [show w5.alloc (.cells #[.int .i64 l.e.k, .string l.e.s, .slice nea nen nec, .slice lea len lec] 26) = V6 from HV6.out]
        refine HC6.out.mono ?_
        rintro e6 w6 ⟨rfl, hb6⟩
        have HB6 := Lib.hid (L6.out.trans hb6)
        clear hb6 c1 c2 c3 c4 HC6 HV6 L6
        by_cases hc2 : n2 = 0
        · subst hc2
          go_wp2_with fail
          go_meet
          exact ⟨rfl, HB6.out, rfl⟩
        · obtain ⟨z1, z2⟩ := nzf hc2
          have HF : Hid (n2 = R) := Lib.hid (by have := HR4.out; simpa [hc2] using this)
          clear hc2 HR4
          go_wp2_with fail
          go_ret
          exact ⟨ret_int (by rw [HF.out]), HB5.out.trans HB6.out⟩
    case rest =>
    obtain ⟨rfl, hb6, hz⟩ := hcut
    generalize wc = w6 at hb6 ⊢
    have HR5 : Hid ((if n3 = 0 then (if n4 = 0 then nz (l.l.map rcheckL) else n4) else n3) = R) := Lib.hid (by have h := HR4.out; rwa [hz, if_pos rfl] at h)
    have T6 := Lib.hid (T5.out.bel hb6)
    have HB6 := Lib.hid (HB5.out.trans hb6)
    have c6 := T6.out.at 6
    clear HR4 hz hb6 T5 HB5 HX1
    go_wp2_with fail
    refine (HX2.out _ HB6.out).mono ?_
    rintro e7 w7 ⟨rfl, hb7⟩
    have T7 := Lib.hid (T6.out.bel hb7)
    have HB7 := Lib.hid (HB6.out.trans hb7)
    clear hb7 c6 T6 HB6 HX2
    by_cases hc3 : n3 = 0
    rotate_left 1
    · obtain ⟨z1, z2⟩ := nzf hc3
      have HF : Hid (n3 = R) := Lib.hid (by have := HR5.out; simpa [hc3] using this)
      clear hc3 HR5 HX3
      go_wp2_with fail
      go_ret
      exact ⟨ret_int (by rw [HF.out]), HB7.out⟩
    subst hc3
    have HR6 : Hid ((if n4 = 0 then nz (l.l.map rcheckL) else n4) = R) := Lib.hid (by have := HR5.out; simpa using this)
    clear HR5
    have t7 := T7.out
    have c0 := Blk.at t7 0
    have c1 := Blk.at t7 1
    have c2 := Blk.at t7 2
    have c3 := Blk.at t7 3
    have c4 := Blk.at t7 4
    have c5 := Blk.at t7 5
    have c6 := Blk.at t7 6
    have c7 := Blk.at t7 7
    have c8 := Blk.at t7 8
    have c9 := Blk.at t7 9
    have c10 := Blk.at t7 10
    clear t7
    go_wp2_with fail
    refine (HX3.out _ HB7.out).mono ?_
    rintro e8 w8 ⟨rfl, hb8⟩
    have T8 := Lib.hid (T7.out.bel hb8)
    have HB8 := Lib.hid (HB7.out.trans hb8)
    clear hb8 c0 c1 c2 c3 c4 c5 c6 c7 c8 c9 c10 T7 HB7 HX3
    by_cases hc4 : n4 = 0
    rotate_left 1
    · obtain ⟨z1, z2⟩ := nzf hc4
      have HF : Hid (n4 = R) := Lib.hid (by have := HR6.out; simpa [hc4] using this)
      clear hc4 HR6
      go_wp2_with fail
      go_ret
      exact ⟨ret_int (by rw [HF.out]), HB8.out⟩
    subst hc4
    have HR7 : Hid (nz (l.l.map rcheckL) = R) := Lib.hid (by have := HR6.out; simpa using this)
    clear HR6
    go_wp2_with fail
    go_loopw [4] (fun i wr => ∃ j : Nat, j ≤ lm ∧ i = .int .i64 j ∧ Bel w8 wr ∧ nz ((l.l.drop j).map rcheckL) = R) (fun i _ => lm - (intOf i).toNat)
    case atStart => exact ⟨0, Nat.zero_le _, rfl, Bel.refl _, HR7.out⟩
    case round =>
      obtain ⟨j, hj, rfl, hbel, hck⟩ := hrel
      have c10 : wr.cell? ⟨w.heap.size, 10, none⟩ = some (.slice la lm lc) := (T8.out.bel hbel).at 10
      by_cases hlt : j < lm
      · have hlti : (j : Int) < lm := by omega
        obtain ⟨x, hx⟩ : ∃ x, l.l[j]? = some x := ⟨_, List.getElem?_eq_getElem (by have := HLM.out; omega)⟩
        obtain ⟨b, off, xq, rfl, hxc, hxa⟩ := HPL.out j x hx
        have hbw := HB8.out.trans hbel
        have g1 := hxc.bel hbw
        have HX := Lib.hid (fun W (hW : Bel w W) => HIH.out x (lbulk_part hx) xq W (LgAt.bel hW x hxa))
        obtain ⟨xnea, xnen, xnec, xlea, xlen, xlec, xia, xim, xic, xoa, xom, xoc, xra, xrm, xrc, xna, xnm, xnc, xla, xlm, xlc, rfl, ⟨xhim, xhom, xhrm, xhnm, xhlm⟩, ⟨xhci, xhco, xhcr, xhcn, xhcl⟩, ⟨xhbi, xhbo, xhbr, xhbn, xhbl⟩, xhex, xhpi, xhpo, xhpr, xhpn, xhpl⟩ := LgAt.opened hxa
        unfold lgV at HX
        dsimp only at HX
        have f0 := CellsAt.get0 g1
        have f1 := CellsAt.get g1 1 rfl
        have f2 := CellsAt.get g1 2 rfl
        have f3 := CellsAt.get g1 3 rfl
        have f4 := CellsAt.get g1 4 rfl
        have f5 := CellsAt.get g1 5 rfl
        have f6 := CellsAt.get g1 6 rfl
        have f7 := CellsAt.get g1 7 rfl
        have f8 := CellsAt.get g1 8 rfl
        have f9 := CellsAt.get g1 9 rfl
        have f10 := CellsAt.get g1 10 rfl
        rw [nz_map_drop _ l.l j x hx] at hck
        obtain ⟨c, hc⟩ : ∃ c, rcheckL x = c := ⟨_, rfl⟩
        rw [hc] at HX hck
        have HCK := Lib.hid hck
        have HBL := Lib.hid hbel
        have HBW := Lib.hid hbw
        clear hxc g1 hxa hx hck hc hbel hbw xhim xhom xhrm xhnm xhlm xhex xhpi xhpo xhpr xhpn xhpl xhbi xhbo xhbr xhbn xhbl xhci xhco xhcr xhcn xhcl HR7
        go_wp2_with fail
        refine (HX.out _ HBW.out).mono ?_
        rintro e4 w4 ⟨rfl, hb4⟩
        have HB4 := Lib.hid (HBL.out.trans hb4)
        clear hb4 HX f0 f1 f2 f3 f4 f5 f6 f7 f8 f9 f10
        by_cases hc0 : c = 0
        · subst hc0
          go_wp2_with fail
          exact ⟨⟨j + 1, by omega, by go_num, HB4.out, by have := HCK.out; simpa using this⟩, by simp [intOf]; omega⟩
        · obtain ⟨z1, z2⟩ := nzf hc0
          have HF : Hid (c = R) := Lib.hid (by have := HCK.out; rwa [if_neg hc0] at this)
          clear hc0 HCK
          go_wp2_with fail
          go_ret
          exact ⟨ret_int (by rw [HF.out]), HB8.out.trans HB4.out⟩
      · obtain rfl : j = lm := by omega
        rw [nz_map_end _ _ _ (by have := HLM.out; omega)] at hck
        subst hck
        clear HR7
        go_wp2_with fail
        go_ret
        exact ⟨rfl, HB8.out.trans hbel⟩

set_option maxRecDepth 100000 in
set_option maxHeartbeats 4000000 in
theorem rcheck_lx (l : Lg) (q : LgQ) (w : World) (hb : l.bulk ≤ 1073741820) (hat : LgAt w l q) :
    Calls Tryz.prog 19 #[lgV l q] w (RetBel (.int .i64 (RCheckL l)) w) := by
  have hat' := hat
  obtain ⟨nea, nen, nec, lea, len, lec, ia, im, ic, oa, om, oc, ra, rm, rc, na, nm, nc, la, lm, lc, rfl, ⟨him, hom, hrm, hnm, hlm⟩, ⟨hci, hco, hcr, hcn, hcl⟩, ⟨hbi, hbo, hbr, hbn, hbl⟩, hex, hpi, hpo, hpr, hpn, hpl⟩ := LgAt.opened hat
  unfold lgV
  dsimp only
  have HD : Hid (∀ W, Bel w W → Calls Tryz.prog 44 #[.agg #[.int .i64 l.k, .int .i64 l.e.k, .string l.e.s, .slice nea nen nec, .slice lea len lec, .string l.p, .slice ia im ic, .slice oa om oc, .slice ra rm rc, .slice na nm nc, .slice la lm lc], .int .i64 31] W (RetNat (fun d => d = min (dL l) ((31 : Int).toNat + 1)) W)) := Lib.hid fun W hW => rdepth_l l.bulk l (Nat.le_refl _) (by omega) ⟨.slice nea nen nec, .slice lea len lec, .slice ia im ic, .slice oa om oc, .slice ra rm rc, .slice na nm nc, .slice la lm lc⟩ W 31 (by omega) (by omega) (LgAt.bel hW l hat')
  have HC : Hid (∀ W, Bel w W → Calls Tryz.prog 45 #[.agg #[.int .i64 l.k, .int .i64 l.e.k, .string l.e.s, .slice nea nen nec, .slice lea len lec, .string l.p, .slice ia im ic, .slice oa om oc, .slice ra rm rc, .slice na nm nc, .slice la lm lc]] W (RetBel (.int .i64 (rcheckL l)) W)) := Lib.hid fun W hW => rcheck_l l.bulk l (Nat.le_refl _) hb ⟨.slice nea nen nec, .slice lea len lec, .slice ia im ic, .slice oa om oc, .slice ra rm rc, .slice na nm nc, .slice la lm lc⟩ W (LgAt.bel hW l hat')
  obtain ⟨R, hR⟩ : ∃ R, RCheckL l = R := ⟨_, rfl⟩
  rw [hR]
  unfold RCheckL at hR
  rw [deepL_iff] at hR
  have HR := Lib.hid hR
  obtain ⟨V1, h1, k1, l1, s1⟩ := alloc_step w 30 [.int .i64 l.k, .int .i64 l.e.k, .string l.e.s, .slice nea nen nec, .slice lea len lec, .string l.p, .slice ia im ic, .slice oa om oc, .slice ra rm rc, .slice na nm nc, .slice la lm lc]
  have HV1 := Lib.hid h1
  have HB0 := Lib.hid l1
  have T0 := Lib.hid k1
  have c0 := Blk.at k1 0
  have c1 := Blk.at k1 1
  have c2 := Blk.at k1 2
  have c3 := Blk.at k1 3
  have c4 := Blk.at k1 4
  have c5 := Blk.at k1 5
  have c6 := Blk.at k1 6
  have c7 := Blk.at k1 7
  have c8 := Blk.at k1 8
  have c9 := Blk.at k1 9
  have c10 := Blk.at k1 10
  clear him hom hrm hnm hlm hex hpi hpo hpr hpn hpl hat hat' hR h1 k1 l1 s1
  go_enter Tryz.func19, Tryz.ntmps19
  go_upto_region 1 with fail
  rw [show w.alloc (.cells #[.int .i64 l.k, .int .i64 l.e.k, .string l.e.s, .slice nea nen nec, .slice lea len lec, .string l.p, .slice ia im ic, .slice oa om oc, .slice ra rm rc, .slice na nm nc, .slice la lm lc] 30) = V1 from HV1.out]
  clear HV1
  go_wp2_with fail
  refine (HD.out _ HB0.out).mono ?_
  rintro e2 w2 ⟨d, rfl, hd, hb2⟩
  have HDD := Lib.hid hd
  have t2 := T0.out.bel hb2
  have HB2 := Lib.hid (HB0.out.trans hb2)
  clear c0 c1 c2 c3 c4 c5 c6 c7 c8 c9 c10 hb2 hd
  by_cases h30 : 30 < d
  · have h30i : (30 : Int) < d := by omega
    have HF : Hid (9 = R) := Lib.hid (by
      have h := HR.out
      rw [if_pos (by have := HDD.out; simp at this ⊢; omega)] at h
      exact h)
    clear h30 t2 HR
    go_wp2_with fail
    go_ret
    exact ⟨ret_int (by rw [← HF.out]; rfl), HB2.out⟩
  · have h30i : ¬ (30 : Int) < d := by omega
    have HF : Hid (rcheckL l = R) := Lib.hid (by
      have h := HR.out
      rw [if_neg (by have := HDD.out; simp at this ⊢; omega)] at h
      exact h)
    have c0 := Blk.at t2 0
    have c1 := Blk.at t2 1
    have c2 := Blk.at t2 2
    have c3 := Blk.at t2 3
    have c4 := Blk.at t2 4
    have c5 := Blk.at t2 5
    have c6 := Blk.at t2 6
    have c7 := Blk.at t2 7
    have c8 := Blk.at t2 8
    have c9 := Blk.at t2 9
    have c10 := Blk.at t2 10
    clear h30 t2 HR
    go_wp2_with fail
    refine (HC.out _ HB2.out).mono ?_
    rintro e3 w3 ⟨rfl, hb3⟩
    go_wp2_with fail
    go_ret
    exact ⟨ret_int (by rw [HF.out]), HB2.out.trans hb3⟩
end Go.Proofs.YtchbhcjhoocjaaaGreatDoor
