/-
  model: the walks of decided, logics (printed by wip/mk_mox.py).
-/
import Derived.Test.YtbcdbefogfmhfaaGreatDoorMPL
import Derived.Test.YtbcdbefogfmhfaaGreatDoorMXC
import Derived.Test.YtbcdbefogfmhfaaGreatDoorLGY
import Derived.Test.YtbcdbefogfmhfaaGreatDoorLGZ
import Derived.Test.YtbcdbefogfmhfaaGreatDoorLGK
import Derived.Deep.RegionHeld3
namespace Go.Proofs.YtbcdbefogfmhfaaGreatDoor
open Go.RowKit Go.Maps

theorem with_err {N F : List ByteArray} {e : Nat} (h : withS N F = (none, e)) : e ≠ 0 := by
  unfold withS at h
  split at h
  · cases h; decide
  · split at h
    · cases h; decide
    · cases h
theorem nz3 (a b c : Nat) : nz [a, b, c] = if a = 0 then if b = 0 then c else b else a := by
  rw [nz_cons, nz_cons, nz_one]
theorem same_none (t : Te) : sameT t noTe = noneT t := by
  obtain ⟨a, n, l⟩ := t
  unfold sameT noneT noTe
  dsimp only
  cases a <;> cases n <;> cases l <;> rfl
set_option maxRecDepth 100000 in
set_option maxHeartbeats 8000000 in
theorem decided_c {u W : World} {cb bb tb : Nat} {m : Md} {q : MdQ} (h : CkS u cb bb tb m q W) (hE : EnvX u) (hP : PolAt u) (hbk : m.bulk ≤ 1048576) (l : Lg) (lq : LgQ) (hlb : l.bulk ≤ 1048576) (hat : LgAt W l lq) (ps ids : List ByteArray) (pa ia : Option Addr) (pn pc im ic : Nat)
    (hpl : ps.length = pn) (hpn : pn ≤ 1048576) (hps : NamesAt W pa ps) (hpx : ∀ x ∈ ps, x.size ≤ 1048576) (hil : ids.length = im) (him : im ≤ 2097152) (his : NamesAt W ia ids) (hix : ∀ x ∈ ids, x.size ≤ 1048576) :
    Calls Tryz.prog 101 #[.pointer (some ⟨cb, 0, none⟩), lgV l lq, .slice pa pn pc, .slice ia im ic] W (RetBel (.int .i64 (decE l (ps ++ ids.map (nameM m)))) W) := by
  have hat' := hat
  obtain ⟨znea, znen, znec, zlea, zlen, zlec, zia, zim, zic, zoa, zom, zoc, zra, zrm, zrc, zna, znm, znc, zla, zlm, zlc, rfl, ⟨zhim, zhom, zhrm, zhnm, zhlm⟩, ⟨zhci, zhco, zhcr, zhcn, zhcl⟩, ⟨zhbi, zhbo, zhbr, zhbn, zhbl⟩, zhex, zhpi, zhpo, zhpr, zhpn, zhpl⟩ := LgAt.opened hat
  have HC := Lib.hid fun W1 (hW : Bel W W1) => check_lx l ⟨.slice znea znen znec, .slice zlea zlen zlec, .slice zia zim zic, .slice zoa zom zoc, .slice zra zrm zrc, .slice zna znm znc, .slice zla zlm zlc⟩ W1 ((hE.bel h.bel).bel hW) ((hP.bel h.bel).bel hW) (by omega) (LgAt.bel hW l hat')
  have HL := Lib.hid fun (hok : CheckL l = 0) W1 po N (hW : Bel W W1) (hsc : ScopeIs W1 (.pointer po) N) => scoped_l l.bulk l (Nat.le_refl _) (by omega) ⟨.slice znea znen znec, .slice zlea zlen zlec, .slice zia zim zic, .slice zoa zom zoc, .slice zra zrm zrc, .slice zna znm znc, .slice zla zlm zlc⟩ (.pointer po) N W1 (CheckL_ok hok) ((hE.bel h.bel).bel hW) hsc (LgAt.bel hW l hat')
  have HSC := Lib.hid fun W1 (hW : Bel W W1) => scope_c (h.go hW) hE.1 hbk ps ids pa ia pn pc im ic hpl hpn (hps.bel hW) hpx hil him (his.bel hW) hix
  unfold lgV at HC HL ⊢
  dsimp only at HC HL ⊢
  obtain ⟨c, hc⟩ : ∃ c, CheckL l = c := ⟨_, rfl⟩
  obtain ⟨R, hR⟩ : ∃ R, decE l (ps ++ ids.map (nameM m)) = R := ⟨_, rfl⟩
  obtain ⟨⟨r1, r2⟩, hw⟩ : ∃ r, withS [] (ps ++ ids.map (nameM m)) = r := ⟨_, rfl⟩
  have hR0 := hR
  unfold decE at hR0
  rw [hc, hw] at hR0
  rw [hR]
  rw [hc] at HC HL
  rw [hw] at HSC
  obtain ⟨V, hV, hxV, hbV, hsV⟩ := alloc_step W 42 [.int .i64 l.k, .int .i64 l.e.k, .string l.e.s, .slice znea znen znec, .slice zlea zlen zlec, .string l.p, .slice zia zim zic, .slice zoa zom zoc, .slice zra zrm zrc, .slice zna znm znc, .slice zla zlm zlc]
  obtain ⟨ib, hib⟩ : ∃ x, W.heap.size = x := ⟨_, rfl⟩
  rw [hib] at hxV
  have c0 := Blk.at hxV 0
  have c1 := Blk.at hxV 1
  have c2 := Blk.at hxV 2
  have c3 := Blk.at hxV 3
  have c4 := Blk.at hxV 4
  have c5 := Blk.at hxV 5
  have c6 := Blk.at hxV 6
  have c7 := Blk.at hxV 7
  have c8 := Blk.at hxV 8
  have c9 := Blk.at hxV 9
  have c10 := Blk.at hxV 10
  have HX := Lib.hid hxV
  have HBV := Lib.hid hbV
  have HVN := Lib.hid hV
  have HIB := Lib.hid hib
  have HW := Lib.hid hw
  have HR := Lib.hid hR0
  clear h hE hP hbk hlb hat' hpl hpn hps hpx hil him his hix zhim zhom zhrm zhnm zhlm zhex zhpi zhpo zhpr zhpn zhpl zhbi zhbo zhbr zhbn zhbl zhci zhco zhcr zhcn zhcl hc hR hw hR0 hV hxV hbV hsV hib
  go_enter Tryz.func101, Tryz.ntmps101
  go_upto_region 1 with fail
  rw [show W.alloc (.cells #[.int .i64 l.k, .int .i64 l.e.k, .string l.e.s, .slice znea znen znec, .slice zlea zlen zlec, .string l.p, .slice zia zim zic, .slice zoa zom zoc, .slice zra zrm zrc, .slice zna znm znc, .slice zla zlm zlc] 42) = V from HVN.out, HIB.out]
  clear HVN
  by_cases hc0 : c = 0
  case neg =>
    have hcb : ((c : Int) == 0) = false := by simpa using hc0
    have HRE : Hid (c = R) := Lib.hid (by have h1 := HR.out; rwa [if_pos hc0] at h1)
    clear hc0 HL HSC HW HR HX
    go_wp2_with fail
    refine (HC.out V HBV.out).mono ?_
    rintro e1 w1 ⟨rfl, hb1⟩
    have HB1 := Lib.hid (HBV.out.trans hb1)
    clear hb1 HC c0 c1 c2 c3 c4 c5 c6 c7 c8 c9 c10
    go_wp2_with fail
    go_ret
    exact ⟨by rw [HRE.out]; rfl, HB1.out⟩
  case pos =>
  subst hc0
  go_wp2_with fail
  refine (HC.out V HBV.out).mono ?_
  rintro e1 w1 ⟨rfl, hb1⟩
  have HB1 := Lib.hid (HBV.out.trans hb1)
  have HX1 := Lib.hid (HX.out.bel hb1)
  clear hb1 HC HX c0 c1 c2 c3 c4 c5 c6 c7 c8 c9 c10
  go_wp2_with fail
  refine (HSC.out w1 HB1.out).mono ?_
  intro e2 w2 hr
  cases r1 with
  | none =>
    have he : e2 = .returned (.tuple #[.pointer none, .int .i64 r2]) := hr.2
    subst he
    have HB2 := Lib.hid (HB1.out.trans hr.1)
    have hz := with_err HW.out
    have hcb : ((r2 : Int) == 0) = false := by simpa using hz
    have HRE : Hid (r2 = R) := Lib.hid (by have h1 := HR.out; rw [if_neg (by decide)] at h1; exact h1)
    clear hr hz HL HSC HW HR HX1
    go_wp2_with fail
    go_ret
    exact ⟨by rw [HRE.out]; rfl, HB2.out⟩
  | some N =>
    have he : ∃ p, e2 = .returned (.tuple #[p, .int .i64 0]) ∧ ScopeIs w2 p N := hr.2
    obtain ⟨p, rfl, hp⟩ := he
    obtain ⟨po, rfl⟩ := scope_ptr hp
    have HB2 := Lib.hid (HB1.out.trans hr.1)
    have HX2 := HX1.out.bel hr.1
    have c0 := Blk.at HX2 0
    have c1 := Blk.at HX2 1
    have c2 := Blk.at HX2 2
    have c3 := Blk.at HX2 3
    have c4 := Blk.at HX2 4
    have c5 := Blk.at HX2 5
    have c6 := Blk.at HX2 6
    have c7 := Blk.at HX2 7
    have c8 := Blk.at HX2 8
    have c9 := Blk.at HX2 9
    have c10 := Blk.at HX2 10
    have HLC := Lib.hid (HL.out (by first | rfl | trivial) w2 po N HB2.out hp)
    have HRE : Hid (scopedL l N = R) := Lib.hid (by have h1 := HR.out; rwa [if_neg (by decide)] at h1)
    clear hr hp HL HSC HW HR HX1 HX2
    go_wp2_with fail
    refine HLC.out.mono ?_
    rintro e3 w3 ⟨rfl, hb3⟩
    have HB3 := Lib.hid (HB2.out.trans hb3)
    clear hb3 HLC c0 c1 c2 c3 c4 c5 c6 c7 c8 c9 c10
    go_wp2_with fail
    go_ret
    exact ⟨by rw [HRE.out]; rfl, HB3.out⟩
set_option maxRecDepth 100000 in
set_option maxHeartbeats 16000000 in
theorem logics_c {u W : World} {cb bb tb : Nat} {m : Md} {q : MdQ} (h : CkS u cb bb tb m q W) (hE : EnvX u) (hP : PolAt u) (hbk : m.bulk ≤ 1048576) :
    Calls Tryz.prog 53 #[.pointer (some ⟨cb, 0, none⟩)] W (RetBel (.int .i64 (logM m)) W) := by
  have HS := Lib.hid h
  have HE := Lib.hid hE
  have HP := Lib.hid hP
  have HBK := Lib.hid hbk
  obtain ⟨A, hA⟩ : ∃ A, nz (m.its.map fun t => allowE t.te) = A := ⟨_, rfl⟩
  obtain ⟨B, hB⟩ : ∃ A, nz (m.kns.map fun x => decE x.lg (scKn m x)) = A := ⟨_, rfl⟩
  obtain ⟨C, hC⟩ : ∃ A, nz (m.des.map fun x => decE x.lg (scDe m x)) = A := ⟨_, rfl⟩
  obtain ⟨R, hR⟩ : ∃ R, logM m = R := ⟨_, rfl⟩
  have HR : Hid ((if A = 0 then if B = 0 then C else B else A) = R) := Lib.hid (by rw [← hR]; unfold logM; rw [nz3, hA, hB, hC])
  rw [hR]
  have HA := Lib.hid hA
  have HBB := Lib.hid hB
  have HCC := Lib.hid hC
  obtain ⟨ia, hia⟩ : ∃ a, q.ia = a := ⟨_, rfl⟩
  obtain ⟨im, him⟩ : ∃ a, q.im = a := ⟨_, rfl⟩
  obtain ⟨ic, hic⟩ : ∃ a, q.ic = a := ⟨_, rfl⟩
  have k3 : W.cell? ⟨cb, 3, none⟩ = some (.slice ia im ic) := by rw [← hia, ← him, ← hic]; exact h.bc.at 3
  have HIT : Hid (ItsAt u ia m.its ∧ m.its.length = im ∧ im ≤ 1048576) := Lib.hid ⟨hia ▸ h.at'.its, him ▸ h.at'.li, by have := m.bulk_len; have := h.at'.li; omega⟩
  have him2 : im ≤ 1048576 := HIT.out.2.2
  clear h hE hP hbk hia him hic hR hA hB hC
  go_enter Tryz.func53, Tryz.ntmps53
  go_wp2_with fail
  go_loopw [19] (fun i wr => ∃ j : Nat, i = .int .i64 j ∧ j ≤ im ∧ Hid (nz ((m.its.drop j).map fun t => allowE t.te) = A) ∧ Hid (Bel W wr)) (fun i _ => im - (intOf i).toNat)
  case atStart => exact ⟨0, rfl, Nat.zero_le _, Lib.hid (by rw [List.drop_zero]; exact HA.out), Lib.hid (Bel.refl _)⟩
  case round =>
    obtain ⟨j, rfl, hj, HN, HB⟩ := hrel
    by_cases hjn : j < im
    · as_aux_lemma =>
      have hji : (j : Int) < im := by omega
      obtain ⟨x, hx⟩ : ∃ x, m.its[j]? = some x := ⟨_, List.getElem?_eq_getElem (by have := HIT.out; omega)⟩
      obtain ⟨b, off, rfl, v, hcl, va, vc, rfl, hvc, hvp⟩ := HIT.out.1 j x hx
      obtain ⟨vn, hvn⟩ : ∃ n, x.te.l.length = n := ⟨_, rfl⟩
      rw [hvn] at hcl hvc
      have hcl2 := hcl.bel (HS.out.bel.trans HB.out)
      have g0 := hcl2.get0
      have g1 := hcl2.get 1 rfl
      have g2 := hcl2.get 2 rfl
      have g3 := hcl2.get 3 rfl
      have g4 := hcl2.get 4 rfl
      have hxb : x.te.bulk ≤ 1048576 := by have := Md.bulk_its (List.mem_of_getElem? hx); have := HBK.out; unfold It.bulk at *; omega
      have hxl : Ex.bulk.bulks x.te.l ≤ 1048576 := by unfold Te.bulk at hxb; omega
      have hvn2 : vn ≤ 1073741824 := by have := bulks_len x.te.l; omega
      have hall := nz_map_drop (fun t : It => allowE t.te) m.its j x hx
      try dsimp only at hall
      rw [HN.out] at hall
      unfold allowE at hall
      obtain ⟨V, hV, hxV, hbV, hsV⟩ := alloc_step wr 54 (itL x (.slice va vn vc))
      obtain ⟨ib, hib⟩ : ∃ x, wr.heap.size = x := ⟨_, rfl⟩
      rw [hib] at hxV
      have z2 : V.cell? ⟨ib, 2, none⟩ = some (.bool x.te.any) := hxV.at 2
      have z3 : V.cell? ⟨ib, 3, none⟩ = some (.bool x.te.no) := hxV.at 3
      have z4 : V.cell? ⟨ib, 4, none⟩ = some (.slice va vn vc) := hxV.at 4
      have hbu := HS.out.bel.trans (HB.out.trans hbV)
      have HU := Lib.hid fun W1 (hW : Bel V W1) => usame_c x.te noTe (.agg #[.bool x.te.any, .bool x.te.no, .slice va vn vc]) (.agg #[.bool false, .bool false, .slice none 0 0]) W1 ⟨va, vn, vc, rfl, hvn, hvc, (hvp.bel hbu).bel hW⟩ ⟨none, 0, 0, rfl, rfl, Nat.le_refl _, fun j y hy => by cases hy⟩ (by omega) (by show (0 : Nat) ≤ _; omega)
      have HCT := Lib.hid fun W1 (hW : Bel V W1) => ucheck_c x.te va vn vc W1 ((HE.out.bel hbu).bel hW) hvn hvn2 (ex_mem_bulk (by omega)) ((hvp.bel hbu).bel hW)
      have HUS := Lib.hid fun W1 (hW : Bel V W1) => uscoped_c x.te va vn vc [] none W1 ((HE.out.bel hbu).bel hW) (ScopeIs.none _) hvn hvn2 (ex_mem_bulk (by omega)) ((hvp.bel hbu).bel hW)
      rw [same_none] at HU
      have HXV := Lib.hid hxV
      have HBV := Lib.hid (HB.out.trans hbV)
      have HVN := Lib.hid hV
      have HIB := Lib.hid hib
      unfold itL at HVN
      obtain ⟨K, hK⟩ : ∃ K, noneT x.te = K := ⟨_, rfl⟩
      obtain ⟨c, hc⟩ : ∃ c, CheckT x.te = c := ⟨_, rfl⟩
      obtain ⟨s, hs⟩ : ∃ s, nz (x.te.l.map fun x => scopedE x []) = s := ⟨_, rfl⟩
      obtain ⟨D, hD⟩ : ∃ D, nz ((m.its.drop (j + 1)).map fun t => allowE t.te) = D := ⟨_, rfl⟩
      unfold allowE at hD
      rw [hK, hc, hs, hD] at hall
      rw [hK] at HU
      rw [hc] at HCT
      rw [hs] at HUS
      have HD : Hid (nz ((m.its.drop (j + 1)).map fun t => allowE t.te) = D) := Lib.hid hD
      have HALL := Lib.hid hall
      clear hx hcl hcl2 hvn hxb hxl hvn2 hV hxV hbV hsV hib k3 HN HB hbu hall hK hc hs hD hvp hvc
      go_upto_region 4 with fail
      rw [show wr.alloc (.cells #[.string x.nm, .string x.base, .bool x.te.any, .bool x.te.no, .slice va vn vc] 54) = V from HVN.out, HIB.out]
      clear HVN g0 g1 g2 g3 g4
      go_wp2_with fail
      refine (HU.out V (Bel.refl _)).mono ?_
      rintro e1 w1 ⟨rfl, hb1⟩
      have HB1 := Lib.hid (HBV.out.trans hb1)
      have y2 := hb1.keep z2
      have y3 := hb1.keep z3
      have y4 := hb1.keep z4
      have HVW := Lib.hid hb1
      clear hb1 HU z2 z3 z4
      cases K with
      | true =>
        have HN2 : Hid (nz ((m.its.drop (j + 1)).map fun t => allowE t.te) = A) := Lib.hid (by have h1 := HALL.out; rw [if_pos rfl, if_pos rfl] at h1; rw [HD.out, h1])
        clear HALL HD HCT HUS y2 y3 y4
        go_wp2_with fail
        exact ⟨⟨j + 1, by go_num, by omega, HN2, HB1⟩, by simp [intOf]; omega⟩
      | false =>
      have HC2 := Lib.hid (HCT.out w1 HVW.out)
      clear HCT
      by_cases hc0 : c = 0
      case neg =>
        have hcb : ((c : Int) == 0) = false := by simpa using hc0
        have HRE : Hid (c = R) := Lib.hid (by
          have h1 := HALL.out
          rw [show (if false = true then 0 else if c ≠ 0 then c else s) = c from by rw [if_neg (by decide), if_pos hc0], if_neg hc0] at h1
          have h2 := HR.out
          rw [if_neg (by rw [h1]; exact hc0)] at h2
          exact h1.symm.trans h2)
        clear hc0 HALL HD HUS
        go_wp2_with fail
        refine HC2.out.mono ?_
        rintro e2 w2 ⟨rfl, hb2⟩
        have HB2 := Lib.hid (HB1.out.trans hb2)
        clear hb2 HC2 y2 y3 y4
        go_wp2_with fail
        go_ret
        exact ⟨by rw [HRE.out]; rfl, HB2.out⟩
      case pos =>
      subst hc0
      go_wp2_with fail
      refine HC2.out.mono ?_
      rintro e2 w2 ⟨rfl, hb2⟩
      have HB2 := Lib.hid (HB1.out.trans hb2)
      have HS2 := Lib.hid (HUS.out w2 (HVW.out.trans hb2))
      have x2 := hb2.keep y2
      have x3 := hb2.keep y3
      have x4 := hb2.keep y4
      clear hb2 HC2 y2 y3 y4 HUS HVW
      by_cases hs0 : s = 0
      · subst hs0
        have HN2 : Hid (nz ((m.its.drop (j + 1)).map fun t => allowE t.te) = A) := Lib.hid (by have h1 := HALL.out; rw [show (if false = true then 0 else if 0 ≠ 0 then 0 else 0) = 0 from rfl, if_pos rfl] at h1; rw [HD.out, h1])
        clear HALL HD
        go_wp2_with fail
        refine HS2.out.mono ?_
        rintro e3 w3 ⟨rfl, hb3⟩
        have HB3 := Lib.hid (HB2.out.trans hb3)
        clear hb3 HS2 x2 x3 x4
        go_wp2_with fail
        exact ⟨⟨j + 1, by go_num, by omega, HN2, HB3⟩, by simp [intOf]; omega⟩
      · have hcb : ((s : Int) == 0) = false := by simpa using hs0
        have HRE : Hid (s = R) := Lib.hid (by
          have h1 := HALL.out
          rw [show (if false = true then 0 else if 0 ≠ 0 then 0 else s) = s from by rw [if_neg (by decide), if_neg (by decide)], if_neg hs0] at h1
          have h2 := HR.out
          rw [if_neg (by rw [h1]; exact hs0)] at h2
          exact h1.symm.trans h2)
        clear hs0 HALL HD
        go_wp2_with fail
        refine HS2.out.mono ?_
        rintro e3 w3 ⟨rfl, hb3⟩
        have HB3 := Lib.hid (HB2.out.trans hb3)
        clear hb3 HS2 x2 x3 x4
        go_wp2_with fail
        go_ret
        exact ⟨by rw [HRE.out]; rfl, HB3.out⟩
    · have hji : ¬ (j : Int) < im := by omega
      have HR2 : Hid ((if B = 0 then C else B) = R) := Lib.hid (by
        have h1 := HN.out
        rw [List.drop_of_length_le (by have := HIT.out; omega)] at h1
        have h2 := HR.out
        rwa [if_pos (by rw [← h1]; rfl)] at h2)
      have HS1 := Lib.hid (HS.out.go HB.out)
      obtain ⟨W1, hW1⟩ : ∃ X, X = wr := ⟨_, rfl⟩
      subst hW1
      have HBW1 := Lib.hid HB.out
      obtain ⟨ka0, hka0⟩ : ∃ a, q.ka = a := ⟨_, rfl⟩
      obtain ⟨dn, hdn⟩ : ∃ a, q.km = a := ⟨_, rfl⟩
      obtain ⟨dc, hdc⟩ : ∃ a, q.kc = a := ⟨_, rfl⟩
      have k5 : W1.cell? ⟨cb, 5, none⟩ = some (.slice ka0 dn dc) := by rw [← hka0, ← hdn, ← hdc]; exact HS1.out.bc.at 5
      have HKN : Hid (KnsAt u ka0 m.kns ∧ m.kns.length = dn ∧ dn ≤ 1048576) := Lib.hid ⟨hka0 ▸ HS1.out.at'.kns, hdn ▸ HS1.out.at'.lk, by have := m.bulk_len; have := HBK.out; have := HS1.out.at'.lk; omega⟩
      have hdn2 : dn ≤ 1048576 := HKN.out.2.2
      clear hka0 hdn hdc HN HB k3 HS HR
      go_wp2_with fail
      go_loopw [46] (fun i wr => ∃ j : Nat, i = .int .i64 j ∧ j ≤ dn ∧ Hid (nz ((m.kns.drop j).map fun x => decE x.lg (scKn m x)) = B) ∧ Hid (Bel W1 wr)) (fun i _ => dn - (intOf i).toNat)
      case atStart => exact ⟨0, rfl, Nat.zero_le _, Lib.hid (by rw [List.drop_zero]; exact HBB.out), Lib.hid (Bel.refl _)⟩
      case round =>
        obtain ⟨j2, rfl, hj2, HN, HB⟩ := hrel
        by_cases hjn : j2 < dn
        · as_aux_lemma =>
          have hji : (j2 : Int) < dn := by omega
          obtain ⟨x, hx⟩ : ∃ x, m.kns[j2]? = some x := ⟨_, List.getElem?_eq_getElem (by have := HKN.out; omega)⟩
          obtain ⟨b, off, rfl, vn, vk, qq, hcl, ⟨pa, pc, rfl, hpc, hpa⟩, ⟨ka, kc, rfl, hkc, hka⟩, hlg⟩ := HKN.out.1 j2 x hx
          obtain ⟨nea, nen, nec, lea, len, lec, lia, lim, lic, sa, om, sc, ra, rm, rc, lna, lnm, lnc, la, lm, lc, rfl, _, _, _, _, _, _, _, _, _⟩ := hlg.opened
          obtain ⟨pn, hpn⟩ : ∃ n, x.ps.length = n := ⟨_, rfl⟩
          obtain ⟨kn, hkn⟩ : ∃ n, x.kw.length = n := ⟨_, rfl⟩
          rw [hpn, hkn] at hcl
          have hbu := HS1.out.bel.trans HB.out
          have hcl2 := hcl.bel hbu
          have g0 := hcl2.get0
          have g1 := hcl2.get 1 rfl
          have g2 := hcl2.get 2 rfl
          have g3 := hcl2.get 3 rfl
          have g4 := hcl2.get 4 rfl
          have g5 := hcl2.get 5 rfl
          have g6 := hcl2.get 6 rfl
          have g7 := hcl2.get 7 rfl
          have g8 := hcl2.get 8 rfl
          have g9 := hcl2.get 9 rfl
          have g10 := hcl2.get 10 rfl
          have g11 := hcl2.get 11 rfl
          have g12 := hcl2.get 12 rfl
          have g13 := hcl2.get 13 rfl
          have g14 := hcl2.get 14 rfl
          have hxb := Md.bulk_kns (List.mem_of_getElem? hx)
          have hsz : (x.ps.length ≤ 1048576 ∧ ∀ y ∈ x.ps, y.size ≤ 1048576) ∧ (x.kw.length ≤ 1048576 ∧ ∀ y ∈ x.kw, y.size ≤ 1048576) ∧ x.lg.bulk ≤ 1048576 := by
            have := HBK.out
            have h1 : sumS x.ps ≤ 1048576 ∧ sumS x.kw ≤ 1048576 ∧ x.lg.bulk ≤ 1048576 := by unfold Kn.bulk at hxb; omega
            exact ⟨⟨by have := len_sumS x.ps; omega, fun y hy => by have := mem_sumS x.ps y hy; omega⟩, ⟨by have := len_sumS x.kw; omega, fun y hy => by have := mem_sumS x.kw y hy; omega⟩, h1.2.2⟩
          have hall := nz_map_drop (fun x : Kn => decE x.lg (scKn m x)) m.kns j2 x hx
          try dsimp only at hall
          rw [HN.out] at hall
          obtain ⟨V, hV, hxV, hbV, hsV⟩ := alloc_step wr 44 (knL x (.slice pa pn pc) (.slice ka kn kc) ⟨.slice nea nen nec, .slice lea len lec, .slice lia lim lic, .slice sa om sc, .slice ra rm rc, .slice lna lnm lnc, .slice la lm lc⟩)
          obtain ⟨ib, hib⟩ : ∃ x, wr.heap.size = x := ⟨_, rfl⟩
          rw [hib] at hxV
          have hxW : Blk V ib 44 [.string x.id, .string x.nm, .slice pa pn pc, .slice ka kn kc, .int .i64 x.lg.k, .int .i64 x.lg.e.k, .string x.lg.e.s, .slice nea nen nec, .slice lea len lec, .string x.lg.p, .slice lia lim lic, .slice sa om sc, .slice ra rm rc, .slice lna lnm lnc, .slice la lm lc] := hxV
          have z2 := hxW.at 2
          have z3 := hxW.at 3
          have z4 := hxW.at 4
          have z5 := hxW.at 5
          have z6 := hxW.at 6
          have z7 := hxW.at 7
          have z8 := hxW.at 8
          have z9 := hxW.at 9
          have z10 := hxW.at 10
          have z11 := hxW.at 11
          have z12 := hxW.at 12
          have z13 := hxW.at 13
          have z14 := hxW.at 14
          clear hxW
          have HDC := Lib.hid (decided_c (HS1.out.go (HB.out.trans hbV)) HE.out HP.out HBK.out x.lg _ hsz.2.2 (LgAt.bel (hbu.trans hbV) _ hlg) x.ps x.kw pa ka pn pc kn kc hpn (by omega) (hpa.bel (hbu.trans hbV)) hsz.1.2 hkn (by omega) (hka.bel (hbu.trans hbV)) hsz.2.1.2)
          unfold lgV at HDC
          dsimp only at HDC
          have HBV := Lib.hid (HB.out.trans hbV)
          have HVN := Lib.hid hV
          have HIB := Lib.hid hib
          obtain ⟨c, hc⟩ : ∃ c, decE x.lg (scKn m x) = c := ⟨_, rfl⟩
          have hc2 := hc
          unfold scKn at hc2
          rw [hc] at hall
          rw [hc2] at HDC
          have HALL := Lib.hid hall
          clear hx hcl hcl2 hpa hpc hka hkc hlg hpn hkn hxb hsz hall hV hxV hbV hsV hib hbu k5 HN HB hc hc2
          unfold knL lgC at HVN
          go_upto_region 15 with fail
          rw [show wr.alloc (.cells #[.string x.id, .string x.nm, .slice pa pn pc, .slice ka kn kc, .int .i64 x.lg.k, .int .i64 x.lg.e.k, .string x.lg.e.s, .slice nea nen nec, .slice lea len lec, .string x.lg.p, .slice lia lim lic, .slice sa om sc, .slice ra rm rc, .slice lna lnm lnc, .slice la lm lc] 44) = V from HVN.out, HIB.out]
          clear HVN g0 g1 g2 g3 g4 g5 g6 g7 g8 g9 g10 g11 g12 g13 g14
          go_wp2_with fail
          refine HDC.out.mono ?_
          rintro e1 w1 ⟨rfl, hb1⟩
          have HB1 := Lib.hid (HBV.out.trans hb1)
          clear hb1 HDC z2 z3 z4 z5 z6 z7 z8 z9 z10 z11 z12 z13 z14
          by_cases hc0 : c = 0
          · subst hc0
            have HN2 : Hid (nz ((m.kns.drop (j2 + 1)).map fun x => decE x.lg (scKn m x)) = B) := Lib.hid (by have h1 := HALL.out; rw [if_pos rfl] at h1; exact h1.symm)
            clear HALL
            go_wp2_with fail
            exact ⟨⟨j2 + 1, by go_num, by omega, HN2, HB1⟩, by simp [intOf]; omega⟩
          · have hcb : ((c : Int) == 0) = false := by simpa using hc0
            have HRE : Hid (c = R) := Lib.hid (by
              have h1 := HALL.out
              rw [if_neg hc0] at h1
              have h2 := HR2.out
              rw [if_neg (by rw [h1]; exact hc0)] at h2
              exact h1.symm.trans h2)
            clear hc0 HALL
            go_wp2_with fail
            go_ret
            exact ⟨by rw [HRE.out]; rfl, HBW1.out.trans HB1.out⟩
        · have hji : ¬ (j2 : Int) < dn := by omega
          have HR3 : Hid (C = R) := Lib.hid (by
            have h1 := HN.out
            rw [List.drop_of_length_le (by have := HKN.out; omega)] at h1
            have h2 := HR2.out
            rwa [if_pos (by rw [← h1]; rfl)] at h2)
          have HS2 := Lib.hid (HS1.out.go HB.out)
          have HBW2 := Lib.hid (HBW1.out.trans HB.out)
          obtain ⟨W2, hW2⟩ : ∃ X, X = wr := ⟨_, rfl⟩
          subst hW2
          obtain ⟨da0, hda0⟩ : ∃ a, q.da = a := ⟨_, rfl⟩
          obtain ⟨en, hen⟩ : ∃ a, q.dm = a := ⟨_, rfl⟩
          obtain ⟨ec, hec⟩ : ∃ a, q.dc = a := ⟨_, rfl⟩
          have k6 : W2.cell? ⟨cb, 6, none⟩ = some (.slice da0 en ec) := by rw [← hda0, ← hen, ← hec]; exact HS2.out.bc.at 6
          have HDS : Hid (DesAt u da0 m.des ∧ m.des.length = en ∧ en ≤ 1048576) := Lib.hid ⟨hda0 ▸ HS2.out.at'.des, hen ▸ HS2.out.at'.ld, by have := m.bulk_len; have := HBK.out; have := HS2.out.at'.ld; omega⟩
          have hen2 : en ≤ 1048576 := HDS.out.2.2
          clear hda0 hen hec HN HB k5 HS1 HR2 HBW1
          go_wp2_with fail
          go_loopw [68] (fun i wr => ∃ j : Nat, i = .int .i64 j ∧ j ≤ en ∧ Hid (nz ((m.des.drop j).map fun x => decE x.lg (scDe m x)) = C) ∧ Hid (Bel W2 wr)) (fun i _ => en - (intOf i).toNat)
          case atStart => exact ⟨0, rfl, Nat.zero_le _, Lib.hid (by rw [List.drop_zero]; exact HCC.out), Lib.hid (Bel.refl _)⟩
          case round =>
            obtain ⟨j3, rfl, hj3, HN, HB⟩ := hrel
            by_cases hjn : j3 < en
            · as_aux_lemma =>
              have hji : (j3 : Int) < en := by omega
              obtain ⟨x, hx⟩ : ∃ x, m.des[j3]? = some x := ⟨_, List.getElem?_eq_getElem (by have := HDS.out; omega)⟩
              obtain ⟨b, off, rfl, vn, vk, qq, hcl, ⟨pa, pc, rfl, hpc, hpa⟩, ⟨ka, kc, rfl, hkc, hka⟩, hlg⟩ := HDS.out.1 j3 x hx
              obtain ⟨nea, nen, nec, lea, len, lec, lia, lim, lic, sa, om, sc, ra, rm, rc, lna, lnm, lnc, la, lm, lc, rfl, _, _, _, _, _, _, _, _, _⟩ := hlg.opened
              obtain ⟨pn, hpn⟩ : ∃ n, x.nd.length = n := ⟨_, rfl⟩
              obtain ⟨kn, hkn⟩ : ∃ n, x.kw.length = n := ⟨_, rfl⟩
              rw [hpn, hkn] at hcl
              have hbu := HS2.out.bel.trans HB.out
              have hcl2 := hcl.bel hbu
              have g0 := hcl2.get0
              have g1 := hcl2.get 1 rfl
              have g2 := hcl2.get 2 rfl
              have g3 := hcl2.get 3 rfl
              have g4 := hcl2.get 4 rfl
              have g5 := hcl2.get 5 rfl
              have g6 := hcl2.get 6 rfl
              have g7 := hcl2.get 7 rfl
              have g8 := hcl2.get 8 rfl
              have g9 := hcl2.get 9 rfl
              have g10 := hcl2.get 10 rfl
              have g11 := hcl2.get 11 rfl
              have g12 := hcl2.get 12 rfl
              have g13 := hcl2.get 13 rfl
              have g14 := hcl2.get 14 rfl
              have g15 := hcl2.get 15 rfl
              have hxb := Md.bulk_des (List.mem_of_getElem? hx)
              have hsz : (x.nd.length ≤ 1048576 ∧ ∀ y ∈ x.nd, y.size ≤ 1048576) ∧ (x.kw.length ≤ 1048576 ∧ ∀ y ∈ x.kw, y.size ≤ 1048576) ∧ x.lg.bulk ≤ 1048576 := by
                have := HBK.out
                have h1 : sumS x.nd ≤ 1048576 ∧ sumS x.kw ≤ 1048576 ∧ x.lg.bulk ≤ 1048576 := by unfold De.bulk at hxb; omega
                exact ⟨⟨by have := len_sumS x.nd; omega, fun y hy => by have := mem_sumS x.nd y hy; omega⟩, ⟨by have := len_sumS x.kw; omega, fun y hy => by have := mem_sumS x.kw y hy; omega⟩, h1.2.2⟩
              have hall := nz_map_drop (fun x : De => decE x.lg (scDe m x)) m.des j3 x hx
              try dsimp only at hall
              rw [HN.out] at hall
              obtain ⟨V, hV, hxV, hbV, hsV⟩ := alloc_step wr 46 (deL x (.slice pa pn pc) (.slice ka kn kc) ⟨.slice nea nen nec, .slice lea len lec, .slice lia lim lic, .slice sa om sc, .slice ra rm rc, .slice lna lnm lnc, .slice la lm lc⟩)
              obtain ⟨ib, hib⟩ : ∃ x, wr.heap.size = x := ⟨_, rfl⟩
              rw [hib] at hxV
              have hxW : Blk V ib 46 [.string x.id, .string x.nm, .string x.ty, .slice pa pn pc, .slice ka kn kc, .int .i64 x.lg.k, .int .i64 x.lg.e.k, .string x.lg.e.s, .slice nea nen nec, .slice lea len lec, .string x.lg.p, .slice lia lim lic, .slice sa om sc, .slice ra rm rc, .slice lna lnm lnc, .slice la lm lc] := hxV
              have z3 := hxW.at 3
              have z4 := hxW.at 4
              have z5 := hxW.at 5
              have z6 := hxW.at 6
              have z7 := hxW.at 7
              have z8 := hxW.at 8
              have z9 := hxW.at 9
              have z10 := hxW.at 10
              have z11 := hxW.at 11
              have z12 := hxW.at 12
              have z13 := hxW.at 13
              have z14 := hxW.at 14
              have z15 := hxW.at 15
              clear hxW
              have hvu := hbu.trans hbV
              have HCO := Lib.hid fun W3 xb (hW : Bel V W3) (hX : Blk W3 xb 35 [.slice pa pn pc, .slice ka kn kc]) => concatN_c pa ka pn pc kn kc x.nd x.kw xb _ W3 hX hpn hkn (by omega) (by omega) ((hpa.bel hvu).bel hW) ((hka.bel hvu).bel hW)
              have HDC := Lib.hid fun W3 ra rn rc (hW : Bel V W3) (hr : NamesAt W3 ra (x.nd ++ x.kw)) (hl : (x.nd ++ x.kw).length = rn) => decided_c (HS2.out.go ((HB.out.trans hbV).trans hW)) HE.out HP.out HBK.out x.lg _ hsz.2.2 (LgAt.bel (hvu.trans hW) _ hlg) [] (x.nd ++ x.kw) none ra 0 0 rn rc rfl (by omega) (fun j y hy => by cases hy) (fun y hy => by cases hy) hl (by rw [List.length_append] at hl; omega) hr (fun y hy => (List.mem_append.1 hy).elim (hsz.1.2 y) (hsz.2.1.2 y))
              unfold lgV at HDC
              dsimp only at HDC
              have HBV := Lib.hid (HB.out.trans hbV)
              have HVN := Lib.hid hV
              have HIB := Lib.hid hib
              obtain ⟨c, hc⟩ : ∃ c, decE x.lg (scDe m x) = c := ⟨_, rfl⟩
              have hc2 := hc
              unfold scDe at hc2
              rw [hc] at hall
              rw [List.nil_append, hc2] at HDC
              have HALL := Lib.hid hall
              clear hx hcl hcl2 hpa hpc hka hkc hlg hpn hkn hxb hsz hall hV hxV hbV hsV hib hbu hvu k6 HN HB hc hc2
              unfold deL lgC at HVN
              go_upto_region 22 with fail
              rw [show wr.alloc (.cells #[.string x.id, .string x.nm, .string x.ty, .slice pa pn pc, .slice ka kn kc, .int .i64 x.lg.k, .int .i64 x.lg.e.k, .string x.lg.e.s, .slice nea nen nec, .slice lea len lec, .string x.lg.p, .slice lia lim lic, .slice sa om sc, .slice ra rm rc, .slice lna lnm lnc, .slice la lm lc] 46) = V from HVN.out, HIB.out]
              clear HVN g0 g1 g2 g3 g4 g5 g6 g7 g8 g9 g10 g11 g12 g13 g14 g15
              refine wp_region_held_drew (S := fun w' => Bel V w') (by kernel_rfl) (by (repeat (first | exact Bel.refl _ | assumption | refine Bel.to_drewN ?_ _ | refine Bel.to_drew ?_ | refine Bel.to_setCell ?_ (by first | exact Nat.le_refl _ | (simp; done) | (simp; omega) | omega) _ | refine Bel.to_alloc ?_ _ | refine Bel.trans ?_ (by assumption)))) (fun hHeld => ?_)
              refine tk 0 (v := ?_) ?_ ?_
              rotate_left 1
              · first
                  | (refine Or.inl ⟨by rfl, ?_⟩; intro w9 hSw; have e9_0 := Bel.keep hSw z3; have e9_1 := Bel.keep hSw z4; have e9_2 := Bel.keep hSw z5; have e9_3 := Bel.keep hSw z6; have e9_4 := Bel.keep hSw z7; have e9_5 := Bel.keep hSw z8; have e9_6 := Bel.keep hSw z9; have e9_7 := Bel.keep hSw z10; have e9_8 := Bel.keep hSw z11; have e9_9 := Bel.keep hSw z12; have e9_10 := Bel.keep hSw z13; have e9_11 := Bel.keep hSw z14; have e9_12 := Bel.keep hSw z15; go_simp; (try with_reducible rfl); done)
                  | (refine Or.inr ⟨by rfl, ?_⟩; rfl)
              simp only [List.getElem_toArray, List.getElem_cons_zero, Act.put, List.setIfInBounds_toArray, List.set_cons_zero, List.set_cons_succ]
              refine tk 1 (v := ?_) ?_ ?_
              rotate_left 1
              · first
                  | (refine Or.inl ⟨by rfl, ?_⟩; intro w9 hSw; have e9_0 := Bel.keep hSw z3; have e9_1 := Bel.keep hSw z4; have e9_2 := Bel.keep hSw z5; have e9_3 := Bel.keep hSw z6; have e9_4 := Bel.keep hSw z7; have e9_5 := Bel.keep hSw z8; have e9_6 := Bel.keep hSw z9; have e9_7 := Bel.keep hSw z10; have e9_8 := Bel.keep hSw z11; have e9_9 := Bel.keep hSw z12; have e9_10 := Bel.keep hSw z13; have e9_11 := Bel.keep hSw z14; have e9_12 := Bel.keep hSw z15; go_simp; (try with_reducible rfl); done)
                  | (refine Or.inr ⟨by rfl, ?_⟩; rfl)
              simp only [List.getElem_toArray, List.getElem_cons_succ, List.getElem_cons_zero, Act.put, List.setIfInBounds_toArray, List.set_cons_zero, List.set_cons_succ]
              refine tk 2 (v := ?_) ?_ ?_
              rotate_left 1
              · first
                  | (refine Or.inl ⟨by rfl, ?_⟩; intro w9 hSw; have e9_0 := Bel.keep hSw z3; have e9_1 := Bel.keep hSw z4; have e9_2 := Bel.keep hSw z5; have e9_3 := Bel.keep hSw z6; have e9_4 := Bel.keep hSw z7; have e9_5 := Bel.keep hSw z8; have e9_6 := Bel.keep hSw z9; have e9_7 := Bel.keep hSw z10; have e9_8 := Bel.keep hSw z11; have e9_9 := Bel.keep hSw z12; have e9_10 := Bel.keep hSw z13; have e9_11 := Bel.keep hSw z14; have e9_12 := Bel.keep hSw z15; go_simp; (try with_reducible rfl); done)
                  | (refine Or.inr ⟨by rfl, ?_⟩; rfl)
              simp only [List.getElem_toArray, List.getElem_cons_succ, List.getElem_cons_zero, Act.put, List.setIfInBounds_toArray, List.set_cons_zero, List.set_cons_succ]
              refine tk 3 (v := ?_) ?_ ?_
              rotate_left 1
              · first
                  | (refine Or.inl ⟨by rfl, ?_⟩; intro w9 hSw; have e9_0 := Bel.keep hSw z3; have e9_1 := Bel.keep hSw z4; have e9_2 := Bel.keep hSw z5; have e9_3 := Bel.keep hSw z6; have e9_4 := Bel.keep hSw z7; have e9_5 := Bel.keep hSw z8; have e9_6 := Bel.keep hSw z9; have e9_7 := Bel.keep hSw z10; have e9_8 := Bel.keep hSw z11; have e9_9 := Bel.keep hSw z12; have e9_10 := Bel.keep hSw z13; have e9_11 := Bel.keep hSw z14; have e9_12 := Bel.keep hSw z15; go_simp; (try with_reducible rfl); done)
                  | (refine Or.inr ⟨by rfl, ?_⟩; rfl)
              simp only [List.getElem_toArray, List.getElem_cons_succ, List.getElem_cons_zero, Act.put, List.setIfInBounds_toArray, List.set_cons_zero, List.set_cons_succ]
              refine tk 4 (v := ?_) ?_ ?_
              rotate_left 1
              · first
                  | (refine Or.inl ⟨by rfl, ?_⟩; intro w9 hSw; have e9_0 := Bel.keep hSw z3; have e9_1 := Bel.keep hSw z4; have e9_2 := Bel.keep hSw z5; have e9_3 := Bel.keep hSw z6; have e9_4 := Bel.keep hSw z7; have e9_5 := Bel.keep hSw z8; have e9_6 := Bel.keep hSw z9; have e9_7 := Bel.keep hSw z10; have e9_8 := Bel.keep hSw z11; have e9_9 := Bel.keep hSw z12; have e9_10 := Bel.keep hSw z13; have e9_11 := Bel.keep hSw z14; have e9_12 := Bel.keep hSw z15; go_simp; (try with_reducible rfl); done)
                  | (refine Or.inr ⟨by rfl, ?_⟩; rfl)
              simp only [List.getElem_toArray, List.getElem_cons_succ, List.getElem_cons_zero, Act.put, List.setIfInBounds_toArray, List.set_cons_zero, List.set_cons_succ]
              refine tk 5 (v := ?_) ?_ ?_
              rotate_left 1
              · first
                  | (refine Or.inl ⟨by rfl, ?_⟩; intro w9 hSw; have e9_0 := Bel.keep hSw z3; have e9_1 := Bel.keep hSw z4; have e9_2 := Bel.keep hSw z5; have e9_3 := Bel.keep hSw z6; have e9_4 := Bel.keep hSw z7; have e9_5 := Bel.keep hSw z8; have e9_6 := Bel.keep hSw z9; have e9_7 := Bel.keep hSw z10; have e9_8 := Bel.keep hSw z11; have e9_9 := Bel.keep hSw z12; have e9_10 := Bel.keep hSw z13; have e9_11 := Bel.keep hSw z14; have e9_12 := Bel.keep hSw z15; go_simp; (try with_reducible rfl); done)
                  | (refine Or.inr ⟨by rfl, ?_⟩; rfl)
              simp only [List.getElem_toArray, List.getElem_cons_succ, List.getElem_cons_zero, Act.put, List.setIfInBounds_toArray, List.set_cons_zero, List.set_cons_succ]
              refine tk 6 (v := ?_) ?_ ?_
              rotate_left 1
              · first
                  | (refine Or.inl ⟨by rfl, ?_⟩; intro w9 hSw; have e9_0 := Bel.keep hSw z3; have e9_1 := Bel.keep hSw z4; have e9_2 := Bel.keep hSw z5; have e9_3 := Bel.keep hSw z6; have e9_4 := Bel.keep hSw z7; have e9_5 := Bel.keep hSw z8; have e9_6 := Bel.keep hSw z9; have e9_7 := Bel.keep hSw z10; have e9_8 := Bel.keep hSw z11; have e9_9 := Bel.keep hSw z12; have e9_10 := Bel.keep hSw z13; have e9_11 := Bel.keep hSw z14; have e9_12 := Bel.keep hSw z15; go_simp; (try with_reducible rfl); done)
                  | (refine Or.inr ⟨by rfl, ?_⟩; rfl)
              simp only [List.getElem_toArray, List.getElem_cons_succ, List.getElem_cons_zero, Act.put, List.setIfInBounds_toArray, List.set_cons_zero, List.set_cons_succ]
              refine wpAnyH_ready (rs := [7]) (by kernel_rfl) (by simp) ?_
              refine AllReadyH.cons (o := _) rfl (fun K hK => ?_) AllReadyH.nil
              go_simp
              obtain ⟨U1, h1, k1, l1, s1⟩ := alloc_step V 35 [.slice pa pn pc, .slice ka kn kc]
              rw [h1]
              refine hK.out _ _ (l1.trans (Bel.drew U1)) (fun hHeld => ?_)
              clear hK K
              refine wpAnyH_ready (rs := [8]) (by kernel_rfl) (by simp) ?_
              refine AllReadyH.cons (o := _) rfl (fun K hK => ?_) AllReadyH.nil
              go_simp
              refine (HCO.out _ _ (l1.trans (Bel.drew U1)) (k1.bel (Bel.drew U1))).mono ?_
              rintro e2 w2 ⟨ra, rn, rc, rfl, hrl, hro, hb2⟩
              dsimp only
              have HBU := Lib.hid ((l1.trans (Bel.drew U1)).trans hb2)
              have HNM := Lib.hid hro.names
              have HRL := Lib.hid hrl
              refine hK.out _ _ HBU.out (fun hHeld => ?_)
              clear hK K
              refine wpAnyH_ready (rs := [9]) (by kernel_rfl) (by simp) ?_
              refine AllReadyH.cons (o := _) rfl (fun K hK => ?_) AllReadyH.nil
              go_simp
              refine (HDC.out w2 ra rn rc HBU.out HNM.out HRL.out).mono ?_
              rintro e3 w3 ⟨rfl, hb3⟩
              dsimp only
              have HB3 := Lib.hid ((HBV.out.trans HBU.out).trans hb3)
              refine hK.out _ _ (HBU.out.trans hb3) (fun hHeld => ?_)
              clear hK K
              refine tk 10 (v := ?_) ?_ ?_
              rotate_left 1
              · first
                  | (refine Or.inl ⟨by rfl, ?_⟩; intro w9 hSw; go_simp; (try with_reducible rfl); done)
                  | (refine Or.inr ⟨by rfl, ?_⟩; rfl)
              simp only [List.getElem_toArray, List.getElem_cons_succ, List.getElem_cons_zero, Act.put, List.setIfInBounds_toArray, List.set_cons_zero, List.set_cons_succ]
              refine wpAnyH_done (by kernel_rfl) ?_ _
              clear hHeld h1 k1 l1 s1 hrl hro hb2 hb3 HBU HNM HRL HCO HDC HBV z3 z4 z5 z6 z7 z8 z9 z10 z11 z12 z13 z14 z15
              by_cases hc0 : c = 0
              · subst hc0
                have HN2 : Hid (nz ((m.des.drop (j3 + 1)).map fun x => decE x.lg (scDe m x)) = C) := Lib.hid (by have h1 := HALL.out; rw [if_pos rfl] at h1; exact h1.symm)
                clear HALL
                go_wp2_with fail
                exact ⟨⟨j3 + 1, by go_num, by omega, HN2, HB3⟩, by simp [intOf]; omega⟩
              · have hcb : ((c : Int) == 0) = false := by simpa using hc0
                have HRE : Hid (c = R) := Lib.hid (by
                  have h1 := HALL.out
                  rw [if_neg hc0] at h1
                  exact h1.symm.trans HR3.out)
                clear hc0 HALL
                go_wp2_with fail
                go_ret
                exact ⟨by rw [HRE.out]; rfl, HBW2.out.trans HB3.out⟩
            · have hji : ¬ (j3 : Int) < en := by omega
              have HRE : Hid (R = 0) := Lib.hid (by
                have h1 := HN.out
                rw [List.drop_of_length_le (by have := HDS.out; omega)] at h1
                rw [← HR3.out, ← h1]
                rfl)
              clear HN
              go_wp2_with fail
              go_ret
              exact ⟨by rw [HRE.out]; rfl, HBW2.out.trans HB.out⟩
end Go.Proofs.YtbcdbefogfmhfaaGreatDoor
