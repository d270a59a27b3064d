/-
  logic: the walks of the document's parts and within.
-/
import Derived.Test.YtchbhcjhoocjaaaGreatDoorRLI
namespace Go.Proofs.YtchbhcjhoocjaaaGreatDoor
open Go.RowKit

theorem cellsP_new (w : World) (cs : List Value) (t : TypeId) : ∀ j u, cs[j]? = some u → (w.alloc (.cells cs.toArray t)).cell? ((⟨w.heap.size, 0, none⟩ : Addr).add j) = some u := by
  intro j u hj
  rw [show ((⟨w.heap.size, 0, none⟩ : Addr).add j) = ⟨w.heap.size, j, none⟩ from by simp [Addr.add]; omega, (Blk.new w t cs).at]
  exact hj
def RetExs (L : List Ex) (w : World) (e : Ending) (w' : World) : Prop := ∃ a n c, e = .returned (.slice a n c) ∧ L.length = n ∧ n ≤ c ∧ PartsAt w' a L ∧ Bel w w'
theorem flat_take_len {α : Type} (f : α → List Ex) (l : List α) (j : Nat) : ((l.take j).flatMap f).length ≤ (l.flatMap f).length := by
  conv => rhs; rw [← List.take_append_drop j l, List.flatMap_append, List.length_append]
  omega
theorem flat_take_succ {α : Type} (f : α → List Ex) (l : List α) (j : Nat) (x : α) (h : l[j]? = some x) : (l.take (j + 1)).flatMap f = (l.take j).flatMap f ++ f x := by
  obtain ⟨hl, rfl⟩ := List.getElem?_eq_some_iff.1 h
  rw [List.take_succ_eq_append_getElem hl, List.flatMap_append]
  simp
theorem parts_len (l : Lg) : (partsL l).length ≤ l.bulk := by
  have h1 := bulks_len (partsL l)
  have h2 := bulks_partsL l
  have h3 := lbulk_eq l
  omega
/-- What the rows of parts so far say. -/
def PartW (u V : World) (L : List Ex) (v : Value) (W : World) : Prop := ∃ n xs, W.ownsRow V.heap.size 26 4 v n xs ∧ PRow u xs L ∧ Bel V W
theorem PartW.len {u V W : World} {L : List Ex} {v : Value} {n : Nat} {xs : List Value} (h : W.ownsRow V.heap.size 26 4 v n xs) (hp : PRow u xs L) : n = L.length := by have h1 := h.1; have h2 := hp.1; omega

set_option maxRecDepth 100000 in
set_option maxHeartbeats 16000000 in
theorem rpartsL_c (l : Lg) (q : LgQ) (w : World) (hat : LgAt w l q) (hb : l.bulk ≤ 1073741824) : Calls Tryz.prog 49 #[lgV l q] w (RetExs (partsL l) w) := by
  obtain ⟨nea, nen, nec, lea, len, lec, ia, im, ic, oa, om, oc, ra, rm, rc, na, nm, nc, la, lm, lc, rfl, ⟨him, hom, hrm, hnm, hlm⟩, ⟨hci, hco, hcr, hcn, hcl⟩, ⟨hbi, hbo, hbr, hbn, hbl⟩, hex, hpi, hpo, hpr, hpn, hpl⟩ := LgAt.opened hat
  unfold lgV
  dsimp only
  have hbe := lbulk_eq l
  have HPL := Lib.hid (parts_len l)
  obtain ⟨yi, hyi, hni, hoi⟩ := prow_of hpi
  have HYI := Lib.hid hyi
  have HNI := Lib.hid hni
  have HOI := Lib.hid hoi
  have HIM := Lib.hid him
  have HRM := Lib.hid hrm
  have HPR := Lib.hid hpr
  have HEX := Lib.hid hex
  have HRB : Hid (rbulks l.rs ≤ 1073741824) := Lib.hid (by omega)
  have hr2 : rm ≤ 1073741824 := by omega
  have hi2 : im ≤ 1073741824 := by omega
  obtain ⟨b03, hb03⟩ : ∃ b, decide (l.k = 0 ∨ l.k = 3) = b := ⟨_, rfl⟩
  obtain ⟨L0, hL0⟩ : ∃ L : List Ex, (if b03 = true then [l.e] else []) = L := ⟨_, rfl⟩
  have hPE : partsL l = L0 ++ (l.ins ++ l.rs.flatMap ruParts) := by
    unfold partsL
    rw [← hL0, ← hb03]
    simp
  have HPE := Lib.hid hPE
  have HL0 := Lib.hid hL0
  have hl0 : L0.length ≤ 1 := by rw [← hL0]; split <;> simp
  obtain ⟨k, hk⟩ : ∃ k, l.k = k := ⟨_, rfl⟩
  rw [hk] at hb03 ⊢
  obtain ⟨V1, h1, k1, l1, s1⟩ := alloc_step w 30 [.int .i64 k, .int .i64 l.e.k, .string l.e.s, .slice nea nen nec, .slice lea len lec, .string l.p, .slice ia im ic, .slice oa om oc, .slice ra rm rc, .slice na nm nc, .slice la lm lc]
  have HV1 := Lib.hid h1
  have T0 := Lib.hid k1
  have HB0 := Lib.hid l1
  have c0 := k1.at 0
  have c1 := k1.at 1
  have c2 := k1.at 2
  have c3 := k1.at 3
  have c4 := k1.at 4
  clear him hom hrm hnm hlm hex hpi hpo hpr hpn hpl hat hk h1 k1 l1 s1 hbe hyi hni hoi hPE hL0
  go_enter Tryz.func49, Tryz.ntmps49
  go_upto_region 1 with fail
  rw [show w.alloc (.cells #[.int .i64 k, .int .i64 l.e.k, .string l.e.s, .slice nea nen nec, .slice lea len lec, .string l.p, .slice ia im ic, .slice oa om oc, .slice ra rm rc, .slice na nm nc, .slice la lm lc] 30) = V1 from HV1.out]
  clear HV1
  go_upto_region 2 with fail
  go_cut [13] (fun v wx => v = .bool b03 ∧ V1 = wx)
  case first =>
    by_cases h0 : k = 0
    · subst h0
      have hb3 : true = b03 := by rw [← hb03]; simp
      subst hb3
      clear hb03
      go_wp2_with fail
      go_meet
      exact ⟨rfl, rfl⟩
    · have n0 : (k == 0) = false := by simpa using h0
      by_cases h3 : k = 3
      · subst h3
        have hb3 : true = b03 := by rw [← hb03]; simp
        subst hb3
        clear hb03 h0
        go_wp2_with fail
        go_meet
        exact ⟨rfl, rfl⟩
      · have n3' : (k == 3) = false := by simpa using h3
        have hb3 : false = b03 := by rw [← hb03]; simp [h0, h3]
        subst hb3
        clear hb03 h0 h3
        go_wp2_with fail
        go_meet
        exact ⟨rfl, rfl⟩
  case rest =>
  obtain ⟨rfl, rfl⟩ := hcut
  clear hb03
  go_upto_if 13 with fail
  go_cut [3] (fun v wx => PartW w V1 L0 v wx)
  case first =>
    cases b03 with
    | false =>
      have hL : [] = L0 := HL0.out
      subst hL
      go_wp2_with fail
      go_meet
      exact ⟨0, [], World.ownsRow_nil _ _ _ _, PRow.nil _, Bel.refl _⟩
    | true =>
      have hL : [l.e] = L0 := HL0.out
      subst hL
      have own0 : V1.ownsRow V1.heap.size 26 4 (.slice none 0 0) 0 [] := World.ownsRow_nil _ _ _ _
      have OWN0 := Lib.hid (own_bel own0 (Bel.alloc V1 (.cells #[.int .i64 l.e.k, .string l.e.s, .slice nea nen nec, .slice lea len lec] 26)))
      clear own0
      go_wp2_with (at_builtin; refine wpL_append1k rfl _ _ 24 rfl V1.heap.size (by simp) 26 (.agg #[.int .i64 0, .string ⟨#[]⟩, .slice none 0 0, .slice none 0 0]) 4 72 Tryz.underlying24 info_exG rfl (by decide) (by decide) _ 0 [] rfl OWN0.out ⟨V1.heap.size, 0, none⟩ 1 [.int .i64 l.e.k, .string l.e.s, .slice nea nen nec, .slice lea len lec] rfl rfl (cellsP_new _ _ _) (by simp [Value.oneCell']) (by omega) ?_; intro g cap w3 hown3 hg3; have hb3 := own_grown OWN0.out (Bel.alloc _ _) hg3 (Nat.le_refl _); have HOW3 := Lib.hid hown3; have HB3 := Lib.hid hb3; clear hown3 hg3 hb3)
      go_meet
      refine ⟨_, _, HOW3.out, ⟨rfl, fun i x hi => ?_⟩, HB3.out⟩
      match i, hi with
      | 0, hi => cases hi; exact ⟨_, _, rfl, rfl, rfl, rfl, HEX.out⟩
      | i + 1, hi => cases hi
  case rest =>
  obtain ⟨n1, xs1, hown1, hp1, hb1⟩ := hcut
  generalize wc = w1 at hown1 hb1 ⊢
  have hn1 := PartW.len hown1 hp1
  have c6 := (T0.out.bel hb1).at 6
  have HO1 := Lib.hid hown1
  have HP1 := Lib.hid hp1
  have HB1 := Lib.hid hb1
  have hn1b : n1 ≤ 1073741824 := by omega
  clear hown1 hp1 hb1 c0 c1 c2 c3 c4 HL0
  go_wp2_with (at_builtin; refine wpL_appendG2 rfl _ _ 24 rfl V1.heap.size HB1.out.size 26 (.agg #[.int .i64 0, .string ⟨#[]⟩, .slice none 0 0, .slice none 0 0]) 4 72 Tryz.underlying24 info_exG rfl (by decide) (by decide) _ n1 xs1 rfl HO1.out ia im ic yi rfl (by have := HYI.out.1; rw [HIM.out] at this; exact this) (HNI.out.bel (HB0.out.trans HB1.out)) HOI.out (by omega) ?_; intro v4 w4 hown4 hg4; have hb4 := own_grown HO1.out HB1.out hg4 (Nat.le_refl _); have HO4 := Lib.hid hown4; have HB4 := Lib.hid hb4; clear hown4 hg4 hb4)
  have HP4 := Lib.hid (HP1.out.app HYI.out)
  clear c6 HO1 HP1 HB1 hn1 hn1b HNI HOI HYI HIM hi2
  go_loopw [3, 4] (fun d i wr => ∃ (j n : Nat) (xs : List Value), j ≤ rm ∧ i = .int .i64 j ∧ wr.ownsRow V1.heap.size 26 4 d n xs ∧ PRow w xs (L0 ++ l.ins ++ (l.rs.take j).flatMap ruParts) ∧ Bel V1 wr) (fun _ i _ => rm - (intOf i).toNat)
  case atStart => exact ⟨0, _, _, Nat.zero_le _, rfl, HO4.out, by rw [List.take_zero, List.flatMap_nil, List.append_nil]; exact HP4.out, HB4.out⟩
  case round =>
    obtain ⟨j, nn, xs, hj, rfl, hown, hpr, hbel⟩ := hrel
    have c8 := (T0.out.bel hbel).at 8
    have HOW := Lib.hid hown
    have HPW := Lib.hid hpr
    have HBL := Lib.hid hbel
    have hlen := PartW.len hown hpr
    by_cases hlt : j < rm
    · have hlti : (j : Int) < rm := by omega
      obtain ⟨x, hx⟩ : ∃ x, l.rs[j]? = some x := ⟨_, List.getElem?_eq_getElem (by have := HRM.out; omega)⟩
      obtain ⟨b, off, rfl, vi, vo, hxc, ⟨ta, tc, rfl, htc, hti⟩, ya, yc, rfl, hyc, hyo⟩ := HPR.out j x hx
      have hbw := HB0.out.trans hbel
      obtain ⟨tn, htn⟩ : ∃ n, x.ins.length = n := ⟨_, rfl⟩
      obtain ⟨un, hun⟩ : ∃ n, x.out.length = n := ⟨_, rfl⟩
      rw [htn] at hxc htc
      rw [hun] at hxc hyc
      have HXC := Lib.hid hxc
      have htn2 : tn ≤ 1073741824 := by have := tbulks_len x.ins; have := rbulks_mem (List.mem_of_getElem? hx); have := HRB.out; unfold Ru.bulk at *; omega
      have hun2 : un ≤ 1073741824 := by have := bulks_len x.out; have := rbulks_mem (List.mem_of_getElem? hx); have := HRB.out; unfold Ru.bulk at *; omega
      have hpre : (L0 ++ l.ins ++ (l.rs.take j).flatMap ruParts).length + ((x.ins.flatMap fun t => t.l).length + x.out.length) ≤ l.bulk := by
        have h1 := flat_take_len ruParts l.rs (j + 1)
        rw [flat_take_succ ruParts l.rs j x hx, List.length_append, show ruParts x = (x.ins.flatMap fun t => t.l) ++ x.out from rfl, List.length_append] at h1
        have h2 := HPL.out
        rw [HPE.out, List.length_append, List.length_append] at h2
        rw [List.length_append, List.length_append]
        omega
      have HPRE := Lib.hid hpre
      have HSUC := Lib.hid (flat_take_succ ruParts l.rs j x hx)
      have HTI := Lib.hid hti
      have HTN := Lib.hid htn
      have HUN := Lib.hid hun
      have HTB : Hid (tbulks x.ins ≤ 1073741824) := Lib.hid (by have := rbulks_mem (List.mem_of_getElem? hx); have := HRB.out; unfold Ru.bulk at *; omega)
      obtain ⟨yo, hyo1, hyo2, hyo3⟩ := prow_of hyo
      have HY1 := Lib.hid hyo1
      have HY2 := Lib.hid hyo2
      have HY3 := Lib.hid hyo3
      have hnb : nn + un ≤ 1073741824 := by omega
      have HNB : Hid (nn + ((x.ins.flatMap fun t => t.l).length + un) ≤ 1073741824) := Lib.hid (by omega)
      have f0 := hbw.keep hxc.get0
      obtain ⟨wo, rfl⟩ : ∃ W, W = wr := ⟨_, rfl⟩
      obtain ⟨Lj, hLj⟩ : ∃ L, L0 ++ l.ins ++ (l.rs.take j).flatMap ruParts = L := ⟨_, rfl⟩
      rw [hLj] at HPW
      have HLJ := Lib.hid hLj
      clear hxc hti hyo hx hbel hbw htn hun hyo1 hyo2 hyo3 hown hpr hlen hpre hLj hnb
      go_wp2_with fail
      clear c8 f0
      go_loopw [3, 5] (fun d i wr => ∃ (p n : Nat) (zs : List Value), p ≤ tn ∧ i = .int .i64 p ∧ wr.ownsRow V1.heap.size 26 4 d n zs ∧ PRow w zs (Lj ++ (x.ins.take p).flatMap fun t => t.l) ∧ n = nn + ((x.ins.take p).flatMap fun t => t.l).length ∧ Bel V1 wr) (fun _ i _ => tn - (intOf i).toNat)
      case atStart => exact ⟨0, nn, xs, Nat.zero_le _, rfl, HOW.out, by rw [List.take_zero, List.flatMap_nil, List.append_nil]; exact HPW.out, by simp, HBL.out⟩
      case round =>
        obtain ⟨p, n2, zs, hp, rfl, hown, hpr, hn2, hbel⟩ := hrel
        have c8 := (T0.out.bel hbel).at 8
        have hbw := HB0.out.trans hbel
        have f0 := hbw.keep HXC.out.get0
        have f1 := hbw.keep (HXC.out.get 1 rfl)
        have HOP := Lib.hid hown
        have HPP := Lib.hid hpr
        have HBP := Lib.hid hbel
        have HN2 := Lib.hid hn2
        by_cases hltp : p < tn
        · have hltpi : (p : Int) < tn := by omega
          obtain ⟨y, hy⟩ : ∃ y, x.ins[p]? = some y := ⟨_, List.getElem?_eq_getElem (by have := HTN.out; omega)⟩
          obtain ⟨b2, off2, rfl, v, hyc2, za, zc, rfl, hzc, hzo⟩ := HTI.out p y hy
          obtain ⟨zn, hzn⟩ : ∃ n, y.l.length = n := ⟨_, rfl⟩
          rw [hzn] at hyc2 hzc
          have f2 := hbw.keep (hyc2.get 2 rfl)
          obtain ⟨yz, hz1, hz2, hz3⟩ := prow_of hzo
          have hzl : yz.length = zn * 4 := by rw [← hzn]; exact hz1.1
          have HZ1 := Lib.hid hz1
          have HZ2 := Lib.hid (hz2.bel hbw)
          have HZ3 := Lib.hid hz3
          have HZL := Lib.hid hzl
          have HSP := Lib.hid (flat_take_succ (fun t : Te => t.l) x.ins p y hy)
          have hb3 : n2 + zn ≤ 1073741824 := by
            have h1 := flat_take_len (fun t : Te => t.l) x.ins (p + 1)
            rw [HSP.out, List.length_append] at h1
            have h1' : ((x.ins.take p).flatMap fun t => t.l).length + y.l.length ≤ (x.ins.flatMap fun t => t.l).length := h1
            have h2 := HNB.out
            omega
          have HZN := Lib.hid hzn
          clear hyc2 hzo hy hz1 hz2 hz3 hzl hown hpr hbel hbw hn2 hzn
          go_wp2_with (at_builtin; refine wpL_appendG2 rfl _ _ 24 rfl V1.heap.size HBP.out.size 26 (.agg #[.int .i64 0, .string ⟨#[]⟩, .slice none 0 0, .slice none 0 0]) 4 72 Tryz.underlying24 info_exG rfl (by decide) (by decide) _ n2 zs rfl HOP.out za zn zc yz rfl HZL.out HZ2.out HZ3.out (by omega) ?_; intro v4 w4 hown4 hg4; have hb4 := own_grown HOP.out HBP.out hg4 (Nat.le_refl _); have HO4 := Lib.hid hown4; have HB4 := Lib.hid hb4; clear hown4 hg4 hb4)
          exact ⟨⟨p + 1, _, _, by omega, by go_num, HO4.out, by rw [HSP.out, ← List.append_assoc]; exact HPP.out.app HZ1.out, by rw [HSP.out, List.length_append, HZN.out, HN2.out]; omega, HB4.out⟩, by simp [intOf]; omega⟩
        · have hptn : p = tn := by omega
          have hfull : (x.ins.take p).flatMap (fun t => t.l) = x.ins.flatMap fun t => t.l := by rw [List.take_of_length_le (by have := HTN.out; omega)]
          rw [hfull] at hn2 hpr
          have HPQ := Lib.hid (hpr.app HY1.out)
          have HYL : Hid (yo.length = un * 4) := Lib.hid (by rw [← HUN.out]; exact HY1.out.1)
          have hb3 : n2 + un ≤ 1073741824 := by have := HNB.out; omega
          have hpt : ¬ (p : Int) < tn := by omega
          have HPT := Lib.hid hptn
          have HW := Lib.hid (HY2.out.bel hbw)
          clear hown hpr hbel hbw hn2 HPP hfull hltp hptn
          go_wp2_with (at_builtin; refine wpL_appendG2 rfl _ _ 24 rfl V1.heap.size HBP.out.size 26 (.agg #[.int .i64 0, .string ⟨#[]⟩, .slice none 0 0, .slice none 0 0]) 4 72 Tryz.underlying24 info_exG rfl (by decide) (by decide) _ n2 zs rfl HOP.out ya un yc yo rfl HYL.out HW.out HY3.out (by omega) ?_; intro v4 w4 hown4 hg4; have hb4 := own_grown HOP.out HBP.out hg4 (Nat.le_refl _); have HO4 := Lib.hid hown4; have HB4 := Lib.hid hb4; clear hown4 hg4 hb4)
          exact ⟨⟨j + 1, _, _, by omega, by go_num, HO4.out, by rw [HSUC.out, ← List.append_assoc, HLJ.out, show ruParts x = (x.ins.flatMap fun t => t.l) ++ x.out from rfl, ← List.append_assoc]; exact HPQ.out, HB4.out⟩, by simp [intOf]; omega⟩
    · have hjr : j = rm := by omega
      have hfull : L0 ++ l.ins ++ (l.rs.take j).flatMap ruParts = partsL l := by rw [List.take_of_length_le (by have := HRM.out; omega), HPE.out, List.append_assoc]
      rw [hfull] at hpr
      obtain ⟨⟨a, c, hd, hc, hpa⟩, hn⟩ := exsV_prow hown hpr (HB0.out.trans hbel)
      have HD := Lib.hid hd
      have HC := Lib.hid hc
      have HPA := Lib.hid hpa
      have hpt : ¬ (j : Int) < rm := by omega
      clear hd hc hpa hn hown hpr hbel hlen hfull hjr hlt
      go_wp2_with fail
      go_ret
      exact ⟨a, _, c, by rw [HD.out]; rfl, rfl, HC.out, HPA.out, HB0.out.trans HBL.out⟩
end Go.Proofs.YtchbhcjhoocjaaaGreatDoor
