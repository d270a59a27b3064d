/-
  logic: the walks of the document's empty, form, exprs, names, and of the document's tests' Check.
-/
import Derived.Test.YtchbhcjhoocjaaaGreatDoorRLB
import Derived.Test.YtchbhcjhoocjaaaGreatDoorRLD
namespace Go.Proofs.YtchbhcjhoocjaaaGreatDoor
open Go.RowKit

theorem empty_split (e : Ex) : sameE e emptyE = (decide (e.k = 0) && (decide (e.s = ⟨#[]⟩) && (decide (e.ns.length = 0) && decide (e.l.length = 0)))) := by
  obtain ⟨k, s, ns, l⟩ := e
  unfold sameE emptyE
  cases ns <;> cases l <;> simp [samesE, Ex.k, Ex.s, Ex.ns, Ex.l]
  exact congrArg (decide (k = 0) && ·) (decide_eq_decide.2 Iff.rfl)
theorem size_none {p : ByteArray} (h : p.size = 0) : p = ⟨#[]⟩ := ByteArray.ext (Array.eq_empty_of_size_eq_zero h)
theorem size_some {p : ByteArray} (h : ¬ p.size = 0) : decide (p = (⟨#[]⟩ : ByteArray)) = false := by
  rw [decide_eq_false_iff_not]; rintro rfl; exact h rfl
theorem size_list {p : ByteArray} (h : ¬ p.size = 0) : p.toList.isEmpty = false := by rw [lisEmpty, decide_eq_false h]
set_option maxRecDepth 100000 in
set_option maxHeartbeats 4000000 in
theorem rempty_c (e : Ex) (vn vl : Value) (w : World) (hat : ExAt w e vn vl) (hb : e.bulk ≤ 1073741824) : Calls Tryz.prog 115 #[.agg #[.int .i64 e.k, .string e.s, vn, vl]] w (RetBel (.bool (sameE e emptyE)) w) := by
  obtain ⟨na, la, nn, nc, m, lc, rfl, rfl, hnn, hm, hnc, hlc, hnb, hmb, _, _⟩ := hat.opened
  rw [empty_split, hnn, hm]
  obtain ⟨k, hk⟩ : ∃ k, e.k = k := ⟨_, rfl⟩
  obtain ⟨s, hs⟩ : ∃ k, e.s = k := ⟨_, rfl⟩
  rw [hk, hs]
  have hn2 : nn ≤ 1073741824 := by omega
  have hm2 : m ≤ 1073741824 := by omega
  clear hat hk hs hnn hm hnb hmb hnc hlc hb
  by_cases h0 : k = 0
  · subst h0
    by_cases hp : s.size = 0
    · obtain rfl := size_none hp
      by_cases h1 : nn = 0
      · subst h1
        by_cases h2 : m = 0
        · subst h2
          clear hp
          go_enter Tryz.func115, Tryz.ntmps115
          go_wp2_with fail
          go_ret
          exact ⟨ret_bool (by simp), by (repeat (first | exact Bel.refl _ | assumption | refine Bel.to_drewN ?_ _ | refine Bel.to_drew ?_ | refine Bel.to_setCell ?_ (by first | exact Nat.le_refl _ | (simp; done) | (simp; omega) | omega) _ | refine Bel.to_alloc ?_ _ | refine Bel.trans ?_ (by assumption)))⟩
        · have h3 : ((m : Int) == 0) = false := by simpa using h2
          clear hp
          go_enter Tryz.func115, Tryz.ntmps115
          go_wp2_with fail
          go_ret
          exact ⟨ret_bool (by simp [h2]), by (repeat (first | exact Bel.refl _ | assumption | refine Bel.to_drewN ?_ _ | refine Bel.to_drew ?_ | refine Bel.to_setCell ?_ (by first | exact Nat.le_refl _ | (simp; done) | (simp; omega) | omega) _ | refine Bel.to_alloc ?_ _ | refine Bel.trans ?_ (by assumption)))⟩
      · have h3 : ((nn : Int) == 0) = false := by simpa using h1
        clear hp
        go_enter Tryz.func115, Tryz.ntmps115
        go_wp2_with fail
        go_ret
        exact ⟨ret_bool (by simp [h1]), by (repeat (first | exact Bel.refl _ | assumption | refine Bel.to_drewN ?_ _ | refine Bel.to_drew ?_ | refine Bel.to_setCell ?_ (by first | exact Nat.le_refl _ | (simp; done) | (simp; omega) | omega) _ | refine Bel.to_alloc ?_ _ | refine Bel.trans ?_ (by assumption)))⟩
    · have h3 := size_list hp
      have h4 := size_some hp
      rw [h4]
      go_enter Tryz.func115, Tryz.ntmps115
      go_wp2_with fail
      go_ret
      exact ⟨ret_bool (by simp), by (repeat (first | exact Bel.refl _ | assumption | refine Bel.to_drewN ?_ _ | refine Bel.to_drew ?_ | refine Bel.to_setCell ?_ (by first | exact Nat.le_refl _ | (simp; done) | (simp; omega) | omega) _ | refine Bel.to_alloc ?_ _ | refine Bel.trans ?_ (by assumption)))⟩
  · have h3 : (k == 0) = false := by simpa using h0
    rw [decide_eq_false h0]
    go_enter Tryz.func115, Tryz.ntmps115
    go_wp2_with fail
    go_ret
    exact ⟨ret_bool (by simp), by (repeat (first | exact Bel.refl _ | assumption | refine Bel.to_drewN ?_ _ | refine Bel.to_drew ?_ | refine Bel.to_setCell ?_ (by first | exact Nat.le_refl _ | (simp; done) | (simp; omega) | omega) _ | refine Bel.to_alloc ?_ _ | refine Bel.trans ?_ (by assumption)))⟩

set_option maxRecDepth 100000 in
set_option maxHeartbeats 4000000 in
theorem rexprs_c (l : List Ex) (a : Option Addr) (n c : Nat) (w : World) (hn : l.length = n) (hn2 : n ≤ 1073741824) (hbk : ∀ x ∈ l, x.bulk ≤ 1073741824) (hps : PartsAt w a l) :
    Calls Tryz.prog 83 #[.slice a n c] w (RetBel (.int .i64 (exprsE l)) w) := by
  obtain ⟨R, hR⟩ : ∃ R, exprsE l = R := ⟨_, rfl⟩
  rw [hR]
  unfold exprsE at hR
  have HR := Lib.hid hR
  have HM := Lib.hid hn
  have PS := Lib.hid hps
  have HBK := Lib.hid hbk
  clear hR hn hps hbk
  go_enter Tryz.func83, Tryz.ntmps83
  go_wp2_with fail
  go_loopw [3] (fun i wr => ∃ j : Nat, j ≤ n ∧ i = .int .i64 j ∧ Bel w wr ∧ nz ((l.drop j).map exprE) = R) (fun i _ => n - (intOf i).toNat)
  case atStart => exact ⟨0, Nat.zero_le _, rfl, Bel.refl _, HR.out⟩
  case round =>
    obtain ⟨j, hj, rfl, hbel, hck⟩ := hrel
    by_cases hlt : j < n
    · have hlti : (j : Int) < n := by omega
      obtain ⟨x, hx⟩ : ∃ x, l[j]? = some x := ⟨_, List.getElem?_eq_getElem (by have := HM.out; omega)⟩
      obtain ⟨b, off, xna, xnn, xnc, xla, xln, xlc, rfl, g0, g1, g2, g3, hxa⟩ := PS.out j x hx
      have f0 := hbel.keep g0
      have f1 := hbel.keep g1
      have f2 := hbel.keep g2
      have f3 := hbel.keep g3
      have HC := Lib.hid (fun W (hW : Bel w W) => rcheck_x x _ _ W (HBK.out x (List.mem_of_getElem? hx)) (ExAt.bel hW x hxa))
      rw [nz_map_drop exprE l j x hx] at hck
      rw [show exprE x = if CheckE x = 0 then (if x.k = 19 then 17 else 0) else CheckE x from rfl] at hck
      obtain ⟨k, hk⟩ : ∃ k, CheckE x = k := ⟨_, rfl⟩
      rw [hk] at HC hck
      obtain ⟨b19, hb19⟩ : ∃ b, (x.k == 19) = b := ⟨_, rfl⟩
      rw [show (if x.k = 19 then 17 else 0) = if b19 = true then 17 else 0 from by rw [← hb19]; simp] at hck
      have HB := Lib.hid hbel
      have HCK := Lib.hid hck
      clear g0 g1 g2 g3 hxa hx hck hbel hk
      go_wp2_with fail
      refine (HC.out _ HB.out).mono ?_
      rintro e2 w2 ⟨rfl, hb2⟩
      have c0 := hb2.keep f0
      have HB2 := Lib.hid (HB.out.trans hb2)
      clear hb2 HC
      by_cases hk0 : k = 0
      · subst hk0
        cases b19
        · go_wp2_with fail
          exact ⟨⟨j + 1, by omega, by go_num, HB2.out, by have := HCK.out; simpa using this⟩, by simp [intOf]; omega⟩
        · have HF : Hid (17 = R) := Lib.hid (by have := HCK.out; simpa using this)
          clear HCK
          go_wp2_with fail
          go_ret
          exact ⟨ret_int (by rw [← HF.out]; rfl), HB2.out⟩
      · have hc2 : ((k : Int) == 0) = false := by simpa using hk0
        have hc3 : ((k : Int) != 0) = true := by simpa using hk0
        have HF : Hid (k = R) := Lib.hid (by have := HCK.out; simpa [hk0] using this)
        clear hk0 HCK
        go_wp2_with fail
        go_ret
        exact ⟨ret_int (by rw [HF.out]), HB2.out⟩
    · obtain rfl : j = n := by omega
      rw [nz_map_end _ _ _ (by have := HM.out; omega)] at hck
      subst hck
      go_wp2_with fail
      go_ret
      exact ⟨rfl, hbel⟩

set_option maxRecDepth 100000 in
set_option maxHeartbeats 4000000 in
theorem rtcheck_c (t : Te) (a : Option Addr) (n c : Nat) (w : World) (hn : t.l.length = n) (hn2 : n ≤ 1073741824) (hbk : ∀ x ∈ t.l, x.bulk ≤ 1073741824) (hps : PartsAt w a t.l) :
    Calls Tryz.prog 117 #[.agg #[.bool t.any, .bool t.no, .slice a n c]] w (RetBel (.int .i64 (CheckT t)) w) := by
  obtain ⟨any, no, l⟩ := t
  unfold CheckT
  dsimp only at hn hbk hps ⊢
  rw [hn]
  obtain ⟨R, hR⟩ : ∃ R, nz (l.map CheckE) = R := ⟨_, rfl⟩
  rw [hR]
  obtain ⟨B, hB⟩ : ∃ B, ((any && no) || (any != decide (n = 0))) = B := ⟨_, rfl⟩
  rw [hB]
  obtain ⟨T, hT⟩ : ∃ T, (if B = true then 17 else R) = T := ⟨_, rfl⟩
  rw [hT]
  have HT := Lib.hid hT
  clear hT
  have HR := Lib.hid hR
  have HM := Lib.hid hn
  have PS := Lib.hid hps
  have HBK := Lib.hid hbk
  have HBB := Lib.hid hB
  obtain ⟨V1, z1, m1, l1, s1⟩ := alloc_step w 36 [.bool any, .bool no, .slice a n c]
  have T0 := Lib.hid m1
  have HB0 := Lib.hid l1
  have HV1 := Lib.hid z1
  have c0 := m1.at 0
  have c1 := m1.at 1
  have c2 := m1.at 2
  clear hR hn hps hbk hB z1 m1 l1 s1
  go_enter Tryz.func117, Tryz.ntmps117
  go_upto_region 1 with fail
  rw [show w.alloc (.cells #[.bool any, .bool no, .slice a n c] 36) = V1 from HV1.out]
  clear HV1
  go_cut [27] (fun v wx => v = .bool B ∧ V1 = wx)
  case first =>
    by_cases hz : n = 0
    · subst hz
      cases any <;> cases no
      all_goals
        have hB2 := HBB.out
        simp at hB2
        subst hB2
        go_wp2_with fail
        go_meet
        exact ⟨rfl, rfl⟩
    · have hz1 : ((n : Int) == 0) = false := by simpa using hz
      have hz2 : (0 : Int) < n := by omega
      cases any <;> cases no
      all_goals
        have hB2 := HBB.out
        rw [decide_eq_false hz] at hB2
        simp at hB2
        subst hB2
        clear hz
        go_wp2_with fail
        go_meet
        exact ⟨rfl, rfl⟩
  case rest =>
  obtain ⟨rfl, rfl⟩ := hcut
  clear c0 c1 c2
  cases B with
  | true =>
    have h17 : 17 = T := HT.out
    subst h17
    clear HT
    go_wp2_with fail
    go_ret
    exact ⟨rfl, HB0.out⟩
  | false =>
  have hif : R = T := HT.out
  subst hif
  clear HT
  go_wp2_with fail
  go_loopw [3] (fun i wr => ∃ j : Nat, j ≤ n ∧ i = .int .i64 j ∧ Bel V1 wr ∧ nz ((l.drop j).map CheckE) = R) (fun i _ => n - (intOf i).toNat)
  case atStart => exact ⟨0, Nat.zero_le _, rfl, Bel.refl _, HR.out⟩
  case round =>
    obtain ⟨j, hj, rfl, hbel, hck⟩ := hrel
    have c2 := hbel.keep (T0.out.at 2)
    by_cases hlt : j < n
    · have hlti : (j : Int) < n := by omega
      obtain ⟨x, hx⟩ : ∃ x, l[j]? = some x := ⟨_, List.getElem?_eq_getElem (by have := HM.out; omega)⟩
      obtain ⟨b, off, xna, xnn, xnc, xla, xln, xlc, rfl, g0, g1, g2, g3, hxa⟩ := PS.out j x hx
      have hbw := HB0.out.trans hbel
      have f0 := hbw.keep g0
      have f1 := hbw.keep g1
      have f2 := hbw.keep g2
      have f3 := hbw.keep g3
      have HC := Lib.hid (fun W (hW : Bel w W) => rcheck_x x _ _ W (HBK.out x (List.mem_of_getElem? hx)) (ExAt.bel hW x hxa))
      rw [nz_map_drop CheckE l j x hx] at hck
      obtain ⟨k, hk⟩ : ∃ k, CheckE x = k := ⟨_, rfl⟩
      rw [hk] at HC hck
      have HB := Lib.hid hbel
      have HBW := Lib.hid hbw
      have HCK := Lib.hid hck
      clear g0 g1 g2 g3 hxa hx hck hbel hk hbw
      go_wp2_with fail
      refine (HC.out _ HBW.out).mono ?_
      rintro e2 w2 ⟨rfl, hb2⟩
      have HB2 := Lib.hid (HB.out.trans hb2)
      clear hb2 HC
      by_cases hk0 : k = 0
      · subst hk0
        go_wp2_with fail
        exact ⟨⟨j + 1, by omega, by go_num, HB2.out, by have := HCK.out; simpa using this⟩, by simp [intOf]; omega⟩
      · have hc2 : ((k : Int) == 0) = false := by simpa using hk0
        have hc3 : ((k : Int) != 0) = true := by simpa using hk0
        have HF : Hid (k = R) := Lib.hid (by have := HCK.out; simpa [hk0] using this)
        clear hk0 HCK
        go_wp2_with fail
        go_ret
        exact ⟨ret_int (by rw [HF.out]), HB0.out.trans HB2.out⟩
    · obtain rfl : j = n := by omega
      rw [nz_map_end _ _ _ (by have := HM.out; omega)] at hck
      subst hck
      go_wp2_with fail
      go_ret
      exact ⟨rfl, HB0.out.trans hbel⟩

set_option maxRecDepth 100000 in
set_option maxHeartbeats 16000000 in
theorem rrulesL_c (l : Lg) (q : LgQ) (w : World) (hat : LgAt w l q) (hb : l.bulk ≤ 1073741824) :
    Calls Tryz.prog 84 #[lgV l q] w (RetBel (.int .i64 (rusE l.ins.length l.outs.length l.rs)) w) := by
  obtain ⟨nea, nen, nec, lea, len, lec, ia, im, ic, oa, om, oc, ra, rm, rc, na, nm, nc, la, lm, lc, rfl, ⟨him, hom, hrm, hnm, hlm⟩, ⟨hci, hco, hcr, hcn, hcl⟩, ⟨hbi, hbo, hbr, hbn, hbl⟩, hex, hpi, hpo, hpr, hpn, hpl⟩ := LgAt.opened hat
  unfold lgV
  dsimp only
  obtain ⟨R, hR⟩ : ∃ R, rusE l.ins.length l.outs.length l.rs = R := ⟨_, rfl⟩
  rw [hR]
  rw [him, hom] at hR
  unfold rusE at hR
  have HR := Lib.hid hR
  have HRS := Lib.hid hpr
  have HRM := Lib.hid hrm
  have HRB : Hid (rbulks l.rs ≤ 1073741824) := Lib.hid (by have := lbulk_eq l; omega)
  have hi2 : im ≤ 1073741824 := by omega
  have ho2 : om ≤ 1073741824 := by omega
  have hr2 : rm ≤ 1073741824 := by omega
  have t0 := Blk.new w 30 [.int .i64 l.k, .int .i64 l.e.k, .string l.e.s, .slice nea nen nec, .slice lea len lec, .string l.p, .slice ia im ic, .slice oa om oc, .slice ra rm rc, .slice na nm nc, .slice la lm lc]
  have hb0 : Bel w (w.alloc (.cells #[.int .i64 l.k, .int .i64 l.e.k, .string l.e.s, .slice nea nen nec, .slice lea len lec, .string l.p, .slice ia im ic, .slice oa om oc, .slice ra rm rc, .slice na nm nc, .slice la lm lc] 30)) := Bel.alloc _ _
  clear him hom hrm hnm hlm hex hpi hpo hpr hpn hpl hat hR
  go_enter Tryz.func84, Tryz.ntmps84
  go_wp2_with fail
  obtain ⟨W0, hW0⟩ : ∃ W0, w.alloc (.cells #[.int .i64 l.k, .int .i64 l.e.k, .string l.e.s, .slice nea nen nec, .slice lea len lec, .string l.p, .slice ia im ic, .slice oa om oc, .slice ra rm rc, .slice na nm nc, .slice la lm lc] 30) = W0 := ⟨_, rfl⟩
  rw [show w.alloc (.cells [.int .i64 l.k, .int .i64 l.e.k, .string l.e.s, .slice nea nen nec, .slice lea len lec, .string l.p, .slice ia im ic, .slice oa om oc, .slice ra rm rc, .slice na nm nc, .slice la lm lc].toArray 30) = W0 from hW0] at t0
  rw [hW0] at hb0 ⊢
  have T0 := Lib.hid t0
  have HB0 := Lib.hid hb0
  clear t0 hb0 hW0
  go_loopw [3] (fun i wr => ∃ j : Nat, j ≤ rm ∧ i = .int .i64 j ∧ Bel W0 wr ∧ nz ((l.rs.drop j).map (ruE im om)) = R) (fun i _ => rm - (intOf i).toNat)
  case atStart => exact ⟨0, Nat.zero_le _, rfl, Bel.refl _, HR.out⟩
  case round =>
    obtain ⟨j, hj, rfl, hbel, hck⟩ := hrel
    have d8 := hbel.keep (T0.out.at 8)
    by_cases hlt : j < rm
    · have hlti : (j : Int) < rm := by omega
      obtain ⟨x, hx⟩ : ∃ x, l.rs[j]? = some x := ⟨_, List.getElem?_eq_getElem (by have := HRM.out; omega)⟩
      obtain ⟨b, off, rfl, vi, vo, hxc, ⟨ta, tc, rfl, htc, hti⟩, ya, yc, rfl, hyc, hyo⟩ := HRS.out j x hx
      have hbw := HB0.out.trans hbel
      have g0 := hbw.keep hxc.get0
      have g1 := hbw.keep (hxc.get 1 rfl)
      obtain ⟨tn, htn⟩ : ∃ n, x.ins.length = n := ⟨_, rfl⟩
      obtain ⟨un, hun⟩ : ∃ n, x.out.length = n := ⟨_, rfl⟩
      have hxb : tbulks x.ins + Ex.bulk.bulks x.out ≤ 1073741824 := by have := rbulks_mem (List.mem_of_getElem? hx); have := HRB.out; unfold Ru.bulk at *; omega
      have htn2 : tn ≤ 1073741824 := by have := tbulks_len x.ins; omega
      have hun2 : un ≤ 1073741824 := by have := bulks_len x.out; omega
      rw [htn] at g0 htc
      rw [hun] at g1 hyc
      rw [nz_map_drop _ l.rs j x hx] at hck
      have d6 := hbel.keep (T0.out.at 6)
      have d7 := hbel.keep (T0.out.at 7)
      have hwl : w.heap.size < wr.heap.size := cell_lt d6
      by_cases h1 : tn = im
      · by_cases h2 : un = om
        · have hru : ruE im om x = if nz (x.ins.map CheckT) = 0 then exprsE x.out else nz (x.ins.map CheckT) := by
            unfold ruE; rw [htn, hun, if_neg (by omega)]
          rw [hru] at hck
          subst h1 h2
          obtain ⟨T, hT⟩ : ∃ T, nz (x.ins.map CheckT) = T := ⟨_, rfl⟩
          rw [hT] at hck
          have HT := Lib.hid hT
          have HTI := Lib.hid hti
          have HTN := Lib.hid htn
          have HXO := Lib.hid (fun W (hW : Bel w W) => rexprs_c x.out ya un yc W hun hun2 (ex_mem_bulk (by omega)) (hyo.bel hW))
          have HXB := Lib.hid hxb
          have HCK := Lib.hid hck
          have HBW := Lib.hid hbw
          have HBL := Lib.hid hbel
          obtain ⟨wo, hwo⟩ : ∃ W, W = wr := ⟨_, rfl⟩
          subst hwo
          clear hxc hti hyo hx hck hbel hbw hru hT hxb htn hun HR
          go_wp2_with fail
          obtain ⟨W1, hW1, k1, l1, s1⟩ := alloc_step wo 34 [.slice ta tn tc, .slice ya un yc]
          rw [hW1]
          have K1 := Lib.hid k1
          have L1 := Lib.hid l1
          clear hW1 k1 l1 s1
          go_loopw [5] (fun i wr => ∃ p : Nat, p ≤ tn ∧ i = .int .i64 p ∧ Bel W1 wr ∧ nz ((x.ins.drop p).map CheckT) = T) (fun i _ => tn - (intOf i).toNat)
          case atStart => exact ⟨0, Nat.zero_le _, rfl, Bel.refl _, HT.out⟩
          case round =>
            obtain ⟨p, hp, rfl, hbel, hck⟩ := hrel
            have r0 := hbel.keep (K1.out.at 0)
            by_cases hltp : p < tn
            · have hltpi : (p : Int) < tn := by omega
              obtain ⟨y, hy⟩ : ∃ y, x.ins[p]? = some y := ⟨_, List.getElem?_eq_getElem (by have := HTN.out; omega)⟩
              obtain ⟨b2, off2, rfl, v, hyc2, za, zc, rfl, hzc, hzo⟩ := HTI.out p y hy
              have hbw := HBW.out.trans (L1.out.trans hbel)
              have f0 := hbw.keep hyc2.get0
              have f1 := hbw.keep (hyc2.get 1 rfl)
              have f2 := hbw.keep (hyc2.get 2 rfl)
              obtain ⟨zn, hzn⟩ : ∃ n, y.l.length = n := ⟨_, rfl⟩
              rw [hzn] at f2 hzc
              have hyb : Ex.bulk.bulks y.l ≤ 1073741824 := by have := tbulks_mem (List.mem_of_getElem? hy); have := HXB.out; unfold Te.bulk at *; omega
              have hzn2 : zn ≤ 1073741824 := by have := bulks_len y.l; omega
              have HC := Lib.hid (fun W (hW : Bel w W) => rtcheck_c y za zn zc W hzn hzn2 (ex_mem_bulk hyb) (hzo.bel hW))
              rw [nz_map_drop _ x.ins p y hy] at hck
              obtain ⟨c, hc⟩ : ∃ c, CheckT y = c := ⟨_, rfl⟩
              rw [hc] at HC hck
              have HBP := Lib.hid hbel
              have HBWP := Lib.hid hbw
              have HCP := Lib.hid hck
              clear hyc2 hzo hy hbw hbel hck hc hyb hzn
              go_wp2_with fail
              refine (HC.out _ HBWP.out).mono ?_
              rintro e2 w2 ⟨rfl, hb2⟩
              have HB2 := Lib.hid (HBP.out.trans hb2)
              clear hb2 HC
              by_cases hc0 : c = 0
              · subst hc0
                go_wp2_with fail
                exact ⟨⟨p + 1, by omega, by go_num, HB2.out, by have := HCP.out; simpa using this⟩, by simp [intOf]; omega⟩
              · have hc2 : ((c : Int) == 0) = false := by simpa using hc0
                have hc3 : ((c : Int) != 0) = true := by simpa using hc0
                have HF : Hid (c = R) := Lib.hid (by have h := HCP.out; rw [if_neg hc0] at h; subst h; have := HCK.out; simpa [hc0] using this)
                clear hc0 HCK HCP
                go_wp2_with fail
                go_ret
                exact ⟨ret_int (by rw [HF.out]), HBW.out.trans (L1.out.trans HB2.out)⟩
            · obtain rfl : p = tn := by omega
              rw [nz_map_end _ _ _ (by have := HTN.out; omega)] at hck
              subst hck
              have hck := HCK.out
              rw [if_pos rfl] at hck
              have HX2 := Lib.hid (HXO.out wr (HBW.out.trans (L1.out.trans hbel)))
              obtain ⟨c, hc⟩ : ∃ c, exprsE x.out = c := ⟨_, rfl⟩
              rw [hc] at HX2 hck
              have HCK2 := Lib.hid hck
              have r1 := hbel.keep (K1.out.at 1)
              have hwo2 : wo.heap.size < wr.heap.size := cell_lt r1
              have HBP := Lib.hid hbel
              clear hck hc hbel HCK HXO
              go_wp2_with fail
              refine HX2.out.mono ?_
              rintro e2 w2 ⟨rfl, hb2⟩
              have HB2 := Lib.hid (HBP.out.trans hb2)
              clear hb2 HX2
              by_cases hc0 : c = 0
              · subst hc0
                go_wp2_with fail
                exact ⟨⟨j + 1, by omega, by go_num, HBL.out.trans (L1.out.trans HB2.out), by have := HCK2.out; simpa using this⟩, by simp [intOf]; omega⟩
              · have hc2 : ((c : Int) == 0) = false := by simpa using hc0
                have hc3 : ((c : Int) != 0) = true := by simpa using hc0
                have HF : Hid (c = R) := Lib.hid (by have := HCK2.out; simpa [hc0] using this)
                clear hc0 HCK2
                go_wp2_with fail
                go_ret
                exact ⟨ret_int (by rw [HF.out]), HBW.out.trans (L1.out.trans HB2.out)⟩
        · have HF : Hid (17 = R) := Lib.hid (by have h := hck; rw [show ruE im om x = 17 from by unfold ruE; rw [htn, hun, if_pos (Or.inr h2)]] at h; simpa using h)
          subst h1
          have hne : ((un : Int) != om) = true := by simp; omega
          have hne2 : ((un : Int) == om) = false := by simp; omega
          have HBW := Lib.hid hbw
          clear hxc hti hyo hx hck hbel hbw htn hun HR h2
          go_wp2_with fail
          go_ret
          exact ⟨ret_int (by rw [← HF.out]; rfl), by have := HBW.out; (repeat (first | exact Bel.refl _ | assumption | refine Bel.to_drewN ?_ _ | refine Bel.to_drew ?_ | refine Bel.to_setCell ?_ (by first | exact Nat.le_refl _ | (simp; done) | (simp; omega) | omega) _ | refine Bel.to_alloc ?_ _ | refine Bel.trans ?_ (by assumption)))⟩
      · have HF : Hid (17 = R) := Lib.hid (by have h := hck; rw [show ruE im om x = 17 from by unfold ruE; rw [htn, hun, if_pos (Or.inl h1)]] at h; simpa using h)
        have hne : ((tn : Int) != im) = true := by simp; omega
        have hne2 : ((tn : Int) == im) = false := by simp; omega
        have HBW := Lib.hid hbw
        clear hxc hti hyo hx hck hbel hbw htn hun HR h1
        go_wp2_with fail
        go_ret
        exact ⟨ret_int (by rw [← HF.out]; rfl), by have := HBW.out; (repeat (first | exact Bel.refl _ | assumption | refine Bel.to_drewN ?_ _ | refine Bel.to_drew ?_ | refine Bel.to_setCell ?_ (by first | exact Nat.le_refl _ | (simp; done) | (simp; omega) | omega) _ | refine Bel.to_alloc ?_ _ | refine Bel.trans ?_ (by assumption)))⟩
    · obtain rfl : j = rm := by omega
      rw [nz_map_end _ _ _ (by have := HRM.out; omega)] at hck
      subst hck
      clear HR
      go_wp2_with fail
      go_ret
      exact ⟨rfl, HB0.out.trans hbel⟩

end Go.Proofs.YtchbhcjhoocjaaaGreatDoor
