/-
  logic: the walk through all expressions of one.
-/
import Derived.Test.YtchbhcjhoocjaaaGreatDoorLGB
namespace Go.Proofs.YtchbhcjhoocjaaaGreatDoor
open Go.RowKit

/-- What each is to answer: all were gone through, or not. -/
def RetEach (C : List Ex → World → Prop) (Jx : World → Prop) (R : List Ex) (pb : Nat) (w : World) (e : Ending) (w' : World) : Prop :=
  ((e = .returned (.bool true) ∧ C R w') ∨ (e = .returned (.bool false) ∧ Jx w')) ∧ But pb pb w w'
/-- What stands behind the first question. -/
def EachCut (C : List Ex → World → Prop) (Jx : World → Prop) (R : List Ex) (pb : Nat) (w : World) (v : Value) (w' : World) : Prop :=
  ((v = .bool false ∧ C R w') ∨ (v = .bool true ∧ Jx w')) ∧ But pb pb w w'
theorem drop_cons {α : Type} {l : List α} {i : Nat} {x : α} (h : l[i]? = some x) : l.drop i = x :: l.drop (i + 1) := by
  obtain ⟨hi, hx⟩ := List.getElem?_eq_some_iff.1 h
  rw [List.drop_eq_getElem_cons hi, hx]
theorem drop_end {α : Type} {l : List α} {i : Nat} (h : l.length ≤ i) : l.drop i = [] := List.drop_of_length_le h

set_option maxRecDepth 100000 in
set_option maxHeartbeats 16000000 in
theorem each_c (l : Lg) (q : LgQ) (h : Nat) (caps : Array Value) (pb : Nat) (C : List Ex → World → Prop) (Jx : World → Prop) (u w : World)
    (hen : ∀ args w, (callFunc h args).run Tryz.prog w = .ok (.enter h args) w) (hat : LgAt u l q) (hb : l.bulk ≤ 1073741824)
    (hCu : ∀ R W, C R W → Bel u W) (hCb : ∀ R W W', C R W → Bel W W' → C R W') (h0 : C (partsL l) w) (hpb : pb < w.heap.size)
    (hcall : ∀ x R xn xl W, C (x :: R) W → ExAt u x xn xl → x.bulk ≤ 1073741824 → Calls Tryz.prog h (#[.agg #[.int .i64 x.k, .string x.s, xn, xl]] ++ caps) W (RetEach C Jx R pb W)) :
    Calls Tryz.prog 46 #[lgV l q, .func (.func h) #[] caps] w (RetEach C Jx [] pb w) := by
  have hbe := lbulk_eq l
  obtain ⟨nea, nen, nec, lea, len, lec, ia, im, ic, oa, om, oc, ra, rm, rc, na, nm, nc, la, lm, lc, rfl, ⟨him, hom, hrm, hnm, hlm⟩, ⟨hci, hco, hcr, hcn, hcl⟩, ⟨hbi, hbo, hbr, hbn, hbl⟩, hex, hpi, hpo, hpr, hpn, hpl⟩ := LgAt.opened hat
  unfold lgV
  dsimp only
  have t0 := Blk.new w 30 [.int .i64 l.k, .int .i64 l.e.k, .string l.e.s, .slice nea nen nec, .slice lea len lec, .string l.p, .slice ia im ic, .slice oa om oc, .slice ra rm rc, .slice na nm nc, .slice la lm lc]
  have hb0 : Bel w (w.alloc (.cells #[.int .i64 l.k, .int .i64 l.e.k, .string l.e.s, .slice nea nen nec, .slice lea len lec, .string l.p, .slice ia im ic, .slice oa om oc, .slice ra rm rc, .slice na nm nc, .slice la lm lc] 30)) := Bel.alloc _ _
  obtain ⟨W0, hW0⟩ : ∃ W0, w.alloc (.cells #[.int .i64 l.k, .int .i64 l.e.k, .string l.e.s, .slice nea nen nec, .slice lea len lec, .string l.p, .slice ia im ic, .slice oa om oc, .slice ra rm rc, .slice na nm nc, .slice la lm lc] 30) = W0 := ⟨_, rfl⟩
  rw [show w.alloc (.cells [.int .i64 l.k, .int .i64 l.e.k, .string l.e.s, .slice nea nen nec, .slice lea len lec, .string l.p, .slice ia im ic, .slice oa om oc, .slice ra rm rc, .slice na nm nc, .slice la lm lc].toArray 30) = W0 from hW0] at t0
  have hb0' := hb0
  rw [hW0] at hb0'
  obtain ⟨L1, hL1⟩ : ∃ L, l.ins ++ l.rs.flatMap ruParts = L := ⟨_, rfl⟩
  have hC0 : C ((if l.k = 0 ∨ l.k = 3 then [l.e] else []) ++ L1) W0 := by rw [← hL1]; exact hCb _ _ _ h0 hb0'
  obtain ⟨k, hk⟩ : ∃ k, l.k = k := ⟨_, rfl⟩
  rw [hk] at hC0 t0 hW0 ⊢
  have c0 := Blk.at t0 0
  have c1 := Blk.at t0 1
  have c2 := Blk.at t0 2
  have c3 := Blk.at t0 3
  have c4 := Blk.at t0 4
  have c5 := Blk.at t0 5
  have c6 := Blk.at t0 6
  have c7 := Blk.at t0 7
  have c8 := Blk.at t0 8
  have c9 := Blk.at t0 9
  have c10 := Blk.at t0 10
  have hpne : w.heap.size ≠ pb := by omega
  have HE0 := Lib.hid (fun R (h : C (l.e :: R) W0) => hcall l.e R _ _ W0 h hex (by omega))
  have HCALL := Lib.hid hcall
  have HCU := Lib.hid hCu
  have HCB := Lib.hid hCb
  have HC0 := Lib.hid hC0
  have HB0 := Lib.hid hb0'
  have T0 := Lib.hid t0
  have HL1 := Lib.hid hL1
  have HPI := Lib.hid hpi
  have HPR := Lib.hid hpr
  have HIM := Lib.hid him
  have HRM := Lib.hid hrm
  have HIB : Hid (Ex.bulk.bulks l.ins ≤ 1073741824) := Lib.hid (by omega)
  have HRB : Hid (rbulks l.rs ≤ 1073741824) := Lib.hid (by omega)
  have hi2 : im ≤ 1073741824 := by omega
  have hr2 : rm ≤ 1073741824 := by omega
  have HW0 := Lib.hid hW0
  clear him hom hrm hnm hlm hex hpi hpo hpr hpn hpl hat hb0 hb0' hcall hCu hCb h0 hC0 t0 hL1 hk hbe hW0
  go_enter Tryz.func46, Tryz.ntmps46
  go_upto_region 1 with fail
  rw [show w.alloc (.cells #[.int .i64 k, .int .i64 l.e.k, .string l.e.s, .slice nea nen nec, .slice lea len lec, .string l.p, .slice ia im ic, .slice oa om oc, .slice ra rm rc, .slice na nm nc, .slice la lm lc] 30) = W0 from HW0.out]
  go_cut [29] (fun v wx => EachCut C Jx L1 pb W0 v wx)
  case first =>
    by_cases hk : k = 0 ∨ k = 3
    · have HC := Lib.hid (HE0.out L1 (by have := HC0.out; rwa [if_pos hk] at this))
      rcases hk with rfl | rfl
      all_goals
        go_wp2_with fail
        refine HC.out.mono ?_
        rintro e2 w2 ⟨⟨rfl, hc2⟩ | ⟨rfl, hx2⟩, hbut⟩
        · go_wp2_with fail
          go_meet
          exact ⟨.inl ⟨rfl, hc2⟩, hbut⟩
        · go_wp2_with fail
          go_meet
          exact ⟨.inr ⟨rfl, hx2⟩, hbut⟩
    · have HC : Hid (C L1 W0) := Lib.hid (by have := HC0.out; rwa [if_neg hk] at this)
      have n0 : (k == 0) = false := by simp; omega
      have n3 : (k == 3) = false := by simp; omega
      clear hk
      go_wp2_with fail
      go_meet
      exact ⟨.inl ⟨rfl, HC.out⟩, But.refl _ _ _⟩
  case rest =>
  obtain ⟨⟨rfl, hc1⟩ | ⟨rfl, hx1⟩, hbut1⟩ := hcut
  rotate_left 1
  · go_wp2_with fail
    go_ret
    exact ⟨.inr ⟨rfl, hx1⟩, ((HB0.out.but _ _).trans hbut1)⟩
  have hnb1 : wc.heap.size ≥ 0 := Nat.zero_le _
  have d6 := hbut1.keep c6 hpne hpne
  have d8 := hbut1.keep c8 hpne hpne
  have HD8 := Lib.hid d8
  have HC1 : Hid (C (l.ins ++ l.rs.flatMap ruParts) wc) := Lib.hid (by rw [HL1.out]; exact hc1)
  have HB1 := Lib.hid ((HB0.out.but _ _).trans hbut1)
  clear hc1 hbut1 c0 c1 c2 c3 c4 c5 c6 c7 c8 c9 c10 hnb1
  go_wp2_with fail
  go_loopw [33] (fun i wr => ∃ p : Nat, p ≤ im ∧ i = .int .i64 p ∧ C (l.ins.drop p ++ l.rs.flatMap ruParts) wr ∧ But pb pb wc wr) (fun i _ => im - (intOf i).toNat)
  case atStart => exact ⟨0, Nat.zero_le _, rfl, HC1.out, But.refl _ _ _⟩
  case round =>
    obtain ⟨p, hp, rfl, hc, hbt⟩ := hrel
    have hbu := HCU.out _ _ hc
    by_cases hlt : p < im
    · have hlti : (p : Int) < im := by omega
      obtain ⟨x, hx⟩ : ∃ x, l.ins[p]? = some x := ⟨_, List.getElem?_eq_getElem (by have := HIM.out; omega)⟩
      obtain ⟨b, off, xna, xnn, xnc, xla, xln, xlc, rfl, g0, g1, g2, g3, hxa⟩ := HPI.out p x hx
      have f0 := hbu.keep g0
      have f1 := hbu.keep g1
      have f2 := hbu.keep g2
      have f3 := hbu.keep g3
      rw [drop_cons hx, List.cons_append] at hc
      have HC := Lib.hid (fun W (hW : Bel wr W) => HCALL.out x _ _ _ W (HCB.out _ _ _ hc hW) hxa (ex_mem_bulk2 HIB.out (List.mem_of_getElem? hx)))
      have HBT := Lib.hid hbt
      clear g0 g1 g2 g3 hxa hx hc hbt hbu d6 d8
      go_wp2_with fail
      refine (HC.out _ (Bel.alloc _ _)).mono ?_
      rintro e2 w2 ⟨⟨rfl, hc2⟩ | ⟨rfl, hx2⟩, hbut⟩
      · have HC2 := Lib.hid hc2
        have HB2 := Lib.hid (HBT.out.trans (((Bel.alloc _ _).but _ _).trans hbut))
        clear hc2 hbut HC
        go_wp2_with fail
        exact ⟨⟨p + 1, by omega, by go_num, HC2.out, HB2.out⟩, by simp [intOf]; omega⟩
      · have HB2 := Lib.hid (HBT.out.trans (((Bel.alloc _ _).but _ _).trans hbut))
        have HX2 := Lib.hid hx2
        clear hx2 hbut HC
        go_wp2_with fail
        go_ret
        exact ⟨.inr ⟨rfl, HX2.out⟩, HB1.out.trans HB2.out⟩
    · obtain rfl : p = im := by omega
      rw [drop_end (by have := HIM.out; omega), List.nil_append] at hc
      have HC2 := Lib.hid hc
      have HB2 := Lib.hid (HB1.out.trans hbt)
      have e8 := hbt.keep HD8.out hpne hpne
      obtain ⟨w3, hw3⟩ : ∃ W, W = wr := ⟨_, rfl⟩
      subst hw3
      clear hc hbt hbu d6 d8
      go_wp2_with fail
      go_loopw [45] (fun i wr => ∃ j : Nat, j ≤ rm ∧ i = .int .i64 j ∧ C ((l.rs.drop j).flatMap ruParts) wr ∧ But pb pb w3 wr) (fun i _ => rm - (intOf i).toNat)
      case atStart => exact ⟨0, Nat.zero_le _, rfl, HC2.out, But.refl _ _ _⟩
      case round =>
        obtain ⟨j, hj, rfl, hc, hbt⟩ := hrel
        have hbu := HCU.out _ _ hc
        by_cases hlt : j < rm
        · have hlti : (j : Int) < rm := by omega
          obtain ⟨x, hx⟩ : ∃ x, l.rs[j]? = some x := ⟨_, List.getElem?_eq_getElem (by have := HRM.out; omega)⟩
          obtain ⟨b, off, rfl, vi, vo, hxc, ⟨ta, tc, rfl, htc, hti⟩, ya, yc, rfl, hyc, hyo⟩ := HPR.out j x hx
          have g0 := hbu.keep hxc.get0
          have g1 := hbu.keep (hxc.get 1 rfl)
          obtain ⟨tn, htn⟩ : ∃ n, x.ins.length = n := ⟨_, rfl⟩
          obtain ⟨un, hun⟩ : ∃ n, x.out.length = n := ⟨_, rfl⟩
          have hxb : tbulks x.ins + Ex.bulk.bulks x.out ≤ 1073741824 := by have := rbulks_mem (List.mem_of_getElem? hx); have := HRB.out; unfold Ru.bulk at *; omega
          have htn2 : tn ≤ 1073741824 := by have := tbulks_len x.ins; omega
          have hun2 : un ≤ 1073741824 := by have := bulks_len x.out; omega
          rw [htn] at g0 htc
          rw [hun] at g1 hyc
          obtain ⟨S, hS⟩ : ∃ S, (l.rs.drop (j + 1)).flatMap ruParts = S := ⟨_, rfl⟩
          have hcx : C ((x.ins.flatMap fun t => t.l) ++ (x.out ++ S)) wr := by
            rw [drop_cons hx, List.flatMap_cons, hS] at hc
            unfold ruParts at hc
            rwa [List.append_assoc] at hc
          have HTI := Lib.hid hti
          have HYO := Lib.hid hyo
          have HTN := Lib.hid htn
          have HUN := Lib.hid hun
          have HS := Lib.hid hS
          have HXB := Lib.hid hxb
          have HBT := Lib.hid hbt
          obtain ⟨wo, hwo⟩ : ∃ W, W = wr := ⟨_, rfl⟩
          subst hwo
          have hpo : pb < wo.heap.size := Nat.lt_of_lt_of_le (Nat.lt_of_lt_of_le (Nat.lt_of_lt_of_le hpb HB2.out.size) hbt.size) (Nat.le_refl _)
          have hpne2 : wo.heap.size ≠ pb := by omega
          have HCX := Lib.hid hcx
          clear hti hyo hxc hx hc hcx hbt hbu hS hxb htn hun e8
          go_wp2_with fail
          obtain ⟨W1, hW1, k1, l1, s1⟩ := alloc_step wo 34 [.slice ta tn tc, .slice ya un yc]
          rw [hW1]
          have K1 := Lib.hid k1
          have L1' := Lib.hid l1
          have HC1' := Lib.hid (HCB.out _ _ _ HCX.out l1)
          clear hW1 k1 l1 s1 HCX
          go_loopw [52] (fun i wr => ∃ p : Nat, p ≤ tn ∧ i = .int .i64 p ∧ C (((x.ins.drop p).flatMap fun t => t.l) ++ (x.out ++ S)) wr ∧ But pb pb W1 wr) (fun i _ => tn - (intOf i).toNat)
          case atStart => exact ⟨0, Nat.zero_le _, rfl, HC1'.out, But.refl _ _ _⟩
          case round =>
            obtain ⟨p, hp, rfl, hc, hbt⟩ := hrel
            have hbu := HCU.out _ _ hc
            by_cases hltp : p < tn
            · have hltpi : (p : Int) < tn := by omega
              obtain ⟨y, hy⟩ : ∃ y, x.ins[p]? = some y := ⟨_, List.getElem?_eq_getElem (by have := HTN.out; omega)⟩
              obtain ⟨b2, off2, rfl, v, hyc2, za, zc, rfl, hzc, hzo⟩ := HTI.out p y hy
              have f0 := hbu.keep hyc2.get0
              have f1 := hbu.keep (hyc2.get 1 rfl)
              have f2 := hbu.keep (hyc2.get 2 rfl)
              obtain ⟨zn, hzn⟩ : ∃ n, y.l.length = n := ⟨_, rfl⟩
              rw [hzn] at f2 hzc
              have hyb : Ex.bulk.bulks y.l ≤ 1073741824 := by have := tbulks_mem (List.mem_of_getElem? hy); have := HXB.out; unfold Te.bulk at *; omega
              have hzn2 : zn ≤ 1073741824 := by have := bulks_len y.l; omega
              obtain ⟨S2, hS2⟩ : ∃ S2, ((x.ins.drop (p + 1)).flatMap fun t => t.l) ++ (x.out ++ S) = S2 := ⟨_, rfl⟩
              rw [drop_cons hy, List.flatMap_cons, List.append_assoc, hS2] at hc
              have HZO := Lib.hid hzo
              have HZN := Lib.hid hzn
              have HYB := Lib.hid hyb
              have HS2 := Lib.hid hS2
              have HBT2 := Lib.hid hbt
              have HCY := Lib.hid hc
              obtain ⟨wp, hwp⟩ : ∃ W, W = wr := ⟨_, rfl⟩
              subst hwp
              clear hyc2 hzo hy hc hbt hbu hzn hyb hS2
              go_wp2_with fail
              obtain ⟨W2, hW2, k2, l2, s2⟩ := alloc_step wp 36 [.bool y.any, .bool y.no, .slice za zn zc]
              rw [hW2]
              have L2 := Lib.hid l2
              have HC2' := Lib.hid (HCB.out _ _ _ HCY.out l2)
              clear hW2 k2 l2 s2 HCY f0 f1 f2
              go_loopw [59] (fun i wr => ∃ m : Nat, m ≤ zn ∧ i = .int .i64 m ∧ C (y.l.drop m ++ S2) wr ∧ But pb pb W2 wr) (fun i _ => zn - (intOf i).toNat)
              case atStart => exact ⟨0, Nat.zero_le _, rfl, HC2'.out, But.refl _ _ _⟩
              case round =>
                obtain ⟨m, hm, rfl, hc, hbt⟩ := hrel
                have hbu := HCU.out _ _ hc
                by_cases hltm : m < zn
                · have hltmi : (m : Int) < zn := by omega
                  obtain ⟨z, hz⟩ : ∃ z, y.l[m]? = some z := ⟨_, List.getElem?_eq_getElem (by have := HZN.out; omega)⟩
                  obtain ⟨b3, off3, xna, xnn, xnc, xla, xln, xlc, rfl, q0, q1, q2, q3, hza⟩ := HZO.out m z hz
                  have p0 := hbu.keep q0
                  have p1 := hbu.keep q1
                  have p2 := hbu.keep q2
                  have p3 := hbu.keep q3
                  rw [drop_cons hz, List.cons_append] at hc
                  have HC := Lib.hid (fun W (hW : Bel wr W) => HCALL.out z _ _ _ W (HCB.out _ _ _ hc hW) hza (ex_mem_bulk2 HYB.out (List.mem_of_getElem? hz)))
                  have HBT3 := Lib.hid hbt
                  clear q0 q1 q2 q3 hza hz hc hbt hbu
                  go_wp2_with fail
                  refine (HC.out _ (Bel.alloc _ _)).mono ?_
                  rintro e2 w2 ⟨⟨rfl, hc2⟩ | ⟨rfl, hx2⟩, hbut⟩
                  · have HC2 := Lib.hid hc2
                    have HB2 := Lib.hid (HBT3.out.trans (((Bel.alloc _ _).but _ _).trans hbut))
                    clear hc2 hbut HC
                    go_wp2_with fail
                    exact ⟨⟨m + 1, by omega, by go_num, HC2.out, HB2.out⟩, by simp [intOf]; omega⟩
                  · have HB3 := Lib.hid (HBT3.out.trans (((Bel.alloc _ _).but _ _).trans hbut))
                    have HX2 := Lib.hid hx2
                    clear hx2 hbut HC
                    go_wp2_with fail
                    go_ret
                    exact ⟨.inr ⟨rfl, HX2.out⟩, HB2.out.trans (HBT.out.trans ((L1'.out.but _ _).trans (HBT2.out.trans ((L2.out.but _ _).trans HB3.out))))⟩
                · obtain rfl : m = zn := by omega
                  rw [drop_end (by have := HZN.out; omega), List.nil_append, ← HS2.out] at hc
                  have HC2 := Lib.hid hc
                  have HB3 := Lib.hid (HBT2.out.trans ((L2.out.but _ _).trans hbt))
                  clear hc hbt hbu
                  go_wp2_with fail
                  exact ⟨⟨p + 1, by omega, by go_num, HC2.out, HB3.out⟩, by simp [intOf]; omega⟩
            · obtain rfl : p = tn := by omega
              rw [drop_end (by have := HTN.out; omega)] at hc
              have hc : C (x.out ++ S) wr := hc
              have r1 := hbt.keep (K1.out.at 1) hpne2 hpne2
              have HC2 := Lib.hid hc
              have HB3 := Lib.hid hbt
              obtain ⟨wp, hwp⟩ : ∃ W, W = wr := ⟨_, rfl⟩
              subst hwp
              clear hc hbt hbu
              go_wp2_with fail
              go_loopw [72] (fun i wr => ∃ m : Nat, m ≤ un ∧ i = .int .i64 m ∧ C (x.out.drop m ++ S) wr ∧ But pb pb wp wr) (fun i _ => un - (intOf i).toNat)
              case atStart => exact ⟨0, Nat.zero_le _, rfl, HC2.out, But.refl _ _ _⟩
              case round =>
                obtain ⟨m, hm, rfl, hc, hbt⟩ := hrel
                have hbu := HCU.out _ _ hc
                by_cases hltm : m < un
                · have hltmi : (m : Int) < un := by omega
                  obtain ⟨z, hz⟩ : ∃ z, x.out[m]? = some z := ⟨_, List.getElem?_eq_getElem (by have := HUN.out; omega)⟩
                  obtain ⟨b3, off3, xna, xnn, xnc, xla, xln, xlc, rfl, q0, q1, q2, q3, hza⟩ := HYO.out m z hz
                  have p0 := hbu.keep q0
                  have p1 := hbu.keep q1
                  have p2 := hbu.keep q2
                  have p3 := hbu.keep q3
                  rw [drop_cons hz, List.cons_append] at hc
                  have HC := Lib.hid (fun W (hW : Bel wr W) => HCALL.out z _ _ _ W (HCB.out _ _ _ hc hW) hza (ex_mem_bulk2 (Nat.le_trans (Nat.le_add_left _ _) HXB.out) (List.mem_of_getElem? hz)))
                  have HBT3 := Lib.hid hbt
                  clear q0 q1 q2 q3 hza hz hc hbt hbu r1
                  go_wp2_with fail
                  refine (HC.out _ (Bel.alloc _ _)).mono ?_
                  rintro e2 w2 ⟨⟨rfl, hc2⟩ | ⟨rfl, hx2⟩, hbut⟩
                  · have HC2 := Lib.hid hc2
                    have HB2 := Lib.hid (HBT3.out.trans (((Bel.alloc _ _).but _ _).trans hbut))
                    clear hc2 hbut HC
                    go_wp2_with fail
                    exact ⟨⟨m + 1, by omega, by go_num, HC2.out, HB2.out⟩, by simp [intOf]; omega⟩
                  · have HB4 := Lib.hid (HBT3.out.trans (((Bel.alloc _ _).but _ _).trans hbut))
                    have HX2 := Lib.hid hx2
                    clear hx2 hbut HC
                    go_wp2_with fail
                    go_ret
                    exact ⟨.inr ⟨rfl, HX2.out⟩, HB2.out.trans (HBT.out.trans ((L1'.out.but _ _).trans (HB3.out.trans HB4.out)))⟩
                · obtain rfl : m = un := by omega
                  rw [drop_end (by have := HUN.out; omega), List.nil_append, ← HS.out] at hc
                  have HC2 := Lib.hid hc
                  have HB4 := Lib.hid (HBT.out.trans ((L1'.out.but _ _).trans (HB3.out.trans hbt)))
                  clear hc hbt hbu r1
                  go_wp2_with fail
                  exact ⟨⟨j + 1, by omega, by go_num, HC2.out, HB4.out⟩, by simp [intOf]; omega⟩
        · obtain rfl : j = rm := by omega
          rw [drop_end (by have := HRM.out; omega)] at hc
          have HC3 := Lib.hid hc
          have HB3 := Lib.hid (HB2.out.trans hbt)
          clear hc hbt hbu e8
          go_wp2_with fail
          go_ret
          exact ⟨.inl ⟨rfl, HC3.out⟩, HB3.out⟩
end Go.Proofs.YtchbhcjhoocjaaaGreatDoor
