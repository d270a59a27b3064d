/-
  logic: the walk through all expressions of one.
  logic: the walk of a logic's form.
  logic: the walks of what is wrong with one, with all that is in it.
-/
import Derived.Test.YtbcdbefogfmhfaaGreatDoorLGX
namespace Go.Proofs.YtbcdbefogfmhfaaGreatDoor
open Go.RowKit
/-- What each is to answer: all were gone through, or not. -/
def RetEach (C : List Ex → World → Prop) (Jx : World → Prop) (R : List Ex) (pb : Nat) (w : World) (e : Ending) (w' : World) : Prop :=
  ((e = .returned (.bool true) ∧ C R w') ∨ (e = .returned (.bool false) ∧ Jx w')) ∧ But pb pb w w'
/-- What stands behind the first question. -/
def EachCut (C : List Ex → World → Prop) (Jx : World → Prop) (R : List Ex) (pb : Nat) (w : World) (v : Value) (w' : World) : Prop :=
  ((v = .bool false ∧ C R w') ∨ (v = .bool true ∧ Jx w')) ∧ But pb pb w w'
theorem drop_cons {α : Type} {l : List α} {i : Nat} {x : α} (h : l[i]? = some x) : l.drop i = x :: l.drop (i + 1) := by
  obtain ⟨hi, hx⟩ := List.getElem?_eq_some_iff.1 h
  rw [List.drop_eq_getElem_cons hi, hx]
theorem drop_end {α : Type} {l : List α} {i : Nat} (h : l.length ≤ i) : l.drop i = [] := List.drop_of_length_le h
set_option maxRecDepth 100000 in
set_option maxHeartbeats 16000000 in
theorem each_c (l : Lg) (q : LgQ) (h : Nat) (caps : Array Value) (pb : Nat) (C : List Ex → World → Prop) (Jx : World → Prop) (u w : World)
    (hen : ∀ args w, (callFunc h args).run Tryz.prog w = .ok (.enter h args) w) (hat : LgAt u l q) (hb : l.bulk ≤ 1073741824)
    (hCu : ∀ R W, C R W → Bel u W) (hCb : ∀ R W W', C R W → Bel W W' → C R W') (h0 : C (partsL l) w) (hpb : pb < w.heap.size)
    (hcall : ∀ x R xn xl W, C (x :: R) W → ExAt u x xn xl → x.bulk ≤ 1073741824 → Calls Tryz.prog h (#[.agg #[.int .i64 x.k, .string x.s, xn, xl]] ++ caps) W (RetEach C Jx R pb W)) :
    Calls Tryz.prog 42 #[lgV l q, .func (.func h) #[] caps] w (RetEach C Jx [] pb w) := by
  have hbe := lbulk_eq l
  obtain ⟨nea, nen, nec, lea, len, lec, ia, im, ic, oa, om, oc, ra, rm, rc, na, nm, nc, la, lm, lc, rfl, ⟨him, hom, hrm, hnm, hlm⟩, ⟨hci, hco, hcr, hcn, hcl⟩, ⟨hbi, hbo, hbr, hbn, hbl⟩, hex, hpi, hpo, hpr, hpn, hpl⟩ := LgAt.opened hat
  unfold lgV
  dsimp only
  have t0 := Blk.new w 42 [.int .i64 l.k, .int .i64 l.e.k, .string l.e.s, .slice nea nen nec, .slice lea len lec, .string l.p, .slice ia im ic, .slice oa om oc, .slice ra rm rc, .slice na nm nc, .slice la lm lc]
  have hb0 : Bel w (w.alloc (.cells #[.int .i64 l.k, .int .i64 l.e.k, .string l.e.s, .slice nea nen nec, .slice lea len lec, .string l.p, .slice ia im ic, .slice oa om oc, .slice ra rm rc, .slice na nm nc, .slice la lm lc] 42)) := Bel.alloc _ _
  obtain ⟨W0, hW0⟩ : ∃ W0, w.alloc (.cells #[.int .i64 l.k, .int .i64 l.e.k, .string l.e.s, .slice nea nen nec, .slice lea len lec, .string l.p, .slice ia im ic, .slice oa om oc, .slice ra rm rc, .slice na nm nc, .slice la lm lc] 42) = W0 := ⟨_, rfl⟩
  rw [show w.alloc (.cells [.int .i64 l.k, .int .i64 l.e.k, .string l.e.s, .slice nea nen nec, .slice lea len lec, .string l.p, .slice ia im ic, .slice oa om oc, .slice ra rm rc, .slice na nm nc, .slice la lm lc].toArray 42) = W0 from hW0] at t0
  have hb0' := hb0
  rw [hW0] at hb0'
  obtain ⟨L1, hL1⟩ : ∃ L, l.ins ++ l.rs.flatMap ruParts = L := ⟨_, rfl⟩
  have hC0 : C ((if l.k = 0 ∨ l.k = 3 then [l.e] else []) ++ L1) W0 := by rw [← hL1]; exact hCb _ _ _ h0 hb0'
  obtain ⟨k, hk⟩ : ∃ k, l.k = k := ⟨_, rfl⟩
  rw [hk] at hC0 t0 hW0 ⊢
  have c0 := Blk.at t0 0
  have c1 := Blk.at t0 1
  have c2 := Blk.at t0 2
  have c3 := Blk.at t0 3
  have c4 := Blk.at t0 4
  have c5 := Blk.at t0 5
  have c6 := Blk.at t0 6
  have c7 := Blk.at t0 7
  have c8 := Blk.at t0 8
  have c9 := Blk.at t0 9
  have c10 := Blk.at t0 10
  have hpne : w.heap.size ≠ pb := by omega
  have HE0 := Lib.hid (fun R (h : C (l.e :: R) W0) => hcall l.e R _ _ W0 h hex (by omega))
  have HCALL := Lib.hid hcall
  have HCU := Lib.hid hCu
  have HCB := Lib.hid hCb
  have HC0 := Lib.hid hC0
  have HB0 := Lib.hid hb0'
  have T0 := Lib.hid t0
  have HL1 := Lib.hid hL1
  have HPI := Lib.hid hpi
  have HPR := Lib.hid hpr
  have HIM := Lib.hid him
  have HRM := Lib.hid hrm
  have HIB : Hid (Ex.bulk.bulks l.ins ≤ 1073741824) := Lib.hid (by omega)
  have HRB : Hid (rbulks l.rs ≤ 1073741824) := Lib.hid (by omega)
  have hi2 : im ≤ 1073741824 := by omega
  have hr2 : rm ≤ 1073741824 := by omega
  have HW0 := Lib.hid hW0
  clear him hom hrm hnm hlm hex hpi hpo hpr hpn hpl hat hb0 hb0' hcall hCu hCb h0 hC0 t0 hL1 hk hbe hW0
  go_enter Tryz.func42, Tryz.ntmps42
  go_upto_region 1 with fail
  rw [show w.alloc (.cells #[.int .i64 k, .int .i64 l.e.k, .string l.e.s, .slice nea nen nec, .slice lea len lec, .string l.p, .slice ia im ic, .slice oa om oc, .slice ra rm rc, .slice na nm nc, .slice la lm lc] 42) = W0 from HW0.out]
  go_cut [29] (fun v wx => EachCut C Jx L1 pb W0 v wx)
  case first =>
    by_cases hk : k = 0 ∨ k = 3
    · have HC := Lib.hid (HE0.out L1 (by have := HC0.out; rwa [if_pos hk] at this))
      rcases hk with rfl | rfl
      all_goals
        go_wp2_with fail
        refine HC.out.mono ?_
        rintro e2 w2 ⟨⟨rfl, hc2⟩ | ⟨rfl, hx2⟩, hbut⟩
        · go_wp2_with fail
          go_meet
          exact ⟨.inl ⟨rfl, hc2⟩, hbut⟩
        · go_wp2_with fail
          go_meet
          exact ⟨.inr ⟨rfl, hx2⟩, hbut⟩
    · have HC : Hid (C L1 W0) := Lib.hid (by have := HC0.out; rwa [if_neg hk] at this)
      have n0 : (k == 0) = false := by simp; omega
      have n3 : (k == 3) = false := by simp; omega
      clear hk
      go_wp2_with fail
      go_meet
      exact ⟨.inl ⟨rfl, HC.out⟩, But.refl _ _ _⟩
  case rest =>
  obtain ⟨⟨rfl, hc1⟩ | ⟨rfl, hx1⟩, hbut1⟩ := hcut
  rotate_left 1
  · go_wp2_with fail
    go_ret
    exact ⟨.inr ⟨rfl, hx1⟩, ((HB0.out.but _ _).trans hbut1)⟩
  have hnb1 : wc.heap.size ≥ 0 := Nat.zero_le _
  have d6 := hbut1.keep c6 hpne hpne
  have d8 := hbut1.keep c8 hpne hpne
  have HD8 := Lib.hid d8
  have HC1 : Hid (C (l.ins ++ l.rs.flatMap ruParts) wc) := Lib.hid (by rw [HL1.out]; exact hc1)
  have HB1 := Lib.hid ((HB0.out.but _ _).trans hbut1)
  clear hc1 hbut1 c0 c1 c2 c3 c4 c5 c6 c7 c8 c9 c10 hnb1
  go_wp2_with fail
  go_loopw [33] (fun i wr => ∃ p : Nat, p ≤ im ∧ i = .int .i64 p ∧ C (l.ins.drop p ++ l.rs.flatMap ruParts) wr ∧ But pb pb wc wr) (fun i _ => im - (intOf i).toNat)
  case atStart => exact ⟨0, Nat.zero_le _, rfl, HC1.out, But.refl _ _ _⟩
  case round =>
    obtain ⟨p, hp, rfl, hc, hbt⟩ := hrel
    have hbu := HCU.out _ _ hc
    by_cases hlt : p < im
    · have hlti : (p : Int) < im := by omega
      obtain ⟨x, hx⟩ : ∃ x, l.ins[p]? = some x := ⟨_, List.getElem?_eq_getElem (by have := HIM.out; omega)⟩
      obtain ⟨b, off, xna, xnn, xnc, xla, xln, xlc, rfl, g0, g1, g2, g3, hxa⟩ := HPI.out p x hx
      have f0 := hbu.keep g0
      have f1 := hbu.keep g1
      have f2 := hbu.keep g2
      have f3 := hbu.keep g3
      rw [drop_cons hx, List.cons_append] at hc
      have HC := Lib.hid (fun W (hW : Bel wr W) => HCALL.out x _ _ _ W (HCB.out _ _ _ hc hW) hxa (ex_mem_bulk2 HIB.out (List.mem_of_getElem? hx)))
      have HBT := Lib.hid hbt
      clear g0 g1 g2 g3 hxa hx hc hbt hbu d6 d8
      go_wp2_with fail
      refine (HC.out _ (Bel.alloc _ _)).mono ?_
      rintro e2 w2 ⟨⟨rfl, hc2⟩ | ⟨rfl, hx2⟩, hbut⟩
      · have HC2 := Lib.hid hc2
        have HB2 := Lib.hid (HBT.out.trans (((Bel.alloc _ _).but _ _).trans hbut))
        clear hc2 hbut HC
        go_wp2_with fail
        exact ⟨⟨p + 1, by omega, by go_num, HC2.out, HB2.out⟩, by simp [intOf]; omega⟩
      · have HB2 := Lib.hid (HBT.out.trans (((Bel.alloc _ _).but _ _).trans hbut))
        have HX2 := Lib.hid hx2
        clear hx2 hbut HC
        go_wp2_with fail
        go_ret
        exact ⟨.inr ⟨rfl, HX2.out⟩, HB1.out.trans HB2.out⟩
    · obtain rfl : p = im := by omega
      rw [drop_end (by have := HIM.out; omega), List.nil_append] at hc
      have HC2 := Lib.hid hc
      have HB2 := Lib.hid (HB1.out.trans hbt)
      have e8 := hbt.keep HD8.out hpne hpne
      obtain ⟨w3, hw3⟩ : ∃ W, W = wr := ⟨_, rfl⟩
      subst hw3
      clear hc hbt hbu d6 d8
      go_wp2_with fail
      go_loopw [45] (fun i wr => ∃ j : Nat, j ≤ rm ∧ i = .int .i64 j ∧ C ((l.rs.drop j).flatMap ruParts) wr ∧ But pb pb w3 wr) (fun i _ => rm - (intOf i).toNat)
      case atStart => exact ⟨0, Nat.zero_le _, rfl, HC2.out, But.refl _ _ _⟩
      case round =>
        obtain ⟨j, hj, rfl, hc, hbt⟩ := hrel
        have hbu := HCU.out _ _ hc
        by_cases hlt : j < rm
        · have hlti : (j : Int) < rm := by omega
          obtain ⟨x, hx⟩ : ∃ x, l.rs[j]? = some x := ⟨_, List.getElem?_eq_getElem (by have := HRM.out; omega)⟩
          obtain ⟨b, off, rfl, vi, vo, hxc, ⟨ta, tc, rfl, htc, hti⟩, ya, yc, rfl, hyc, hyo⟩ := HPR.out j x hx
          have g0 := hbu.keep hxc.get0
          have g1 := hbu.keep (hxc.get 1 rfl)
          obtain ⟨tn, htn⟩ : ∃ n, x.ins.length = n := ⟨_, rfl⟩
          obtain ⟨un, hun⟩ : ∃ n, x.out.length = n := ⟨_, rfl⟩
          have hxb : tbulks x.ins + Ex.bulk.bulks x.out ≤ 1073741824 := by have := rbulks_mem (List.mem_of_getElem? hx); have := HRB.out; unfold Ru.bulk at *; omega
          have htn2 : tn ≤ 1073741824 := by have := tbulks_len x.ins; omega
          have hun2 : un ≤ 1073741824 := by have := bulks_len x.out; omega
          rw [htn] at g0 htc
          rw [hun] at g1 hyc
          obtain ⟨S, hS⟩ : ∃ S, (l.rs.drop (j + 1)).flatMap ruParts = S := ⟨_, rfl⟩
          have hcx : C ((x.ins.flatMap fun t => t.l) ++ (x.out ++ S)) wr := by
            rw [drop_cons hx, List.flatMap_cons, hS] at hc
            unfold ruParts at hc
            rwa [List.append_assoc] at hc
          have HTI := Lib.hid hti
          have HYO := Lib.hid hyo
          have HTN := Lib.hid htn
          have HUN := Lib.hid hun
          have HS := Lib.hid hS
          have HXB := Lib.hid hxb
          have HBT := Lib.hid hbt
          obtain ⟨wo, hwo⟩ : ∃ W, W = wr := ⟨_, rfl⟩
          subst hwo
          have hpo : pb < wo.heap.size := Nat.lt_of_lt_of_le (Nat.lt_of_lt_of_le (Nat.lt_of_lt_of_le hpb HB2.out.size) hbt.size) (Nat.le_refl _)
          have hpne2 : wo.heap.size ≠ pb := by omega
          have HCX := Lib.hid hcx
          clear hti hyo hxc hx hc hcx hbt hbu hS hxb htn hun e8
          go_wp2_with fail
          obtain ⟨W1, hW1, k1, l1, s1⟩ := alloc_step wo 108 [.slice ta tn tc, .slice ya un yc]
          rw [hW1]
          have K1 := Lib.hid k1
          have L1' := Lib.hid l1
          have HC1' := Lib.hid (HCB.out _ _ _ HCX.out l1)
          clear hW1 k1 l1 s1 HCX
          go_loopw [52] (fun i wr => ∃ p : Nat, p ≤ tn ∧ i = .int .i64 p ∧ C (((x.ins.drop p).flatMap fun t => t.l) ++ (x.out ++ S)) wr ∧ But pb pb W1 wr) (fun i _ => tn - (intOf i).toNat)
          case atStart => exact ⟨0, Nat.zero_le _, rfl, HC1'.out, But.refl _ _ _⟩
          case round =>
            obtain ⟨p, hp, rfl, hc, hbt⟩ := hrel
            have hbu := HCU.out _ _ hc
            by_cases hltp : p < tn
            · have hltpi : (p : Int) < tn := by omega
              obtain ⟨y, hy⟩ : ∃ y, x.ins[p]? = some y := ⟨_, List.getElem?_eq_getElem (by have := HTN.out; omega)⟩
              obtain ⟨b2, off2, rfl, v, hyc2, za, zc, rfl, hzc, hzo⟩ := HTI.out p y hy
              have f0 := hbu.keep hyc2.get0
              have f1 := hbu.keep (hyc2.get 1 rfl)
              have f2 := hbu.keep (hyc2.get 2 rfl)
              obtain ⟨zn, hzn⟩ : ∃ n, y.l.length = n := ⟨_, rfl⟩
              rw [hzn] at f2 hzc
              have hyb : Ex.bulk.bulks y.l ≤ 1073741824 := by have := tbulks_mem (List.mem_of_getElem? hy); have := HXB.out; unfold Te.bulk at *; omega
              have hzn2 : zn ≤ 1073741824 := by have := bulks_len y.l; omega
              obtain ⟨S2, hS2⟩ : ∃ S2, ((x.ins.drop (p + 1)).flatMap fun t => t.l) ++ (x.out ++ S) = S2 := ⟨_, rfl⟩
              rw [drop_cons hy, List.flatMap_cons, List.append_assoc, hS2] at hc
              have HZO := Lib.hid hzo
              have HZN := Lib.hid hzn
              have HYB := Lib.hid hyb
              have HS2 := Lib.hid hS2
              have HBT2 := Lib.hid hbt
              have HCY := Lib.hid hc
              obtain ⟨wp, hwp⟩ : ∃ W, W = wr := ⟨_, rfl⟩
              subst hwp
              clear hyc2 hzo hy hc hbt hbu hzn hyb hS2
              go_wp2_with fail
              obtain ⟨W2, hW2, k2, l2, s2⟩ := alloc_step wp 52 [.bool y.any, .bool y.no, .slice za zn zc]
              rw [hW2]
              have L2 := Lib.hid l2
              have HC2' := Lib.hid (HCB.out _ _ _ HCY.out l2)
              clear hW2 k2 l2 s2 HCY f0 f1 f2
              go_loopw [59] (fun i wr => ∃ m : Nat, m ≤ zn ∧ i = .int .i64 m ∧ C (y.l.drop m ++ S2) wr ∧ But pb pb W2 wr) (fun i _ => zn - (intOf i).toNat)
              case atStart => exact ⟨0, Nat.zero_le _, rfl, HC2'.out, But.refl _ _ _⟩
              case round =>
                obtain ⟨m, hm, rfl, hc, hbt⟩ := hrel
                have hbu := HCU.out _ _ hc
                by_cases hltm : m < zn
                · have hltmi : (m : Int) < zn := by omega
                  obtain ⟨z, hz⟩ : ∃ z, y.l[m]? = some z := ⟨_, List.getElem?_eq_getElem (by have := HZN.out; omega)⟩
                  obtain ⟨b3, off3, xna, xnn, xnc, xla, xln, xlc, rfl, q0, q1, q2, q3, hza⟩ := HZO.out m z hz
                  have p0 := hbu.keep q0
                  have p1 := hbu.keep q1
                  have p2 := hbu.keep q2
                  have p3 := hbu.keep q3
                  rw [drop_cons hz, List.cons_append] at hc
                  have HC := Lib.hid (fun W (hW : Bel wr W) => HCALL.out z _ _ _ W (HCB.out _ _ _ hc hW) hza (ex_mem_bulk2 HYB.out (List.mem_of_getElem? hz)))
                  have HBT3 := Lib.hid hbt
                  clear q0 q1 q2 q3 hza hz hc hbt hbu
                  go_wp2_with fail
                  refine (HC.out _ (Bel.alloc _ _)).mono ?_
                  rintro e2 w2 ⟨⟨rfl, hc2⟩ | ⟨rfl, hx2⟩, hbut⟩
                  · have HC2 := Lib.hid hc2
                    have HB2 := Lib.hid (HBT3.out.trans (((Bel.alloc _ _).but _ _).trans hbut))
                    clear hc2 hbut HC
                    go_wp2_with fail
                    exact ⟨⟨m + 1, by omega, by go_num, HC2.out, HB2.out⟩, by simp [intOf]; omega⟩
                  · have HB3 := Lib.hid (HBT3.out.trans (((Bel.alloc _ _).but _ _).trans hbut))
                    have HX2 := Lib.hid hx2
                    clear hx2 hbut HC
                    go_wp2_with fail
                    go_ret
                    exact ⟨.inr ⟨rfl, HX2.out⟩, HB2.out.trans (HBT.out.trans ((L1'.out.but _ _).trans (HBT2.out.trans ((L2.out.but _ _).trans HB3.out))))⟩
                · obtain rfl : m = zn := by omega
                  rw [drop_end (by have := HZN.out; omega), List.nil_append, ← HS2.out] at hc
                  have HC2 := Lib.hid hc
                  have HB3 := Lib.hid (HBT2.out.trans ((L2.out.but _ _).trans hbt))
                  clear hc hbt hbu
                  go_wp2_with fail
                  exact ⟨⟨p + 1, by omega, by go_num, HC2.out, HB3.out⟩, by simp [intOf]; omega⟩
            · obtain rfl : p = tn := by omega
              rw [drop_end (by have := HTN.out; omega)] at hc
              have hc : C (x.out ++ S) wr := hc
              have r1 := hbt.keep (K1.out.at 1) hpne2 hpne2
              have HC2 := Lib.hid hc
              have HB3 := Lib.hid hbt
              obtain ⟨wp, hwp⟩ : ∃ W, W = wr := ⟨_, rfl⟩
              subst hwp
              clear hc hbt hbu
              go_wp2_with fail
              go_loopw [72] (fun i wr => ∃ m : Nat, m ≤ un ∧ i = .int .i64 m ∧ C (x.out.drop m ++ S) wr ∧ But pb pb wp wr) (fun i _ => un - (intOf i).toNat)
              case atStart => exact ⟨0, Nat.zero_le _, rfl, HC2.out, But.refl _ _ _⟩
              case round =>
                obtain ⟨m, hm, rfl, hc, hbt⟩ := hrel
                have hbu := HCU.out _ _ hc
                by_cases hltm : m < un
                · have hltmi : (m : Int) < un := by omega
                  obtain ⟨z, hz⟩ : ∃ z, x.out[m]? = some z := ⟨_, List.getElem?_eq_getElem (by have := HUN.out; omega)⟩
                  obtain ⟨b3, off3, xna, xnn, xnc, xla, xln, xlc, rfl, q0, q1, q2, q3, hza⟩ := HYO.out m z hz
                  have p0 := hbu.keep q0
                  have p1 := hbu.keep q1
                  have p2 := hbu.keep q2
                  have p3 := hbu.keep q3
                  rw [drop_cons hz, List.cons_append] at hc
                  have HC := Lib.hid (fun W (hW : Bel wr W) => HCALL.out z _ _ _ W (HCB.out _ _ _ hc hW) hza (ex_mem_bulk2 (Nat.le_trans (Nat.le_add_left _ _) HXB.out) (List.mem_of_getElem? hz)))
                  have HBT3 := Lib.hid hbt
                  clear q0 q1 q2 q3 hza hz hc hbt hbu r1
                  go_wp2_with fail
                  refine (HC.out _ (Bel.alloc _ _)).mono ?_
                  rintro e2 w2 ⟨⟨rfl, hc2⟩ | ⟨rfl, hx2⟩, hbut⟩
                  · have HC2 := Lib.hid hc2
                    have HB2 := Lib.hid (HBT3.out.trans (((Bel.alloc _ _).but _ _).trans hbut))
                    clear hc2 hbut HC
                    go_wp2_with fail
                    exact ⟨⟨m + 1, by omega, by go_num, HC2.out, HB2.out⟩, by simp [intOf]; omega⟩
                  · have HB4 := Lib.hid (HBT3.out.trans (((Bel.alloc _ _).but _ _).trans hbut))
                    have HX2 := Lib.hid hx2
                    clear hx2 hbut HC
                    go_wp2_with fail
                    go_ret
                    exact ⟨.inr ⟨rfl, HX2.out⟩, HB2.out.trans (HBT.out.trans ((L1'.out.but _ _).trans (HB3.out.trans HB4.out)))⟩
                · obtain rfl : m = un := by omega
                  rw [drop_end (by have := HUN.out; omega), List.nil_append, ← HS.out] at hc
                  have HC2 := Lib.hid hc
                  have HB4 := Lib.hid (HBT.out.trans ((L1'.out.but _ _).trans (HB3.out.trans hbt)))
                  clear hc hbt hbu r1
                  go_wp2_with fail
                  exact ⟨⟨j + 1, by omega, by go_num, HC2.out, HB4.out⟩, by simp [intOf]; omega⟩
        · obtain rfl : j = rm := by omega
          rw [drop_end (by have := HRM.out; omega)] at hc
          have HC3 := Lib.hid hc
          have HB3 := Lib.hid (HB2.out.trans hbt)
          clear hc hbt hbu e8
          go_wp2_with fail
          go_ret
          exact ⟨.inl ⟨rfl, HC3.out⟩, HB3.out⟩
end Go.Proofs.YtbcdbefogfmhfaaGreatDoor

namespace Go.Proofs.YtbcdbefogfmhfaaGreatDoor
open Go.RowKit
/-- The policies lie in their variable. -/
def PolAt (W : World) : Prop := NamesAt W (some ⟨1, 0, none⟩) polS
theorem PolAt.bel {W W' : World} (h : PolAt W) (hb : Bel W W') : PolAt W' := NamesAt.bel h hb
set_option maxRecDepth 100000 in
set_option maxHeartbeats 8000000 in
theorem form_c (l : Lg) (q : LgQ) (w : World) (hP : PolAt w) (hat : LgAt w l q) (hb : l.bulk ≤ 1073741824) : Calls Tryz.prog 72 #[lgV l q] w (RetBel (.bool (formL l)) w) := by
  have hat' := hat
  obtain ⟨nea, nen, nec, lea, len, lec, ia, im, ic, oa, om, oc, ra, rm, rc, na, nm, nc, la, lm, lc, rfl, ⟨him, hom, hrm, hnm, hlm⟩, ⟨hci, hco, hcr, hcn, hcl⟩, ⟨hbi, hbo, hbr, hbn, hbl⟩, hex, hpi, hpo, hpr, hpn, hpl⟩ := LgAt.opened hat
  unfold lgV
  dsimp only
  have HBR : Hid (∀ W, Bel w W → Calls Tryz.prog 110 #[.agg #[.int .i64 l.k, .int .i64 l.e.k, .string l.e.s, .slice nea nen nec, .slice lea len lec, .string l.p, .slice ia im ic, .slice oa om oc, .slice ra rm rc, .slice na nm nc, .slice la lm lc]] W (RetBel (.bool (bareL l)) W)) := Lib.hid fun W hW => bare_c l ⟨.slice nea nen nec, .slice lea len lec, .slice ia im ic, .slice oa om oc, .slice ra rm rc, .slice na nm nc, .slice la lm lc⟩ W (LgAt.bel hW l hat') hb
  have HS : Hid (∀ W, Bel w W → Calls Tryz.prog 55 #[.agg #[.int .i64 l.e.k, .string l.e.s, .slice nea nen nec, .slice lea len lec], .agg #[.int .i64 0, .string ⟨#[]⟩, .slice none 0 0, .slice none 0 0]] W (RetBel (.bool (sameE l.e emptyE)) W)) :=
    Lib.hid fun W hW => same_e l.e.bulk l.e (Nat.le_refl _) (by have := lbulk_eq l; omega) emptyE _ _ _ _ W (by decide +kernel) (ExAt.bel hW _ hex) (exAt_leaf W 0 ⟨#[]⟩ (by decide))
  have HPC : Hid (∀ W, Bel w W → Calls Tryz.prog 47 #[.slice (some ⟨1, 0, none⟩) 7 7, .string l.p] W (RetBel (.bool (decide (l.p ∈ polS))) W)) := Lib.hid fun W hW => scontains_c (some ⟨1, 0, none⟩) 7 7 polS l.p W rfl (by omega) (hP.bel hW)
  obtain ⟨R, hR⟩ : ∃ R, formL l = R := ⟨_, rfl⟩
  rw [hR]
  unfold formL at hR
  rw [hnm, hlm, hom] at hR
  obtain ⟨S, hS⟩ : ∃ S, sameE l.e emptyE = S := ⟨_, rfl⟩
  obtain ⟨B, hB⟩ : ∃ B, bareL l = B := ⟨_, rfl⟩
  obtain ⟨P, hPP⟩ : ∃ P, decide (l.p ∈ polS) = P := ⟨_, rfl⟩
  rw [hS] at HS hR
  rw [hB] at HBR hR
  rw [hPP] at HPC hR
  obtain ⟨k, hk⟩ : ∃ k, l.k = k := ⟨_, rfl⟩
  obtain ⟨ek, hek⟩ : ∃ k, l.e.k = k := ⟨_, rfl⟩
  rw [hk] at HBR hR ⊢
  rw [hek] at HBR HS hR ⊢
  have ho2 : om ≤ 1073741824 := by omega
  have hn2 : nm ≤ 1073741824 := by omega
  have hl2 : lm ≤ 1073741824 := by omega
  have HR := Lib.hid hR
  have t0 := Blk.new w 42 [.int .i64 k, .int .i64 ek, .string l.e.s, .slice nea nen nec, .slice lea len lec, .string l.p, .slice ia im ic, .slice oa om oc, .slice ra rm rc, .slice na nm nc, .slice la lm lc]
  have hb0 : Bel w (w.alloc (.cells #[.int .i64 k, .int .i64 ek, .string l.e.s, .slice nea nen nec, .slice lea len lec, .string l.p, .slice ia im ic, .slice oa om oc, .slice ra rm rc, .slice na nm nc, .slice la lm lc] 42)) := Bel.alloc _ _
  obtain ⟨W0, hW0⟩ : ∃ W0, w.alloc (.cells #[.int .i64 k, .int .i64 ek, .string l.e.s, .slice nea nen nec, .slice lea len lec, .string l.p, .slice ia im ic, .slice oa om oc, .slice ra rm rc, .slice na nm nc, .slice la lm lc] 42) = W0 := ⟨_, rfl⟩
  rw [show w.alloc (.cells ([.int .i64 k, .int .i64 ek, .string l.e.s, .slice nea nen nec, .slice lea len lec, .string l.p, .slice ia im ic, .slice oa om oc, .slice ra rm rc, .slice na nm nc, .slice la lm lc]).toArray 42) = W0 from hW0] at t0
  rw [hW0] at hb0
  have T0 := Lib.hid t0
  have HB0 := Lib.hid hb0
  have HW0 := Lib.hid hW0
  have c1 := t0.at 1
  have c2 := t0.at 2
  have c3 := t0.at 3
  have c4 := t0.at 4
  clear him hom hrm hnm hlm hex hpi hpo hpr hpn hpl hat hat' hR hS hB hPP hk hek hP t0 hb0 hW0
  go_enter Tryz.func72, Tryz.ntmps72
  go_upto_region 1 with fail
  rw [show w.alloc (.cells #[.int .i64 k, .int .i64 ek, .string l.e.s, .slice nea nen nec, .slice lea len lec, .string l.p, .slice ia im ic, .slice oa om oc, .slice ra rm rc, .slice na nm nc, .slice la lm lc] 42) = W0 from HW0.out]
  clear HW0
  go_wp2_with fail
  clear c1 c2 c3 c4
  refine (HS.out _ HB0.out).mono ?_
  rintro e1 w1 ⟨rfl, hb1⟩
  have t1 := T0.out.bel hb1
  have c0 := Blk.at t1 0
  have c1 := Blk.at t1 1
  have c2 := Blk.at t1 2
  have c3 := Blk.at t1 3
  have c4 := Blk.at t1 4
  have c5 := Blk.at t1 5
  have c6 := Blk.at t1 6
  have c7 := Blk.at t1 7
  have c8 := Blk.at t1 8
  have c9 := Blk.at t1 9
  have c10 := Blk.at t1 10
  have HB1 := Lib.hid (HB0.out.trans hb1)
  clear hb1 t1 HS HB0 T0
  by_cases h0 : k = 0
  · subst h0
    have hR : (B && decide (nm + lm = 0)) = R := HR.out
    obtain ⟨z, hz⟩ : ∃ z, ((nm : Int) + lm == 0) = z := ⟨_, rfl⟩
    rw [show decide (nm + lm = 0) = z from by rw [← hz, Bool.eq_iff_iff]; simp; omega] at hR
    have HR2 := Lib.hid hR
    clear hR HR
    go_wp2_with fail
    refine (HBR.out _ HB1.out).mono ?_
    rintro e2 w2 ⟨rfl, hb2⟩
    have d9 := hb2.keep c9
    have d10 := hb2.keep c10
    cases B
    all_goals
      go_wp2_with fail
      go_ret
      exact ⟨ret_bool (by rw [← HR2.out]; rfl), HB1.out.trans hb2⟩
  have n0 : (k == 0) = false := by simpa using h0
  by_cases h1 : k = 1
  · subst h1
    have hR : (S && (decide (nm + lm = 0) && (decide (0 < om) && P))) = R := HR.out
    have HR2 := Lib.hid hR
    clear hR HR n0 h0
    have HPW := Lib.hid (fun W (hW : Bel w1 W) => HPC.out W (HB1.out.trans hW))
    cases S with
    | false =>
      go_wp2_with fail
      refine wp_region_held_drew (S := fun w' => Bel w1 w') (by kernel_rfl) (by (repeat (first | exact Bel.refl _ | assumption | refine Bel.to_drewN ?_ _ | refine Bel.to_drew ?_ | refine Bel.to_setCell ?_ (by first | exact Nat.le_refl _ | (simp; done) | (simp; omega) | omega) _ | refine Bel.to_alloc ?_ _ | refine Bel.trans ?_ (by assumption)))) (fun hHeld => ?_)
      refine tk 0 (v := ?_) ?_ ?_
      rotate_left 1
      · first
          | (refine Or.inl ⟨by rfl, ?_⟩; intro w9 hSw; go_simp; (try with_reducible rfl); done)
          | (refine Or.inr ⟨by rfl, ?_⟩; rfl)
      simp only [List.getElem_toArray, List.getElem_cons_zero, Act.put, List.setIfInBounds_toArray, List.set_cons_zero, List.set_cons_succ]
      refine tk 1 (v := ?_) ?_ ?_
      rotate_left 1
      · first
          | (refine Or.inl ⟨by rfl, ?_⟩; intro w9 hSw; go_simp; (try with_reducible rfl); done)
          | (refine Or.inr ⟨by rfl, ?_⟩; rfl)
      simp only [List.getElem_toArray, List.getElem_cons_succ, List.getElem_cons_zero, Act.put, List.setIfInBounds_toArray, List.set_cons_zero, List.set_cons_succ]
      refine tk 2 (v := ?_) ?_ ?_
      rotate_left 1
      · first
          | (refine Or.inl ⟨by rfl, ?_⟩; intro w9 hSw; go_simp; (try with_reducible rfl); done)
          | (refine Or.inr ⟨by rfl, ?_⟩; rfl)
      simp only [List.getElem_toArray, List.getElem_cons_succ, List.getElem_cons_zero, Act.put, List.setIfInBounds_toArray, List.set_cons_zero, List.set_cons_succ]
      refine tk 3 (v := ?_) ?_ ?_
      rotate_left 1
      · first
          | (refine Or.inl ⟨by rfl, ?_⟩; intro w9 hSw; go_simp; (try with_reducible rfl); done)
          | (refine Or.inr ⟨by rfl, ?_⟩; rfl)
      simp only [List.getElem_toArray, List.getElem_cons_succ, List.getElem_cons_zero, Act.put, List.setIfInBounds_toArray, List.set_cons_zero, List.set_cons_succ]
      refine tk 4 (v := ?_) ?_ ?_
      rotate_left 1
      · first
          | (refine Or.inl ⟨by rfl, ?_⟩; intro w9 hSw; go_simp; (try with_reducible rfl); done)
          | (refine Or.inr ⟨by rfl, ?_⟩; rfl)
      simp only [List.getElem_toArray, List.getElem_cons_succ, List.getElem_cons_zero, Act.put, List.setIfInBounds_toArray, List.set_cons_zero, List.set_cons_succ]
      refine tk 5 (v := ?_) ?_ ?_
      rotate_left 1
      · first
          | (refine Or.inl ⟨by rfl, ?_⟩; intro w9 hSw; go_simp; (try with_reducible rfl); done)
          | (refine Or.inr ⟨by rfl, ?_⟩; rfl)
      simp only [List.getElem_toArray, List.getElem_cons_succ, List.getElem_cons_zero, Act.put, List.setIfInBounds_toArray, List.set_cons_zero, List.set_cons_succ]
      refine tk 6 (v := ?_) ?_ ?_
      rotate_left 1
      · first
          | (refine Or.inl ⟨by rfl, ?_⟩; intro w9 hSw; go_simp; (try with_reducible rfl); done)
          | (refine Or.inr ⟨by rfl, ?_⟩; rfl)
      simp only [List.getElem_toArray, List.getElem_cons_succ, List.getElem_cons_zero, Act.put, List.setIfInBounds_toArray, List.set_cons_zero, List.set_cons_succ]
      refine tk 7 (v := ?_) ?_ ?_
      rotate_left 1
      · first
          | (refine Or.inl ⟨by rfl, ?_⟩; intro w9 hSw; go_simp; (try with_reducible rfl); done)
          | (refine Or.inr ⟨by rfl, ?_⟩; rfl)
      simp only [List.getElem_toArray, List.getElem_cons_succ, List.getElem_cons_zero, Act.put, List.setIfInBounds_toArray, List.set_cons_zero, List.set_cons_succ]
      refine tk 8 (v := ?_) ?_ ?_
      rotate_left 1
      · first
          | (refine Or.inl ⟨by rfl, ?_⟩; intro w9 hSw; go_simp; (try with_reducible rfl); done)
          | (refine Or.inr ⟨by rfl, ?_⟩; rfl)
      simp only [List.getElem_toArray, List.getElem_cons_succ, List.getElem_cons_zero, Act.put, List.setIfInBounds_toArray, List.set_cons_zero, List.set_cons_succ]
      refine tk 9 (v := ?_) ?_ ?_
      rotate_left 1
      · first
          | (refine Or.inl ⟨by rfl, ?_⟩; intro w9 hSw; go_simp; (try with_reducible rfl); done)
          | (refine Or.inr ⟨by rfl, ?_⟩; rfl)
      simp only [List.getElem_toArray, List.getElem_cons_succ, List.getElem_cons_zero, Act.put, List.setIfInBounds_toArray, List.set_cons_zero, List.set_cons_succ]
      refine tk 10 (v := ?_) ?_ ?_
      rotate_left 1
      · first
          | (refine Or.inl ⟨by rfl, ?_⟩; intro w9 hSw; go_simp; (try with_reducible rfl); done)
          | (refine Or.inr ⟨by rfl, ?_⟩; rfl)
      simp only [List.getElem_toArray, List.getElem_cons_succ, List.getElem_cons_zero, Act.put, List.setIfInBounds_toArray, List.set_cons_zero, List.set_cons_succ]
      refine tk 11 (v := ?_) ?_ ?_
      rotate_left 1
      · first
          | (refine Or.inl ⟨by rfl, ?_⟩; intro w9 hSw; go_simp; (try with_reducible rfl); done)
          | (refine Or.inr ⟨by rfl, ?_⟩; rfl)
      simp only [List.getElem_toArray, List.getElem_cons_succ, List.getElem_cons_zero, Act.put, List.setIfInBounds_toArray, List.set_cons_zero, List.set_cons_succ]
      refine tk 12 (v := ?_) ?_ ?_
      rotate_left 1
      · first
          | (refine Or.inl ⟨by rfl, ?_⟩; intro w9 hSw; go_simp; (try with_reducible rfl); done)
          | (refine Or.inr ⟨by rfl, ?_⟩; rfl)
      simp only [List.getElem_toArray, List.getElem_cons_succ, List.getElem_cons_zero, Act.put, List.setIfInBounds_toArray, List.set_cons_zero, List.set_cons_succ]
      refine tk 13 (v := ?_) ?_ ?_
      rotate_left 1
      · first
          | (refine Or.inl ⟨by rfl, ?_⟩; intro w9 hSw; go_simp; (try with_reducible rfl); done)
          | (refine Or.inr ⟨by rfl, ?_⟩; rfl)
      simp only [List.getElem_toArray, List.getElem_cons_succ, List.getElem_cons_zero, Act.put, List.setIfInBounds_toArray, List.set_cons_zero, List.set_cons_succ]
      refine tk 14 (v := ?_) ?_ ?_
      rotate_left 1
      · first
          | (refine Or.inl ⟨by rfl, ?_⟩; intro w9 hSw; go_simp; (try with_reducible rfl); done)
          | (refine Or.inr ⟨by rfl, ?_⟩; rfl)
      simp only [List.getElem_toArray, List.getElem_cons_succ, List.getElem_cons_zero, Act.put, List.setIfInBounds_toArray, List.set_cons_zero, List.set_cons_succ]
      refine tk 15 (v := ?_) ?_ ?_
      rotate_left 1
      · first
          | (refine Or.inl ⟨by rfl, ?_⟩; intro w9 hSw; go_simp; (try with_reducible rfl); done)
          | (refine Or.inr ⟨by rfl, ?_⟩; rfl)
      simp only [List.getElem_toArray, List.getElem_cons_succ, List.getElem_cons_zero, Act.put, List.setIfInBounds_toArray, List.set_cons_zero, List.set_cons_succ]
      refine tk 16 (v := ?_) ?_ ?_
      rotate_left 1
      · first
          | (refine Or.inl ⟨by rfl, ?_⟩; intro w9 hSw; go_simp; (try with_reducible rfl); done)
          | (refine Or.inr ⟨by rfl, ?_⟩; rfl)
      simp only [List.getElem_toArray, List.getElem_cons_succ, List.getElem_cons_zero, Act.put, List.setIfInBounds_toArray, List.set_cons_zero, List.set_cons_succ]
      refine tk 17 (v := ?_) ?_ ?_
      rotate_left 1
      · first
          | (refine Or.inl ⟨by rfl, ?_⟩; intro w9 hSw; go_simp; (try with_reducible rfl); done)
          | (refine Or.inr ⟨by rfl, ?_⟩; rfl)
      simp only [List.getElem_toArray, List.getElem_cons_succ, List.getElem_cons_zero, Act.put, List.setIfInBounds_toArray, List.set_cons_zero, List.set_cons_succ]
      refine tk 18 (v := ?_) ?_ ?_
      rotate_left 1
      · first
          | (refine Or.inl ⟨by rfl, ?_⟩; intro w9 hSw; go_simp; (try with_reducible rfl); done)
          | (refine Or.inr ⟨by rfl, ?_⟩; rfl)
      simp only [List.getElem_toArray, List.getElem_cons_succ, List.getElem_cons_zero, Act.put, List.setIfInBounds_toArray, List.set_cons_zero, List.set_cons_succ]
      refine tk 19 (v := ?_) ?_ ?_
      rotate_left 1
      · first
          | (refine Or.inl ⟨by rfl, ?_⟩; intro w9 hSw; go_simp; (try with_reducible rfl); done)
          | (refine Or.inr ⟨by rfl, ?_⟩; rfl)
      simp only [List.getElem_toArray, List.getElem_cons_succ, List.getElem_cons_zero, Act.put, List.setIfInBounds_toArray, List.set_cons_zero, List.set_cons_succ]
      refine tk 20 (v := ?_) ?_ ?_
      rotate_left 1
      · first
          | (refine Or.inl ⟨by rfl, ?_⟩; intro w9 hSw; go_simp; (try with_reducible rfl); done)
          | (refine Or.inr ⟨by rfl, ?_⟩; rfl)
      simp only [List.getElem_toArray, List.getElem_cons_succ, List.getElem_cons_zero, Act.put, List.setIfInBounds_toArray, List.set_cons_zero, List.set_cons_succ]
      refine tk 21 (v := ?_) ?_ ?_
      rotate_left 1
      · first
          | (refine Or.inl ⟨by rfl, ?_⟩; intro w9 hSw; go_simp; (try with_reducible rfl); done)
          | (refine Or.inr ⟨by rfl, ?_⟩; rfl)
      simp only [List.getElem_toArray, List.getElem_cons_succ, List.getElem_cons_zero, Act.put, List.setIfInBounds_toArray, List.set_cons_zero, List.set_cons_succ]
      refine tk 22 (v := ?_) ?_ ?_
      rotate_left 1
      · first
          | (refine Or.inl ⟨by rfl, ?_⟩; intro w9 hSw; go_simp; (try with_reducible rfl); done)
          | (refine Or.inr ⟨by rfl, ?_⟩; rfl)
      simp only [List.getElem_toArray, List.getElem_cons_succ, List.getElem_cons_zero, Act.put, List.setIfInBounds_toArray, List.set_cons_zero, List.set_cons_succ]
      refine tk 23 (v := ?_) ?_ ?_
      rotate_left 1
      · first
          | (refine Or.inl ⟨by rfl, ?_⟩; intro w9 hSw; go_simp; (try with_reducible rfl); done)
          | (refine Or.inr ⟨by rfl, ?_⟩; rfl)
      simp only [List.getElem_toArray, List.getElem_cons_succ, List.getElem_cons_zero, Act.put, List.setIfInBounds_toArray, List.set_cons_zero, List.set_cons_succ]
      refine wpAnyH_done (by kernel_rfl) ?_ _
      go_wp2_with fail
      go_ret
      exact ⟨ret_bool (by rw [← HR2.out]; rfl), HB1.out.trans (by (repeat (first | exact Bel.refl _ | assumption | refine Bel.to_drewN ?_ _ | refine Bel.to_drew ?_ | refine Bel.to_setCell ?_ (by first | exact Nat.le_refl _ | (simp; done) | (simp; omega) | omega) _ | refine Bel.to_alloc ?_ _ | refine Bel.trans ?_ (by assumption))))⟩
    | true =>
    by_cases hz : nm + lm = 0
    · obtain rfl : nm = 0 := by omega
      obtain rfl : lm = 0 := by omega
      by_cases ho : 0 < om
      · have hoi : (0 : Int) < om := by omega
        have hR3 : Hid (P = R) := Lib.hid (by have := HR2.out; rw [decide_eq_true ho] at this; simpa using this)
        have hw0 : IntKind.i64.wrap 0 = 0 := by decide
        clear HR2 hz
        go_wp2_with fail
        refine wp_region_held_drew (S := fun w' => Bel w1 w') (by kernel_rfl) (by (repeat (first | exact Bel.refl _ | assumption | refine Bel.to_drewN ?_ _ | refine Bel.to_drew ?_ | refine Bel.to_setCell ?_ (by first | exact Nat.le_refl _ | (simp; done) | (simp; omega) | omega) _ | refine Bel.to_alloc ?_ _ | refine Bel.trans ?_ (by assumption)))) (fun hHeld => ?_)
        refine tk 0 (v := ?_) ?_ ?_
        rotate_left 1
        · first
            | (refine Or.inl ⟨by rfl, ?_⟩; intro w9 hSw; have e9_0 := Bel.keep hSw c5; have e9_1 := Bel.keep hSw c7; have e9_2 := Bel.keep hSw c9; have e9_3 := Bel.keep hSw c10; go_simp; (try with_reducible rfl); done)
            | (refine Or.inr ⟨by rfl, ?_⟩; rfl)
        simp only [List.getElem_toArray, List.getElem_cons_zero, Act.put, List.setIfInBounds_toArray, List.set_cons_zero, List.set_cons_succ]
        refine tk 1 (v := ?_) ?_ ?_
        rotate_left 1
        · first
            | (refine Or.inl ⟨by rfl, ?_⟩; intro w9 hSw; have e9_0 := Bel.keep hSw c5; have e9_1 := Bel.keep hSw c7; have e9_2 := Bel.keep hSw c9; have e9_3 := Bel.keep hSw c10; go_simp; (try with_reducible rfl); done)
            | (refine Or.inr ⟨by rfl, ?_⟩; rfl)
        simp only [List.getElem_toArray, List.getElem_cons_succ, List.getElem_cons_zero, Act.put, List.setIfInBounds_toArray, List.set_cons_zero, List.set_cons_succ]
        refine tk 2 (v := ?_) ?_ ?_
        rotate_left 1
        · first
            | (refine Or.inl ⟨by rfl, ?_⟩; intro w9 hSw; have e9_0 := Bel.keep hSw c5; have e9_1 := Bel.keep hSw c7; have e9_2 := Bel.keep hSw c9; have e9_3 := Bel.keep hSw c10; go_simp; (try with_reducible rfl); done)
            | (refine Or.inr ⟨by rfl, ?_⟩; rfl)
        simp only [List.getElem_toArray, List.getElem_cons_succ, List.getElem_cons_zero, Act.put, List.setIfInBounds_toArray, List.set_cons_zero, List.set_cons_succ]
        refine tk 3 (v := ?_) ?_ ?_
        rotate_left 1
        · first
            | (refine Or.inl ⟨by rfl, ?_⟩; intro w9 hSw; have e9_0 := Bel.keep hSw c5; have e9_1 := Bel.keep hSw c7; have e9_2 := Bel.keep hSw c9; have e9_3 := Bel.keep hSw c10; go_simp; (try with_reducible rfl); done)
            | (refine Or.inr ⟨by rfl, ?_⟩; rfl)
        simp only [List.getElem_toArray, List.getElem_cons_succ, List.getElem_cons_zero, Act.put, List.setIfInBounds_toArray, List.set_cons_zero, List.set_cons_succ]
        refine tk 4 (v := ?_) ?_ ?_
        rotate_left 1
        · first
            | (refine Or.inl ⟨by rfl, ?_⟩; intro w9 hSw; have e9_0 := Bel.keep hSw c5; have e9_1 := Bel.keep hSw c7; have e9_2 := Bel.keep hSw c9; have e9_3 := Bel.keep hSw c10; go_simp; (try with_reducible rfl); done)
            | (refine Or.inr ⟨by rfl, ?_⟩; rfl)
        simp only [List.getElem_toArray, List.getElem_cons_succ, List.getElem_cons_zero, Act.put, List.setIfInBounds_toArray, List.set_cons_zero, List.set_cons_succ]
        refine tk 5 (v := ?_) ?_ ?_
        rotate_left 1
        · first
            | (refine Or.inl ⟨by rfl, ?_⟩; intro w9 hSw; have e9_0 := Bel.keep hSw c5; have e9_1 := Bel.keep hSw c7; have e9_2 := Bel.keep hSw c9; have e9_3 := Bel.keep hSw c10; go_simp; (try with_reducible rfl); done)
            | (refine Or.inr ⟨by rfl, ?_⟩; rfl)
        simp only [List.getElem_toArray, List.getElem_cons_succ, List.getElem_cons_zero, Act.put, List.setIfInBounds_toArray, List.set_cons_zero, List.set_cons_succ]
        refine tk 6 (v := ?_) ?_ ?_
        rotate_left 1
        · first
            | (refine Or.inl ⟨by rfl, ?_⟩; intro w9 hSw; have e9_0 := Bel.keep hSw c5; have e9_1 := Bel.keep hSw c7; have e9_2 := Bel.keep hSw c9; have e9_3 := Bel.keep hSw c10; go_simp; (try with_reducible rfl); done)
            | (refine Or.inr ⟨by rfl, ?_⟩; rfl)
        simp only [List.getElem_toArray, List.getElem_cons_succ, List.getElem_cons_zero, Act.put, List.setIfInBounds_toArray, List.set_cons_zero, List.set_cons_succ]
        refine tk 7 (v := ?_) ?_ ?_
        rotate_left 1
        · first
            | (refine Or.inl ⟨by rfl, ?_⟩; intro w9 hSw; have e9_0 := Bel.keep hSw c5; have e9_1 := Bel.keep hSw c7; have e9_2 := Bel.keep hSw c9; have e9_3 := Bel.keep hSw c10; go_simp; (try with_reducible rfl); done)
            | (refine Or.inr ⟨by rfl, ?_⟩; rfl)
        simp only [List.getElem_toArray, List.getElem_cons_succ, List.getElem_cons_zero, Act.put, List.setIfInBounds_toArray, List.set_cons_zero, List.set_cons_succ]
        refine tk 8 (v := ?_) ?_ ?_
        rotate_left 1
        · first
            | (refine Or.inl ⟨by rfl, ?_⟩; intro w9 hSw; have e9_0 := Bel.keep hSw c5; have e9_1 := Bel.keep hSw c7; have e9_2 := Bel.keep hSw c9; have e9_3 := Bel.keep hSw c10; go_simp; (try with_reducible rfl); done)
            | (refine Or.inr ⟨by rfl, ?_⟩; rfl)
        simp only [List.getElem_toArray, List.getElem_cons_succ, List.getElem_cons_zero, Act.put, List.setIfInBounds_toArray, List.set_cons_zero, List.set_cons_succ]
        refine tk 9 (v := ?_) ?_ ?_
        rotate_left 1
        · first
            | (refine Or.inl ⟨by rfl, ?_⟩; intro w9 hSw; have e9_0 := Bel.keep hSw c5; have e9_1 := Bel.keep hSw c7; have e9_2 := Bel.keep hSw c9; have e9_3 := Bel.keep hSw c10; go_simp; (try with_reducible rfl); done)
            | (refine Or.inr ⟨by rfl, ?_⟩; rfl)
        simp only [List.getElem_toArray, List.getElem_cons_succ, List.getElem_cons_zero, Act.put, List.setIfInBounds_toArray, List.set_cons_zero, List.set_cons_succ]
        refine tk 10 (v := ?_) ?_ ?_
        rotate_left 1
        · first
            | (refine Or.inl ⟨by rfl, ?_⟩; intro w9 hSw; have e9_0 := Bel.keep hSw c5; have e9_1 := Bel.keep hSw c7; have e9_2 := Bel.keep hSw c9; have e9_3 := Bel.keep hSw c10; go_simp; (try with_reducible rfl); done)
            | (refine Or.inr ⟨by rfl, ?_⟩; rfl)
        simp only [List.getElem_toArray, List.getElem_cons_succ, List.getElem_cons_zero, Act.put, List.setIfInBounds_toArray, List.set_cons_zero, List.set_cons_succ]
        refine tk 11 (v := ?_) ?_ ?_
        rotate_left 1
        · first
            | (refine Or.inl ⟨by rfl, ?_⟩; intro w9 hSw; have e9_0 := Bel.keep hSw c5; have e9_1 := Bel.keep hSw c7; have e9_2 := Bel.keep hSw c9; have e9_3 := Bel.keep hSw c10; go_simp; (try with_reducible rfl); done)
            | (refine Or.inr ⟨by rfl, ?_⟩; rfl)
        simp only [List.getElem_toArray, List.getElem_cons_succ, List.getElem_cons_zero, Act.put, List.setIfInBounds_toArray, List.set_cons_zero, List.set_cons_succ]
        refine tk 12 (v := ?_) ?_ ?_
        rotate_left 1
        · first
            | (refine Or.inl ⟨by rfl, ?_⟩; intro w9 hSw; have e9_0 := Bel.keep hSw c5; have e9_1 := Bel.keep hSw c7; have e9_2 := Bel.keep hSw c9; have e9_3 := Bel.keep hSw c10; go_simp; (try with_reducible rfl); done)
            | (refine Or.inr ⟨by rfl, ?_⟩; rfl)
        simp only [List.getElem_toArray, List.getElem_cons_succ, List.getElem_cons_zero, Act.put, List.setIfInBounds_toArray, List.set_cons_zero, List.set_cons_succ]
        refine tk 13 (v := ?_) ?_ ?_
        rotate_left 1
        · first
            | (refine Or.inl ⟨by rfl, ?_⟩; intro w9 hSw; have e9_0 := Bel.keep hSw c5; have e9_1 := Bel.keep hSw c7; have e9_2 := Bel.keep hSw c9; have e9_3 := Bel.keep hSw c10; go_simp; (try with_reducible rfl); done)
            | (refine Or.inr ⟨by rfl, ?_⟩; rfl)
        simp only [List.getElem_toArray, List.getElem_cons_succ, List.getElem_cons_zero, Act.put, List.setIfInBounds_toArray, List.set_cons_zero, List.set_cons_succ]
        refine tk 14 (v := ?_) ?_ ?_
        rotate_left 1
        · first
            | (refine Or.inl ⟨by rfl, ?_⟩; intro w9 hSw; have e9_0 := Bel.keep hSw c5; have e9_1 := Bel.keep hSw c7; have e9_2 := Bel.keep hSw c9; have e9_3 := Bel.keep hSw c10; go_simp; (try with_reducible rfl); done)
            | (refine Or.inr ⟨by rfl, ?_⟩; rfl)
        simp only [List.getElem_toArray, List.getElem_cons_succ, List.getElem_cons_zero, Act.put, List.setIfInBounds_toArray, List.set_cons_zero, List.set_cons_succ]
        refine tk 15 (v := ?_) ?_ ?_
        rotate_left 1
        · first
            | (refine Or.inl ⟨by rfl, ?_⟩; intro w9 hSw; have e9_0 := Bel.keep hSw c5; have e9_1 := Bel.keep hSw c7; have e9_2 := Bel.keep hSw c9; have e9_3 := Bel.keep hSw c10; go_simp; (try with_reducible rfl); done)
            | (refine Or.inr ⟨by rfl, ?_⟩; rfl)
        simp only [List.getElem_toArray, List.getElem_cons_succ, List.getElem_cons_zero, Act.put, List.setIfInBounds_toArray, List.set_cons_zero, List.set_cons_succ]
        refine tk 16 (v := ?_) ?_ ?_
        rotate_left 1
        · first
            | (refine Or.inl ⟨by rfl, ?_⟩; intro w9 hSw; have e9_0 := Bel.keep hSw c5; have e9_1 := Bel.keep hSw c7; have e9_2 := Bel.keep hSw c9; have e9_3 := Bel.keep hSw c10; go_simp; (try with_reducible rfl); done)
            | (refine Or.inr ⟨by rfl, ?_⟩; rfl)
        simp only [List.getElem_toArray, List.getElem_cons_succ, List.getElem_cons_zero, Act.put, List.setIfInBounds_toArray, List.set_cons_zero, List.set_cons_succ]
        refine tk 17 (v := ?_) ?_ ?_
        rotate_left 1
        · first
            | (refine Or.inl ⟨by rfl, ?_⟩; intro w9 hSw; have e9_0 := Bel.keep hSw c5; have e9_1 := Bel.keep hSw c7; have e9_2 := Bel.keep hSw c9; have e9_3 := Bel.keep hSw c10; go_simp; (try with_reducible rfl); done)
            | (refine Or.inr ⟨by rfl, ?_⟩; rfl)
        simp only [List.getElem_toArray, List.getElem_cons_succ, List.getElem_cons_zero, Act.put, List.setIfInBounds_toArray, List.set_cons_zero, List.set_cons_succ]
        refine tk 18 (v := ?_) ?_ ?_
        rotate_left 1
        · first
            | (refine Or.inl ⟨by rfl, ?_⟩; intro w9 hSw; have e9_0 := Bel.keep hSw c5; have e9_1 := Bel.keep hSw c7; have e9_2 := Bel.keep hSw c9; have e9_3 := Bel.keep hSw c10; go_simp; (try with_reducible rfl); done)
            | (refine Or.inr ⟨by rfl, ?_⟩; rfl)
        simp only [List.getElem_toArray, List.getElem_cons_succ, List.getElem_cons_zero, Act.put, List.setIfInBounds_toArray, List.set_cons_zero, List.set_cons_succ]
        refine tk 19 (v := ?_) ?_ ?_
        rotate_left 1
        · first
            | (refine Or.inl ⟨by rfl, ?_⟩; intro w9 hSw; have e9_0 := Bel.keep hSw c5; have e9_1 := Bel.keep hSw c7; have e9_2 := Bel.keep hSw c9; have e9_3 := Bel.keep hSw c10; go_simp; (try with_reducible rfl); done)
            | (refine Or.inr ⟨by rfl, ?_⟩; rfl)
        simp only [List.getElem_toArray, List.getElem_cons_succ, List.getElem_cons_zero, Act.put, List.setIfInBounds_toArray, List.set_cons_zero, List.set_cons_succ]
        refine tk 20 (v := ?_) ?_ ?_
        rotate_left 1
        · first
            | (refine Or.inl ⟨by rfl, ?_⟩; intro w9 hSw; have e9_0 := Bel.keep hSw c5; have e9_1 := Bel.keep hSw c7; have e9_2 := Bel.keep hSw c9; have e9_3 := Bel.keep hSw c10; go_simp; (try with_reducible rfl); done)
            | (refine Or.inr ⟨by rfl, ?_⟩; rfl)
        simp only [List.getElem_toArray, List.getElem_cons_succ, List.getElem_cons_zero, Act.put, List.setIfInBounds_toArray, List.set_cons_zero, List.set_cons_succ]
        refine wpAnyH_ready (rs := [21]) (by kernel_rfl) (by simp) ?_
        refine AllReadyH.cons (o := _) rfl (fun K hK => ?_) AllReadyH.nil
        go_simp
        refine (HPW.out _ (by (repeat (first | exact Bel.refl _ | assumption | refine Bel.to_drewN ?_ _ | refine Bel.to_drew ?_ | refine Bel.to_setCell ?_ (by first | exact Nat.le_refl _ | (simp; done) | (simp; omega) | omega) _ | refine Bel.to_alloc ?_ _ | refine Bel.trans ?_ (by assumption))))).mono ?_
        rintro e2 w2 ⟨rfl, hb2⟩
        dsimp only
        refine hK.out _ _ (by (repeat (first | exact Bel.refl _ | assumption | refine Bel.to_drewN ?_ _ | refine Bel.to_drew ?_ | refine Bel.to_setCell ?_ (by first | exact Nat.le_refl _ | (simp; done) | (simp; omega) | omega) _ | refine Bel.to_alloc ?_ _ | refine Bel.trans ?_ (by assumption)))) (fun hHeld => ?_)
        clear hK K
        refine tk 22 (v := ?_) ?_ ?_
        rotate_left 1
        · first
            | (refine Or.inl ⟨by rfl, ?_⟩; intro w9 hSw; go_simp; (try with_reducible rfl); done)
            | (refine Or.inr ⟨by rfl, ?_⟩; rfl)
        simp only [List.getElem_toArray, List.getElem_cons_succ, List.getElem_cons_zero, Act.put, List.setIfInBounds_toArray, List.set_cons_zero, List.set_cons_succ]
        refine tk 23 (v := ?_) ?_ ?_
        rotate_left 1
        · first
            | (refine Or.inl ⟨by rfl, ?_⟩; intro w9 hSw; go_simp; (try with_reducible rfl); done)
            | (refine Or.inr ⟨by rfl, ?_⟩; rfl)
        simp only [List.getElem_toArray, List.getElem_cons_succ, List.getElem_cons_zero, Act.put, List.setIfInBounds_toArray, List.set_cons_zero, List.set_cons_succ]
        refine wpAnyH_done (by kernel_rfl) ?_ _
        go_wp2_with fail
        go_ret
        exact ⟨ret_bool hR3.out, HB1.out.trans (by (repeat (first | exact Bel.refl _ | assumption | refine Bel.to_drewN ?_ _ | refine Bel.to_drew ?_ | refine Bel.to_setCell ?_ (by first | exact Nat.le_refl _ | (simp; done) | (simp; omega) | omega) _ | refine Bel.to_alloc ?_ _ | refine Bel.trans ?_ (by assumption))))⟩
      · obtain rfl : om = 0 := by omega
        clear ho
        have hR3 : Hid (false = R) := Lib.hid (by have := HR2.out; simpa using this)
        have hw0 : IntKind.i64.wrap 0 = 0 := by decide
        clear HR2 hz
        go_wp2_with fail
        refine wp_region_held_drew (S := fun w' => Bel w1 w') (by kernel_rfl) (by (repeat (first | exact Bel.refl _ | assumption | refine Bel.to_drewN ?_ _ | refine Bel.to_drew ?_ | refine Bel.to_setCell ?_ (by first | exact Nat.le_refl _ | (simp; done) | (simp; omega) | omega) _ | refine Bel.to_alloc ?_ _ | refine Bel.trans ?_ (by assumption)))) (fun hHeld => ?_)
        refine tk 0 (v := ?_) ?_ ?_
        rotate_left 1
        · first
            | (refine Or.inl ⟨by rfl, ?_⟩; intro w9 hSw; have e9_0 := Bel.keep hSw c7; have e9_1 := Bel.keep hSw c9; have e9_2 := Bel.keep hSw c10; go_simp; (try with_reducible rfl); done)
            | (refine Or.inr ⟨by rfl, ?_⟩; rfl)
        simp only [List.getElem_toArray, List.getElem_cons_zero, Act.put, List.setIfInBounds_toArray, List.set_cons_zero, List.set_cons_succ]
        refine tk 1 (v := ?_) ?_ ?_
        rotate_left 1
        · first
            | (refine Or.inl ⟨by rfl, ?_⟩; intro w9 hSw; have e9_0 := Bel.keep hSw c7; have e9_1 := Bel.keep hSw c9; have e9_2 := Bel.keep hSw c10; go_simp; (try with_reducible rfl); done)
            | (refine Or.inr ⟨by rfl, ?_⟩; rfl)
        simp only [List.getElem_toArray, List.getElem_cons_succ, List.getElem_cons_zero, Act.put, List.setIfInBounds_toArray, List.set_cons_zero, List.set_cons_succ]
        refine tk 2 (v := ?_) ?_ ?_
        rotate_left 1
        · first
            | (refine Or.inl ⟨by rfl, ?_⟩; intro w9 hSw; have e9_0 := Bel.keep hSw c7; have e9_1 := Bel.keep hSw c9; have e9_2 := Bel.keep hSw c10; go_simp; (try with_reducible rfl); done)
            | (refine Or.inr ⟨by rfl, ?_⟩; rfl)
        simp only [List.getElem_toArray, List.getElem_cons_succ, List.getElem_cons_zero, Act.put, List.setIfInBounds_toArray, List.set_cons_zero, List.set_cons_succ]
        refine tk 3 (v := ?_) ?_ ?_
        rotate_left 1
        · first
            | (refine Or.inl ⟨by rfl, ?_⟩; intro w9 hSw; have e9_0 := Bel.keep hSw c7; have e9_1 := Bel.keep hSw c9; have e9_2 := Bel.keep hSw c10; go_simp; (try with_reducible rfl); done)
            | (refine Or.inr ⟨by rfl, ?_⟩; rfl)
        simp only [List.getElem_toArray, List.getElem_cons_succ, List.getElem_cons_zero, Act.put, List.setIfInBounds_toArray, List.set_cons_zero, List.set_cons_succ]
        refine tk 4 (v := ?_) ?_ ?_
        rotate_left 1
        · first
            | (refine Or.inl ⟨by rfl, ?_⟩; intro w9 hSw; have e9_0 := Bel.keep hSw c7; have e9_1 := Bel.keep hSw c9; have e9_2 := Bel.keep hSw c10; go_simp; (try with_reducible rfl); done)
            | (refine Or.inr ⟨by rfl, ?_⟩; rfl)
        simp only [List.getElem_toArray, List.getElem_cons_succ, List.getElem_cons_zero, Act.put, List.setIfInBounds_toArray, List.set_cons_zero, List.set_cons_succ]
        refine tk 5 (v := ?_) ?_ ?_
        rotate_left 1
        · first
            | (refine Or.inl ⟨by rfl, ?_⟩; intro w9 hSw; have e9_0 := Bel.keep hSw c7; have e9_1 := Bel.keep hSw c9; have e9_2 := Bel.keep hSw c10; go_simp; (try with_reducible rfl); done)
            | (refine Or.inr ⟨by rfl, ?_⟩; rfl)
        simp only [List.getElem_toArray, List.getElem_cons_succ, List.getElem_cons_zero, Act.put, List.setIfInBounds_toArray, List.set_cons_zero, List.set_cons_succ]
        refine tk 6 (v := ?_) ?_ ?_
        rotate_left 1
        · first
            | (refine Or.inl ⟨by rfl, ?_⟩; intro w9 hSw; have e9_0 := Bel.keep hSw c7; have e9_1 := Bel.keep hSw c9; have e9_2 := Bel.keep hSw c10; go_simp; (try with_reducible rfl); done)
            | (refine Or.inr ⟨by rfl, ?_⟩; rfl)
        simp only [List.getElem_toArray, List.getElem_cons_succ, List.getElem_cons_zero, Act.put, List.setIfInBounds_toArray, List.set_cons_zero, List.set_cons_succ]
        refine tk 7 (v := ?_) ?_ ?_
        rotate_left 1
        · first
            | (refine Or.inl ⟨by rfl, ?_⟩; intro w9 hSw; have e9_0 := Bel.keep hSw c7; have e9_1 := Bel.keep hSw c9; have e9_2 := Bel.keep hSw c10; go_simp; (try with_reducible rfl); done)
            | (refine Or.inr ⟨by rfl, ?_⟩; rfl)
        simp only [List.getElem_toArray, List.getElem_cons_succ, List.getElem_cons_zero, Act.put, List.setIfInBounds_toArray, List.set_cons_zero, List.set_cons_succ]
        refine tk 8 (v := ?_) ?_ ?_
        rotate_left 1
        · first
            | (refine Or.inl ⟨by rfl, ?_⟩; intro w9 hSw; have e9_0 := Bel.keep hSw c7; have e9_1 := Bel.keep hSw c9; have e9_2 := Bel.keep hSw c10; go_simp; (try with_reducible rfl); done)
            | (refine Or.inr ⟨by rfl, ?_⟩; rfl)
        simp only [List.getElem_toArray, List.getElem_cons_succ, List.getElem_cons_zero, Act.put, List.setIfInBounds_toArray, List.set_cons_zero, List.set_cons_succ]
        refine tk 9 (v := ?_) ?_ ?_
        rotate_left 1
        · first
            | (refine Or.inl ⟨by rfl, ?_⟩; intro w9 hSw; have e9_0 := Bel.keep hSw c7; have e9_1 := Bel.keep hSw c9; have e9_2 := Bel.keep hSw c10; go_simp; (try with_reducible rfl); done)
            | (refine Or.inr ⟨by rfl, ?_⟩; rfl)
        simp only [List.getElem_toArray, List.getElem_cons_succ, List.getElem_cons_zero, Act.put, List.setIfInBounds_toArray, List.set_cons_zero, List.set_cons_succ]
        refine tk 10 (v := ?_) ?_ ?_
        rotate_left 1
        · first
            | (refine Or.inl ⟨by rfl, ?_⟩; intro w9 hSw; have e9_0 := Bel.keep hSw c7; have e9_1 := Bel.keep hSw c9; have e9_2 := Bel.keep hSw c10; go_simp; (try with_reducible rfl); done)
            | (refine Or.inr ⟨by rfl, ?_⟩; rfl)
        simp only [List.getElem_toArray, List.getElem_cons_succ, List.getElem_cons_zero, Act.put, List.setIfInBounds_toArray, List.set_cons_zero, List.set_cons_succ]
        refine tk 11 (v := ?_) ?_ ?_
        rotate_left 1
        · first
            | (refine Or.inl ⟨by rfl, ?_⟩; intro w9 hSw; have e9_0 := Bel.keep hSw c7; have e9_1 := Bel.keep hSw c9; have e9_2 := Bel.keep hSw c10; go_simp; (try with_reducible rfl); done)
            | (refine Or.inr ⟨by rfl, ?_⟩; rfl)
        simp only [List.getElem_toArray, List.getElem_cons_succ, List.getElem_cons_zero, Act.put, List.setIfInBounds_toArray, List.set_cons_zero, List.set_cons_succ]
        refine tk 12 (v := ?_) ?_ ?_
        rotate_left 1
        · first
            | (refine Or.inl ⟨by rfl, ?_⟩; intro w9 hSw; have e9_0 := Bel.keep hSw c7; have e9_1 := Bel.keep hSw c9; have e9_2 := Bel.keep hSw c10; go_simp; (try with_reducible rfl); done)
            | (refine Or.inr ⟨by rfl, ?_⟩; rfl)
        simp only [List.getElem_toArray, List.getElem_cons_succ, List.getElem_cons_zero, Act.put, List.setIfInBounds_toArray, List.set_cons_zero, List.set_cons_succ]
        refine tk 13 (v := ?_) ?_ ?_
        rotate_left 1
        · first
            | (refine Or.inl ⟨by rfl, ?_⟩; intro w9 hSw; have e9_0 := Bel.keep hSw c7; have e9_1 := Bel.keep hSw c9; have e9_2 := Bel.keep hSw c10; go_simp; (try with_reducible rfl); done)
            | (refine Or.inr ⟨by rfl, ?_⟩; rfl)
        simp only [List.getElem_toArray, List.getElem_cons_succ, List.getElem_cons_zero, Act.put, List.setIfInBounds_toArray, List.set_cons_zero, List.set_cons_succ]
        refine tk 14 (v := ?_) ?_ ?_
        rotate_left 1
        · first
            | (refine Or.inl ⟨by rfl, ?_⟩; intro w9 hSw; have e9_0 := Bel.keep hSw c7; have e9_1 := Bel.keep hSw c9; have e9_2 := Bel.keep hSw c10; go_simp; (try with_reducible rfl); done)
            | (refine Or.inr ⟨by rfl, ?_⟩; rfl)
        simp only [List.getElem_toArray, List.getElem_cons_succ, List.getElem_cons_zero, Act.put, List.setIfInBounds_toArray, List.set_cons_zero, List.set_cons_succ]
        refine tk 15 (v := ?_) ?_ ?_
        rotate_left 1
        · first
            | (refine Or.inl ⟨by rfl, ?_⟩; intro w9 hSw; have e9_0 := Bel.keep hSw c7; have e9_1 := Bel.keep hSw c9; have e9_2 := Bel.keep hSw c10; go_simp; (try with_reducible rfl); done)
            | (refine Or.inr ⟨by rfl, ?_⟩; rfl)
        simp only [List.getElem_toArray, List.getElem_cons_succ, List.getElem_cons_zero, Act.put, List.setIfInBounds_toArray, List.set_cons_zero, List.set_cons_succ]
        refine tk 16 (v := ?_) ?_ ?_
        rotate_left 1
        · first
            | (refine Or.inl ⟨by rfl, ?_⟩; intro w9 hSw; have e9_0 := Bel.keep hSw c7; have e9_1 := Bel.keep hSw c9; have e9_2 := Bel.keep hSw c10; go_simp; (try with_reducible rfl); done)
            | (refine Or.inr ⟨by rfl, ?_⟩; rfl)
        simp only [List.getElem_toArray, List.getElem_cons_succ, List.getElem_cons_zero, Act.put, List.setIfInBounds_toArray, List.set_cons_zero, List.set_cons_succ]
        refine tk 17 (v := ?_) ?_ ?_
        rotate_left 1
        · first
            | (refine Or.inl ⟨by rfl, ?_⟩; intro w9 hSw; have e9_0 := Bel.keep hSw c7; have e9_1 := Bel.keep hSw c9; have e9_2 := Bel.keep hSw c10; go_simp; (try with_reducible rfl); done)
            | (refine Or.inr ⟨by rfl, ?_⟩; rfl)
        simp only [List.getElem_toArray, List.getElem_cons_succ, List.getElem_cons_zero, Act.put, List.setIfInBounds_toArray, List.set_cons_zero, List.set_cons_succ]
        refine tk 18 (v := ?_) ?_ ?_
        rotate_left 1
        · first
            | (refine Or.inl ⟨by rfl, ?_⟩; intro w9 hSw; have e9_0 := Bel.keep hSw c7; have e9_1 := Bel.keep hSw c9; have e9_2 := Bel.keep hSw c10; go_simp; (try with_reducible rfl); done)
            | (refine Or.inr ⟨by rfl, ?_⟩; rfl)
        simp only [List.getElem_toArray, List.getElem_cons_succ, List.getElem_cons_zero, Act.put, List.setIfInBounds_toArray, List.set_cons_zero, List.set_cons_succ]
        refine tk 19 (v := ?_) ?_ ?_
        rotate_left 1
        · first
            | (refine Or.inl ⟨by rfl, ?_⟩; intro w9 hSw; have e9_0 := Bel.keep hSw c7; have e9_1 := Bel.keep hSw c9; have e9_2 := Bel.keep hSw c10; go_simp; (try with_reducible rfl); done)
            | (refine Or.inr ⟨by rfl, ?_⟩; rfl)
        simp only [List.getElem_toArray, List.getElem_cons_succ, List.getElem_cons_zero, Act.put, List.setIfInBounds_toArray, List.set_cons_zero, List.set_cons_succ]
        refine tk 20 (v := ?_) ?_ ?_
        rotate_left 1
        · first
            | (refine Or.inl ⟨by rfl, ?_⟩; intro w9 hSw; have e9_0 := Bel.keep hSw c7; have e9_1 := Bel.keep hSw c9; have e9_2 := Bel.keep hSw c10; go_simp; (try with_reducible rfl); done)
            | (refine Or.inr ⟨by rfl, ?_⟩; rfl)
        simp only [List.getElem_toArray, List.getElem_cons_succ, List.getElem_cons_zero, Act.put, List.setIfInBounds_toArray, List.set_cons_zero, List.set_cons_succ]
        refine tk 21 (v := ?_) ?_ ?_
        rotate_left 1
        · first
            | (refine Or.inl ⟨by rfl, ?_⟩; intro w9 hSw; have e9_0 := Bel.keep hSw c7; have e9_1 := Bel.keep hSw c9; have e9_2 := Bel.keep hSw c10; go_simp; (try with_reducible rfl); done)
            | (refine Or.inr ⟨by rfl, ?_⟩; rfl)
        simp only [List.getElem_toArray, List.getElem_cons_succ, List.getElem_cons_zero, Act.put, List.setIfInBounds_toArray, List.set_cons_zero, List.set_cons_succ]
        refine tk 22 (v := ?_) ?_ ?_
        rotate_left 1
        · first
            | (refine Or.inl ⟨by rfl, ?_⟩; intro w9 hSw; have e9_0 := Bel.keep hSw c7; have e9_1 := Bel.keep hSw c9; have e9_2 := Bel.keep hSw c10; go_simp; (try with_reducible rfl); done)
            | (refine Or.inr ⟨by rfl, ?_⟩; rfl)
        simp only [List.getElem_toArray, List.getElem_cons_succ, List.getElem_cons_zero, Act.put, List.setIfInBounds_toArray, List.set_cons_zero, List.set_cons_succ]
        refine tk 23 (v := ?_) ?_ ?_
        rotate_left 1
        · first
            | (refine Or.inl ⟨by rfl, ?_⟩; intro w9 hSw; have e9_0 := Bel.keep hSw c7; have e9_1 := Bel.keep hSw c9; have e9_2 := Bel.keep hSw c10; go_simp; (try with_reducible rfl); done)
            | (refine Or.inr ⟨by rfl, ?_⟩; rfl)
        simp only [List.getElem_toArray, List.getElem_cons_succ, List.getElem_cons_zero, Act.put, List.setIfInBounds_toArray, List.set_cons_zero, List.set_cons_succ]
        refine wpAnyH_done (by kernel_rfl) ?_ _
        go_wp2_with fail
        go_ret
        exact ⟨ret_bool hR3.out, HB1.out.trans (by (repeat (first | exact Bel.refl _ | assumption | refine Bel.to_drewN ?_ _ | refine Bel.to_drew ?_ | refine Bel.to_setCell ?_ (by first | exact Nat.le_refl _ | (simp; done) | (simp; omega) | omega) _ | refine Bel.to_alloc ?_ _ | refine Bel.trans ?_ (by assumption))))⟩
    · have hzb : ((nm : Int) + lm == 0) = false := by simp; omega
      have hR3 : Hid (false = R) := Lib.hid (by have := HR2.out; rw [decide_eq_false hz] at this; simpa using this)
      have hsum : IntKind.i64.wrap ((nm : Int) + lm) = (nm : Int) + lm := IntWalk.i64_in _ (by omega)
      clear HR2 hz
      go_wp2_with fail
      refine wp_region_held_drew (S := fun w' => Bel w1 w') (by kernel_rfl) (by (repeat (first | exact Bel.refl _ | assumption | refine Bel.to_drewN ?_ _ | refine Bel.to_drew ?_ | refine Bel.to_setCell ?_ (by first | exact Nat.le_refl _ | (simp; done) | (simp; omega) | omega) _ | refine Bel.to_alloc ?_ _ | refine Bel.trans ?_ (by assumption)))) (fun hHeld => ?_)
      refine tk 0 (v := ?_) ?_ ?_
      rotate_left 1
      · first
          | (refine Or.inl ⟨by rfl, ?_⟩; intro w9 hSw; have e9_0 := Bel.keep hSw c9; have e9_1 := Bel.keep hSw c10; go_simp; (try with_reducible rfl); done)
          | (refine Or.inr ⟨by rfl, ?_⟩; rfl)
      simp only [List.getElem_toArray, List.getElem_cons_zero, Act.put, List.setIfInBounds_toArray, List.set_cons_zero, List.set_cons_succ]
      refine tk 1 (v := ?_) ?_ ?_
      rotate_left 1
      · first
          | (refine Or.inl ⟨by rfl, ?_⟩; intro w9 hSw; have e9_0 := Bel.keep hSw c9; have e9_1 := Bel.keep hSw c10; go_simp; (try with_reducible rfl); done)
          | (refine Or.inr ⟨by rfl, ?_⟩; rfl)
      simp only [List.getElem_toArray, List.getElem_cons_succ, List.getElem_cons_zero, Act.put, List.setIfInBounds_toArray, List.set_cons_zero, List.set_cons_succ]
      refine tk 2 (v := ?_) ?_ ?_
      rotate_left 1
      · first
          | (refine Or.inl ⟨by rfl, ?_⟩; intro w9 hSw; have e9_0 := Bel.keep hSw c9; have e9_1 := Bel.keep hSw c10; go_simp; (try with_reducible rfl); done)
          | (refine Or.inr ⟨by rfl, ?_⟩; rfl)
      simp only [List.getElem_toArray, List.getElem_cons_succ, List.getElem_cons_zero, Act.put, List.setIfInBounds_toArray, List.set_cons_zero, List.set_cons_succ]
      refine tk 3 (v := ?_) ?_ ?_
      rotate_left 1
      · first
          | (refine Or.inl ⟨by rfl, ?_⟩; intro w9 hSw; have e9_0 := Bel.keep hSw c9; have e9_1 := Bel.keep hSw c10; go_simp; (try with_reducible rfl); done)
          | (refine Or.inr ⟨by rfl, ?_⟩; rfl)
      simp only [List.getElem_toArray, List.getElem_cons_succ, List.getElem_cons_zero, Act.put, List.setIfInBounds_toArray, List.set_cons_zero, List.set_cons_succ]
      refine tk 4 (v := ?_) ?_ ?_
      rotate_left 1
      · first
          | (refine Or.inl ⟨by rfl, ?_⟩; intro w9 hSw; have e9_0 := Bel.keep hSw c9; have e9_1 := Bel.keep hSw c10; go_simp; (try with_reducible rfl); done)
          | (refine Or.inr ⟨by rfl, ?_⟩; rfl)
      simp only [List.getElem_toArray, List.getElem_cons_succ, List.getElem_cons_zero, Act.put, List.setIfInBounds_toArray, List.set_cons_zero, List.set_cons_succ]
      refine tk 5 (v := ?_) ?_ ?_
      rotate_left 1
      · first
          | (refine Or.inl ⟨by rfl, ?_⟩; intro w9 hSw; have e9_0 := Bel.keep hSw c9; have e9_1 := Bel.keep hSw c10; go_simp; (try with_reducible rfl); done)
          | (refine Or.inr ⟨by rfl, ?_⟩; rfl)
      simp only [List.getElem_toArray, List.getElem_cons_succ, List.getElem_cons_zero, Act.put, List.setIfInBounds_toArray, List.set_cons_zero, List.set_cons_succ]
      refine tk 6 (v := ?_) ?_ ?_
      rotate_left 1
      · first
          | (refine Or.inl ⟨by rfl, ?_⟩; intro w9 hSw; have e9_0 := Bel.keep hSw c9; have e9_1 := Bel.keep hSw c10; go_simp; (try with_reducible rfl); done)
          | (refine Or.inr ⟨by rfl, ?_⟩; rfl)
      simp only [List.getElem_toArray, List.getElem_cons_succ, List.getElem_cons_zero, Act.put, List.setIfInBounds_toArray, List.set_cons_zero, List.set_cons_succ]
      refine tk 7 (v := ?_) ?_ ?_
      rotate_left 1
      · first
          | (refine Or.inl ⟨by rfl, ?_⟩; intro w9 hSw; have e9_0 := Bel.keep hSw c9; have e9_1 := Bel.keep hSw c10; go_simp; (try with_reducible rfl); done)
          | (refine Or.inr ⟨by rfl, ?_⟩; rfl)
      simp only [List.getElem_toArray, List.getElem_cons_succ, List.getElem_cons_zero, Act.put, List.setIfInBounds_toArray, List.set_cons_zero, List.set_cons_succ]
      refine tk 8 (v := ?_) ?_ ?_
      rotate_left 1
      · first
          | (refine Or.inl ⟨by rfl, ?_⟩; intro w9 hSw; have e9_0 := Bel.keep hSw c9; have e9_1 := Bel.keep hSw c10; go_simp; (try with_reducible rfl); done)
          | (refine Or.inr ⟨by rfl, ?_⟩; rfl)
      simp only [List.getElem_toArray, List.getElem_cons_succ, List.getElem_cons_zero, Act.put, List.setIfInBounds_toArray, List.set_cons_zero, List.set_cons_succ]
      refine tk 9 (v := ?_) ?_ ?_
      rotate_left 1
      · first
          | (refine Or.inl ⟨by rfl, ?_⟩; intro w9 hSw; have e9_0 := Bel.keep hSw c9; have e9_1 := Bel.keep hSw c10; go_simp; (try with_reducible rfl); done)
          | (refine Or.inr ⟨by rfl, ?_⟩; rfl)
      simp only [List.getElem_toArray, List.getElem_cons_succ, List.getElem_cons_zero, Act.put, List.setIfInBounds_toArray, List.set_cons_zero, List.set_cons_succ]
      refine tk 10 (v := ?_) ?_ ?_
      rotate_left 1
      · first
          | (refine Or.inl ⟨by rfl, ?_⟩; intro w9 hSw; have e9_0 := Bel.keep hSw c9; have e9_1 := Bel.keep hSw c10; go_simp; (try with_reducible rfl); done)
          | (refine Or.inr ⟨by rfl, ?_⟩; rfl)
      simp only [List.getElem_toArray, List.getElem_cons_succ, List.getElem_cons_zero, Act.put, List.setIfInBounds_toArray, List.set_cons_zero, List.set_cons_succ]
      refine tk 11 (v := ?_) ?_ ?_
      rotate_left 1
      · first
          | (refine Or.inl ⟨by rfl, ?_⟩; intro w9 hSw; have e9_0 := Bel.keep hSw c9; have e9_1 := Bel.keep hSw c10; go_simp; (try with_reducible rfl); done)
          | (refine Or.inr ⟨by rfl, ?_⟩; rfl)
      simp only [List.getElem_toArray, List.getElem_cons_succ, List.getElem_cons_zero, Act.put, List.setIfInBounds_toArray, List.set_cons_zero, List.set_cons_succ]
      refine tk 12 (v := ?_) ?_ ?_
      rotate_left 1
      · first
          | (refine Or.inl ⟨by rfl, ?_⟩; intro w9 hSw; have e9_0 := Bel.keep hSw c9; have e9_1 := Bel.keep hSw c10; go_simp; (try with_reducible rfl); done)
          | (refine Or.inr ⟨by rfl, ?_⟩; rfl)
      simp only [List.getElem_toArray, List.getElem_cons_succ, List.getElem_cons_zero, Act.put, List.setIfInBounds_toArray, List.set_cons_zero, List.set_cons_succ]
      refine tk 13 (v := ?_) ?_ ?_
      rotate_left 1
      · first
          | (refine Or.inl ⟨by rfl, ?_⟩; intro w9 hSw; have e9_0 := Bel.keep hSw c9; have e9_1 := Bel.keep hSw c10; go_simp; (try with_reducible rfl); done)
          | (refine Or.inr ⟨by rfl, ?_⟩; rfl)
      simp only [List.getElem_toArray, List.getElem_cons_succ, List.getElem_cons_zero, Act.put, List.setIfInBounds_toArray, List.set_cons_zero, List.set_cons_succ]
      refine tk 14 (v := ?_) ?_ ?_
      rotate_left 1
      · first
          | (refine Or.inl ⟨by rfl, ?_⟩; intro w9 hSw; have e9_0 := Bel.keep hSw c9; have e9_1 := Bel.keep hSw c10; go_simp; (try with_reducible rfl); done)
          | (refine Or.inr ⟨by rfl, ?_⟩; rfl)
      simp only [List.getElem_toArray, List.getElem_cons_succ, List.getElem_cons_zero, Act.put, List.setIfInBounds_toArray, List.set_cons_zero, List.set_cons_succ]
      refine tk 15 (v := ?_) ?_ ?_
      rotate_left 1
      · first
          | (refine Or.inl ⟨by rfl, ?_⟩; intro w9 hSw; have e9_0 := Bel.keep hSw c9; have e9_1 := Bel.keep hSw c10; go_simp; (try with_reducible rfl); done)
          | (refine Or.inr ⟨by rfl, ?_⟩; rfl)
      simp only [List.getElem_toArray, List.getElem_cons_succ, List.getElem_cons_zero, Act.put, List.setIfInBounds_toArray, List.set_cons_zero, List.set_cons_succ]
      refine tk 16 (v := ?_) ?_ ?_
      rotate_left 1
      · first
          | (refine Or.inl ⟨by rfl, ?_⟩; intro w9 hSw; have e9_0 := Bel.keep hSw c9; have e9_1 := Bel.keep hSw c10; go_simp; (try with_reducible rfl); done)
          | (refine Or.inr ⟨by rfl, ?_⟩; rfl)
      simp only [List.getElem_toArray, List.getElem_cons_succ, List.getElem_cons_zero, Act.put, List.setIfInBounds_toArray, List.set_cons_zero, List.set_cons_succ]
      refine tk 17 (v := ?_) ?_ ?_
      rotate_left 1
      · first
          | (refine Or.inl ⟨by rfl, ?_⟩; intro w9 hSw; have e9_0 := Bel.keep hSw c9; have e9_1 := Bel.keep hSw c10; go_simp; (try with_reducible rfl); done)
          | (refine Or.inr ⟨by rfl, ?_⟩; rfl)
      simp only [List.getElem_toArray, List.getElem_cons_succ, List.getElem_cons_zero, Act.put, List.setIfInBounds_toArray, List.set_cons_zero, List.set_cons_succ]
      refine tk 18 (v := ?_) ?_ ?_
      rotate_left 1
      · first
          | (refine Or.inl ⟨by rfl, ?_⟩; intro w9 hSw; have e9_0 := Bel.keep hSw c9; have e9_1 := Bel.keep hSw c10; go_simp; (try with_reducible rfl); done)
          | (refine Or.inr ⟨by rfl, ?_⟩; rfl)
      simp only [List.getElem_toArray, List.getElem_cons_succ, List.getElem_cons_zero, Act.put, List.setIfInBounds_toArray, List.set_cons_zero, List.set_cons_succ]
      refine tk 19 (v := ?_) ?_ ?_
      rotate_left 1
      · first
          | (refine Or.inl ⟨by rfl, ?_⟩; intro w9 hSw; have e9_0 := Bel.keep hSw c9; have e9_1 := Bel.keep hSw c10; go_simp; (try with_reducible rfl); done)
          | (refine Or.inr ⟨by rfl, ?_⟩; rfl)
      simp only [List.getElem_toArray, List.getElem_cons_succ, List.getElem_cons_zero, Act.put, List.setIfInBounds_toArray, List.set_cons_zero, List.set_cons_succ]
      refine tk 20 (v := ?_) ?_ ?_
      rotate_left 1
      · first
          | (refine Or.inl ⟨by rfl, ?_⟩; intro w9 hSw; have e9_0 := Bel.keep hSw c9; have e9_1 := Bel.keep hSw c10; go_simp; (try with_reducible rfl); done)
          | (refine Or.inr ⟨by rfl, ?_⟩; rfl)
      simp only [List.getElem_toArray, List.getElem_cons_succ, List.getElem_cons_zero, Act.put, List.setIfInBounds_toArray, List.set_cons_zero, List.set_cons_succ]
      refine tk 21 (v := ?_) ?_ ?_
      rotate_left 1
      · first
          | (refine Or.inl ⟨by rfl, ?_⟩; intro w9 hSw; have e9_0 := Bel.keep hSw c9; have e9_1 := Bel.keep hSw c10; go_simp; (try with_reducible rfl); done)
          | (refine Or.inr ⟨by rfl, ?_⟩; rfl)
      simp only [List.getElem_toArray, List.getElem_cons_succ, List.getElem_cons_zero, Act.put, List.setIfInBounds_toArray, List.set_cons_zero, List.set_cons_succ]
      refine tk 22 (v := ?_) ?_ ?_
      rotate_left 1
      · first
          | (refine Or.inl ⟨by rfl, ?_⟩; intro w9 hSw; have e9_0 := Bel.keep hSw c9; have e9_1 := Bel.keep hSw c10; go_simp; (try with_reducible rfl); done)
          | (refine Or.inr ⟨by rfl, ?_⟩; rfl)
      simp only [List.getElem_toArray, List.getElem_cons_succ, List.getElem_cons_zero, Act.put, List.setIfInBounds_toArray, List.set_cons_zero, List.set_cons_succ]
      refine tk 23 (v := ?_) ?_ ?_
      rotate_left 1
      · first
          | (refine Or.inl ⟨by rfl, ?_⟩; intro w9 hSw; have e9_0 := Bel.keep hSw c9; have e9_1 := Bel.keep hSw c10; go_simp; (try with_reducible rfl); done)
          | (refine Or.inr ⟨by rfl, ?_⟩; rfl)
      simp only [List.getElem_toArray, List.getElem_cons_succ, List.getElem_cons_zero, Act.put, List.setIfInBounds_toArray, List.set_cons_zero, List.set_cons_succ]
      refine wpAnyH_done (by kernel_rfl) ?_ _
      go_wp2_with fail
      go_ret
      exact ⟨ret_bool hR3.out, HB1.out.trans (by (repeat (first | exact Bel.refl _ | assumption | refine Bel.to_drewN ?_ _ | refine Bel.to_drew ?_ | refine Bel.to_setCell ?_ (by first | exact Nat.le_refl _ | (simp; done) | (simp; omega) | omega) _ | refine Bel.to_alloc ?_ _ | refine Bel.trans ?_ (by assumption))))⟩
  have n1 : (k == 1) = false := by simpa using h1
  by_cases h2 : k = 2
  · subst h2
    have hR : (S && (B && (decide (0 < lm) && decide (nm = lm)))) = R := HR.out
    have HR2 := Lib.hid hR
    clear hR HR n0 h0 n1 h1
    cases S with
    | false =>
      go_wp2_with fail
      go_ret
      exact ⟨ret_bool (by rw [← HR2.out]; rfl), HB1.out⟩
    | true =>
    go_wp2_with fail
    refine (HBR.out _ HB1.out).mono ?_
    rintro e2 w2 ⟨rfl, hb2⟩
    have d9 := hb2.keep c9
    have d10 := hb2.keep c10
    cases B with
    | false =>
      go_wp2_with fail
      go_ret
      exact ⟨ret_bool (by rw [← HR2.out]; rfl), HB1.out.trans hb2⟩
    | true =>
    by_cases hl0 : 0 < lm
    · have hli : (0 : Int) < lm := by omega
      by_cases he : nm = lm
      · have HR3 : Hid (true = R) := Lib.hid (by have := HR2.out; simpa [hl0, he] using this)
        subst he
        clear HR2 hl0
        go_wp2_with fail
        go_ret
        exact ⟨ret_bool HR3.out, HB1.out.trans hb2⟩
      · have HR3 : Hid (false = R) := Lib.hid (by have := HR2.out; simpa [hl0, he] using this)
        have hne : ((nm : Int) == lm) = false := by simp; omega
        clear HR2 hl0 he
        go_wp2_with fail
        go_ret
        exact ⟨ret_bool HR3.out, HB1.out.trans hb2⟩
    · obtain rfl : lm = 0 := by omega
      have HR3 : Hid (false = R) := Lib.hid (by have := HR2.out; simpa using this)
      clear HR2 hl0
      go_wp2_with fail
      go_ret
      exact ⟨ret_bool HR3.out, HB1.out.trans hb2⟩
  · have n2 : (k == 2) = false := by simpa using h2
    have hR : (B && (decide (ek = 3) && decide (nm = lm))) = R := by have := HR.out; rwa [if_neg h0, if_neg h1, if_neg h2] at this
    have HR2 := Lib.hid hR
    clear hR HR h0 h1 h2
    go_wp2_with fail
    refine (HBR.out _ HB1.out).mono ?_
    rintro e2 w2 ⟨rfl, hb2⟩
    have d1 := hb2.keep c1
    have d9 := hb2.keep c9
    have d10 := hb2.keep c10
    cases B with
    | false =>
      go_wp2_with fail
      go_ret
      exact ⟨ret_bool (by rw [← HR2.out]; rfl), HB1.out.trans hb2⟩
    | true =>
    by_cases h3 : ek = 3
    · subst h3
      by_cases he : nm = lm
      · have HR3 : Hid (true = R) := Lib.hid (by have := HR2.out; simpa [he] using this)
        subst he
        clear HR2
        go_wp2_with fail
        go_ret
        exact ⟨ret_bool HR3.out, HB1.out.trans hb2⟩
      · have HR3 : Hid (false = R) := Lib.hid (by have := HR2.out; simpa [he] using this)
        have hne : ((nm : Int) == lm) = false := by simp; omega
        clear HR2 he
        go_wp2_with fail
        go_ret
        exact ⟨ret_bool HR3.out, HB1.out.trans hb2⟩
    · have HR3 : Hid (false = R) := Lib.hid (by have := HR2.out; simpa [h3] using this)
      have n3 : (ek == 3) = false := by simpa using h3
      clear HR2 h3
      go_wp2_with fail
      go_ret
      exact ⟨ret_bool HR3.out, HB1.out.trans hb2⟩
end Go.Proofs.YtbcdbefogfmhfaaGreatDoor

namespace Go.Proofs.YtbcdbefogfmhfaaGreatDoor
open Go.RowKit
theorem form_given {l : Lg} (hf : formL l = true) (hk : l.k = 2) : 0 < l.ns.length := by
  unfold formL at hf
  rw [if_neg (by omega), if_neg (by omega), if_pos hk] at hf
  simp only [Bool.and_eq_true, decide_eq_true_eq] at hf
  omega
theorem own_form_eq {l : Lg} (h0 : 0 ≤ l.k ∧ l.k ≤ 3) (hf : formL l = true) : ownL l = nz (fiveL l) := by
  unfold ownL
  rw [if_neg (by simpa using h0), if_neg (by rw [hf]; decide)]
set_option maxRecDepth 100000 in
set_option maxHeartbeats 16000000 in
theorem check_l : ∀ (n : Nat) (l : Lg), l.bulk ≤ n → n ≤ 1073741824 → ∀ (q : LgQ) (w : World), EnvX w → PolAt w → LgAt w l q →
    Calls Tryz.prog 41 #[lgV l q] w (RetBel (.int .i64 (checkL l)) w) := by
  intro n
  induction n with
  | zero => intro l hl; exfalso; have := lbulk_pos l; omega
  | succ n ih =>
    intro l hl hn q w hE hP hat
    have hat' := hat
    obtain ⟨nea, nen, nec, lea, len, lec, ia, im, ic, oa, om, oc, ra, rm, rc, na, nm, nc, la, lm, lc, rfl, ⟨him, hom, hrm, hnm, hlm⟩, ⟨hci, hco, hcr, hcn, hcl⟩, ⟨hbi, hbo, hbr, hbn, hbl⟩, hex, hpi, hpo, hpr, hpn, hpl⟩ := LgAt.opened hat
    unfold lgV
    dsimp only
    have HFORM : Hid (∀ W, Bel w W → Calls Tryz.prog 72 #[.agg #[.int .i64 l.k, .int .i64 l.e.k, .string l.e.s, .slice nea nen nec, .slice lea len lec, .string l.p, .slice ia im ic, .slice oa om oc, .slice ra rm rc, .slice na nm nc, .slice la lm lc]] W (RetBel (.bool (formL l)) W)) := Lib.hid fun W hW => form_c l ⟨.slice nea nen nec, .slice lea len lec, .slice ia im ic, .slice oa om oc, .slice ra rm rc, .slice na nm nc, .slice la lm lc⟩ W (hP.bel hW) (LgAt.bel hW l hat') (by omega)
    have HFIVE := Lib.hid (fun gb lb ga gn gc W (hW : Bel w W) hg h1 h2 h3 (h4 : CellsAt W lb 0 (lgC l ⟨.slice nea nen nec, .slice lea len lec, .slice ia im ic, .slice oa om oc, .slice ra rm rc, .slice na nm nc, .slice la lm lc⟩)) => five_funs l ⟨.slice nea nen nec, .slice lea len lec, .slice ia im ic, .slice oa om oc, .slice ra rm rc, .slice na nm nc, .slice la lm lc⟩ gb lb ga gn gc W (hE.bel hW) (LgAt.bel hW l hat') (by omega) hg h1 h2 h3 h4)
    have HIH : Hid (∀ (x : Lg), x.bulk < l.bulk → ∀ xq W, Bel w W → LgAt W x xq → Calls Tryz.prog 41 #[lgV x xq] W (RetBel (.int .i64 (checkL x)) W)) := Lib.hid fun x hx xq W hW h3 => ih x (by omega) (by omega) xq W (hE.bel hW) (hP.bel hW) h3
    obtain ⟨R, hR⟩ : ∃ R, checkL l = R := ⟨_, rfl⟩
    rw [hR]
    rw [checkL_eq] at hR
    have HR := Lib.hid hR
    have HPL := Lib.hid hpl
    have HPN := Lib.hid hpn
    have HLM := Lib.hid hlm
    have HNM := Lib.hid hnm
    have HFG := Lib.hid (form_given (l := l))
    have HOF := Lib.hid (own_form_eq (l := l))
    have hn2 : nm ≤ 1073741824 := by omega
    have hl2 : lm ≤ 1073741824 := by omega
    obtain ⟨k, hk⟩ : ∃ k, l.k = k := ⟨_, rfl⟩
    rw [hk] at HFORM HFG HOF ⊢
    have HK := Lib.hid hk
    obtain ⟨V1, h1, k1, l1, s1⟩ := alloc_step w 42 [.int .i64 k, .int .i64 l.e.k, .string l.e.s, .slice nea nen nec, .slice lea len lec, .string l.p, .slice ia im ic, .slice oa om oc, .slice ra rm rc, .slice na nm nc, .slice la lm lc]
    have HV1 := Lib.hid h1
    have T0 := Lib.hid k1
    have HB0 := Lib.hid l1
    have c0 := Blk.at k1 0
    have c1 := Blk.at k1 1
    have c2 := Blk.at k1 2
    have c3 := Blk.at k1 3
    have c4 := Blk.at k1 4
    have c5 := Blk.at k1 5
    have c6 := Blk.at k1 6
    have c7 := Blk.at k1 7
    have c8 := Blk.at k1 8
    have c9 := Blk.at k1 9
    have c10 := Blk.at k1 10
    clear ih him hom hrm hnm hlm hex hpi hpo hpr hpn hpl hat hat' hR hE hP hk h1 k1 l1 s1
    go_enter Tryz.func41, Tryz.ntmps41
    go_upto_region 1 with fail
    rw [show w.alloc (.cells #[.int .i64 k, .int .i64 l.e.k, .string l.e.s, .slice nea nen nec, .slice lea len lec, .string l.p, .slice ia im ic, .slice oa om oc, .slice ra rm rc, .slice na nm nc, .slice la lm lc] 42) = V1 from HV1.out]
    clear HV1
    by_cases hk03 : 0 ≤ k ∧ k ≤ 3
    rotate_left 1
    · have HF : Hid (2 = R) := Lib.hid (by
        have h := HR.out
        have h2 : ownL l = 2 := by unfold ownL; rw [if_pos (by rw [HK.out]; exact hk03)]
        rw [h2] at h; simpa using h)
      by_cases hk0 : k < 0
      · clear hk03
        go_wp2_with fail
        go_ret
        exact ⟨ret_int (by rw [← HF.out]; rfl), HB0.out⟩
      · have hk3 : 3 < k := by omega
        clear hk03
        go_wp2_with fail
        go_ret
        exact ⟨ret_int (by rw [← HF.out]; rfl), HB0.out⟩
    obtain ⟨hk0, hk3⟩ := hk03
    have hk0n : ¬ k < 0 := by omega
    have hk3n : ¬ 3 < k := by omega
    go_wp2_with fail
    refine (HFORM.out _ HB0.out).mono ?_
    rintro e1 w1 ⟨rfl, hb1⟩
    obtain ⟨f, hf⟩ : ∃ f, formL l = f := ⟨_, rfl⟩
    rw [hf]
    have t1 := T0.out.bel hb1
    have T1 := Lib.hid t1
    have HB1 := Lib.hid (HB0.out.trans hb1)
    clear HFORM T0 HB0 hb1 c0 c1 c2 c3 c4 c5 c6 c7 c8 c9 c10
    cases f with
    | false =>
      have HF : Hid (17 = R) := Lib.hid (by
        have h := HR.out
        have h2 : ownL l = 17 := by unfold ownL; rw [if_neg (by rw [HK.out]; simp; omega), if_pos hf]
        rw [h2] at h; simpa using h)
      clear t1 hf
      go_wp2_with fail
      go_ret
      exact ⟨ret_int (by rw [← HF.out]; rfl), HB1.out⟩
    | true =>
    have HO := Lib.hid (HOF.out ⟨hk0, hk3⟩ hf)
    have HGP : Hid (k = 2 → 0 < nm) := Lib.hid fun h2 => by have := HFG.out hf h2; rw [HNM.out] at this; exact this
    have d0 := t1.at 0
    have d9 := t1.at 9
    have d10 := t1.at 10
    clear HFG HOF hf t1
    have hcase : ∃ gn gc, (givenL k l.ns).length = gn ∧ gn ≤ gc ∧ gn ≤ 1073741824 ∧ NamesAt w na (givenL k l.ns) ∧ ((¬ k = 2 ∧ gn = nm ∧ gc = nc) ∨ ∃ g x, k = 2 ∧ nm = g + 1 ∧ l.ns[g]? = some x ∧ ((x = ⟨#[]⟩ ∧ gn = g ∧ gc = nc) ∨ (x ≠ ⟨#[]⟩ ∧ gn = nm ∧ gc = nc))) := by
      by_cases h2 : k = 2
      · have hg := HGP.out h2
        obtain ⟨g, rfl⟩ : ∃ g, nm = g + 1 := ⟨nm - 1, by omega⟩
        obtain ⟨x, hx⟩ : ∃ x, l.ns[g]? = some x := ⟨_, List.getElem?_eq_getElem (by have := HNM.out; omega)⟩
        have hgl : l.ns.length - 1 = g := by have := HNM.out; omega
        unfold givenL
        rw [hgl]
        by_cases hx0 : x = ⟨#[]⟩
        · rw [if_pos ⟨h2, by rw [hx, hx0]⟩]
          exact ⟨g, nc, by rw [List.length_take]; have := HNM.out; omega, by omega, by omega, HPN.out.take g, .inr ⟨g, x, h2, rfl, hx, .inl ⟨hx0, rfl, rfl⟩⟩⟩
        · rw [if_neg (by rintro ⟨_, h⟩; rw [hx] at h; exact hx0 (Option.some.inj h))]
          exact ⟨g + 1, nc, HNM.out, hcn, by omega, HPN.out, .inr ⟨g, x, h2, rfl, hx, .inr ⟨hx0, rfl, rfl⟩⟩⟩
      · unfold givenL
        rw [if_neg (fun h => h2 h.1)]
        exact ⟨nm, nc, HNM.out, hcn, by omega, HPN.out, .inl ⟨h2, rfl, rfl⟩⟩
    obtain ⟨gn, gc, hgl, hgc, hg2, hga, hcs⟩ := hcase
    have HGL := Lib.hid hgl
    have HGA := Lib.hid hga
    clear hgl hga
    go_upto_region 6 with fail
    obtain ⟨V2, h2, k2, l2, s2⟩ := alloc_step w1 35 [.slice na nm nc]
    rw [h2]
    have K2 := Lib.hid k2
    have L2 := Lib.hid l2
    have z0 := k2.at 0
    have y0 := l2.keep d0
    have hwl : w.heap.size < w1.heap.size := cell_lt d0
    have hfz := k2.fz 0
    clear h2 k2 l2 s2 d0
    go_upto_region 7 with fail
    obtain ⟨y, hy⟩ : ∃ y : Bool, (y = true → ∃ g, nm = g + 1 ∧ gn = g ∧ gc = nc) ∧ (y = false → gn = nm ∧ gc = nc) ∧ ((y = false ∧ ¬ k = 2) ∨ ∃ g x, k = 2 ∧ nm = g + 1 ∧ l.ns[g]? = some x ∧ y = decide (x = ⟨#[]⟩)) := by
      rcases hcs with ⟨h2, h3, h4⟩ | ⟨g, x, h2, h3, hx, ⟨hx1, h4, h5⟩ | ⟨hx1, h4, h5⟩⟩
      · exact ⟨false, fun h => (by cases h), fun _ => ⟨h3, h4⟩, .inl ⟨rfl, h2⟩⟩
      · exact ⟨true, fun _ => ⟨g, h3, h4, h5⟩, fun h => (by cases h), .inr ⟨g, x, h2, h3, hx, by rw [hx1]; rfl⟩⟩
      · exact ⟨false, fun h => (by cases h), fun _ => ⟨h4, h5⟩, .inr ⟨g, x, h2, h3, hx, (decide_eq_false hx1).symm⟩⟩
    have HYT := Lib.hid hy.1
    have HYF := Lib.hid hy.2.1
    have HYC := Lib.hid hy.2.2
    clear hy hcs
    go_cut [4, 36] (fun a v wx => a = .int .i64 ((nm : Int) - 1) ∧ v = .bool y ∧ V2 = wx)
    case first =>
      rcases HYC.out with ⟨rfl, h2⟩ | ⟨g, x, rfl, rfl, hx, rfl⟩
      · have n2 : (k == 2) = false := by simpa using h2
        clear h2
        go_wp2_with fail
        go_meet
        exact ⟨rfl, rfl, rfl⟩
      · obtain ⟨b, off, rfl, g0⟩ := HPN.out g x hx
        have f0 := (HB1.out.trans L2.out).keep g0
        have hge := lisEmpty x
        clear g0 hx HYC HYT HYF
        by_cases hx0 : x = ⟨#[]⟩
        · subst hx0
          clear hge
          go_wp2_with fail
          go_meet
          exact ⟨int_eq (by omega), bool_eq (by first | rfl | simp), rfl⟩
        · have HX0 := Lib.hid hx0
          have hxs : ¬ x.size = 0 := fun h => hx0 (ByteArray.ext (Array.eq_empty_of_size_eq_zero h))
          rw [decide_eq_false hxs] at hge
          have hge2 : (!x.toList.isEmpty) = true := by rw [hge]; rfl
          clear hx0 hxs
          go_wp2_with fail
          go_meet
          exact ⟨int_eq (by omega), bool_eq (decide_eq_false HX0.out).symm, rfl⟩
    case rest =>
    obtain ⟨rfl, rfl, rfl⟩ := hcut
    go_upto_if 36 with fail
    go_cut [36] (fun _ wx => Bel w1 wx ∧ Blk wx w1.heap.size 35 [.slice na gn gc])
    case first =>
      cases y with
      | true =>
        obtain ⟨g, rfl, rfl, rfl⟩ := HYT.out rfl
        clear HYC HYT HYF
        go_wp2_with fail
        go_meet
        exact ⟨bel_setNew L2.out (Nat.le_refl _) 0 _, K2.out.set 0 _⟩
      | false =>
        obtain ⟨rfl, rfl⟩ := HYF.out rfl
        clear HYC HYT HYF
        go_wp2_with fail
        go_meet
        exact ⟨L2.out, K2.out⟩
    case rest =>
    obtain ⟨hb2, hk2⟩ := hcut
    generalize wc = w2 at hb2 hk2 ⊢
    clear y0 z0 hfz d9 d10
    have HB2 := Lib.hid (HB1.out.trans hb2)
    have T2 := Lib.hid (T1.out.bel hb2)
    have c10 := (T1.out.bel hb2).at 10
    have hg := hk2.at 0
    obtain ⟨V3, h3, k3, l3, s3⟩ := alloc_step w2 110 (fiveV w1.heap.size w.heap.size)
    have hfun := HFIVE.out w1.heap.size w.heap.size na gn gc V3 (HB2.out.trans l3) (l3.keep hg) (by rw [HK.out]; exact HGL.out) hgc (by rw [HK.out]; exact HGA.out.bel (HB2.out.trans l3)) (by
      have h := blk_cells (T2.out.bel l3)
      unfold lgC
      rw [HK.out]
      exact h)
    have hfc := lfirst_c (fiveV w1.heap.size w.heap.size) (fiveL l) w2.heap.size 110 5 5 V3 rfl (by omega) k3 hfun
    have hor := HO.out
    obtain ⟨c, hc⟩ : ∃ c, nz (fiveL l) = c := ⟨_, rfl⟩
    rw [hc] at hfc hor
    have HR2 : Hid ((if c = 0 then nz (l.l.map checkL) else c) = R) := Lib.hid (by have h := HR.out; rwa [hor] at h)
    have HFC := Lib.hid hfc
    have HV3 := Lib.hid h3
    have L3 := Lib.hid l3
    unfold fiveV at HV3
    clear h3 k3 l3 s3 hfun hfc hor hc hg hk2 hb2 K2 L2 HYT HYF HYC HFIVE HO HGP HR
    go_wp2_with fail
    rw [show w2.alloc (.cells #[.func (.func 74) #[] #[.pointer (some ⟨w1.heap.size, 0, none⟩)], .func (.func 76) #[] #[.pointer (some ⟨w.heap.size, 0, none⟩)], .func (.func 77) #[] #[.pointer (some ⟨w.heap.size, 0, none⟩)], .func (.func 79) #[] #[.pointer (some ⟨w.heap.size, 0, none⟩)], .func (.func 80) #[] #[.pointer (some ⟨w.heap.size, 0, none⟩)]] 110) = V3 from HV3.out]
    refine HFC.out.mono ?_
    rintro e3 w3 ⟨rfl, hb3⟩
    have HB3 := Lib.hid (HB2.out.trans (L3.out.trans hb3))
    have d10 := hb3.keep (L3.out.keep c10)
    clear hb3 c10 HFC HV3 L3
    by_cases hc0 : c = 0
    rotate_left 1
    · have hc2 : ((c : Int) == 0) = false := by simpa using hc0
      have hc3 : ((c : Int) != 0) = true := by simpa using hc0
      have HF : Hid (c = R) := Lib.hid (by have := HR2.out; rwa [if_neg hc0] at this)
      clear hc0 HR2
      go_wp2_with fail
      go_ret
      exact ⟨ret_int (by rw [HF.out]), HB3.out⟩
    subst hc0
    have HR3 : Hid (nz (l.l.map checkL) = R) := Lib.hid (by have := HR2.out; simpa using this)
    clear HR2
    go_wp2_with fail
    go_loopw [53] (fun i wr => ∃ j : Nat, j ≤ lm ∧ i = .int .i64 j ∧ Bel w3 wr ∧ nz ((l.l.drop j).map checkL) = R) (fun i _ => lm - (intOf i).toNat)
    case atStart => exact ⟨0, Nat.zero_le _, rfl, Bel.refl _, HR3.out⟩
    case round =>
      obtain ⟨j, hj, rfl, hbel, hck⟩ := hrel
      by_cases hlt : j < lm
      · have hlti : (j : Int) < lm := by omega
        obtain ⟨x, hx⟩ : ∃ x, l.l[j]? = some x := ⟨_, List.getElem?_eq_getElem (by have := HLM.out; omega)⟩
        obtain ⟨b, off, xq, rfl, hxc, hxa⟩ := HPL.out j x hx
        have hbw := HB3.out.trans hbel
        have g1 := hxc.bel hbw
        have HX := Lib.hid (fun W (hW : Bel w W) => HIH.out x (lbulk_part hx) xq W hW (LgAt.bel hW x hxa))
        obtain ⟨xnea, xnen, xnec, xlea, xlen, xlec, xia, xim, xic, xoa, xom, xoc, xra, xrm, xrc, xna, xnm, xnc, xla, xlm, xlc, rfl, ⟨xhim, xhom, xhrm, xhnm, xhlm⟩, ⟨xhci, xhco, xhcr, xhcn, xhcl⟩, ⟨xhbi, xhbo, xhbr, xhbn, xhbl⟩, xhex, xhpi, xhpo, xhpr, xhpn, xhpl⟩ := LgAt.opened hxa
        unfold lgV at HX
        dsimp only at HX
        have f0 := CellsAt.get0 g1
        have f1 := CellsAt.get g1 1 rfl
        have f2 := CellsAt.get g1 2 rfl
        have f3 := CellsAt.get g1 3 rfl
        have f4 := CellsAt.get g1 4 rfl
        have f5 := CellsAt.get g1 5 rfl
        have f6 := CellsAt.get g1 6 rfl
        have f7 := CellsAt.get g1 7 rfl
        have f8 := CellsAt.get g1 8 rfl
        have f9 := CellsAt.get g1 9 rfl
        have f10 := CellsAt.get g1 10 rfl
        rw [nz_map_drop _ l.l j x hx] at hck
        obtain ⟨c, hc⟩ : ∃ c, checkL x = c := ⟨_, rfl⟩
        rw [hc] at HX hck
        have HCK := Lib.hid hck
        have HBL := Lib.hid hbel
        have HBW := Lib.hid hbw
        clear hxc g1 hxa hx hck hc hbel hbw xhim xhom xhrm xhnm xhlm xhex xhpi xhpo xhpr xhpn xhpl d10 HR3
        go_wp2_with fail
        refine (HX.out _ (HBW.out.to_alloc _)).mono ?_
        rintro e4 w4 ⟨rfl, hb4⟩
        have HB4 := Lib.hid (HBL.out.trans ((Bel.alloc _ _).trans hb4))
        clear hb4 HX f0 f1 f2 f3 f4 f5 f6 f7 f8 f9 f10
        by_cases hc0 : c = 0
        · subst hc0
          go_wp2_with fail
          exact ⟨⟨j + 1, by omega, by go_num, HB4.out, by have := HCK.out; simpa using this⟩, by simp [intOf]; omega⟩
        · have hc2 : ((c : Int) == 0) = false := by simpa using hc0
          have hc3 : ((c : Int) != 0) = true := by simpa using hc0
          have HF : Hid (c = R) := Lib.hid (by have := HCK.out; rwa [if_neg hc0] at this)
          clear hc0 HCK
          go_wp2_with fail
          go_ret
          exact ⟨ret_int (by rw [HF.out]), HB3.out.trans HB4.out⟩
      · obtain rfl : j = lm := by omega
        rw [nz_map_end _ _ _ (by have := HLM.out; omega)] at hck
        subst hck
        clear HR3
        go_wp2_with fail
        go_ret
        exact ⟨rfl, HB3.out.trans hbel⟩
set_option maxRecDepth 100000 in
set_option maxHeartbeats 4000000 in
theorem check_lx (l : Lg) (q : LgQ) (w : World) (hE : EnvX w) (hP : PolAt w) (hb : l.bulk ≤ 1073741824) (hat : LgAt w l q) :
    Calls Tryz.prog 17 #[lgV l q] w (RetBel (.int .i64 (CheckL l)) w) := by
  have hat' := hat
  obtain ⟨nea, nen, nec, lea, len, lec, ia, im, ic, oa, om, oc, ra, rm, rc, na, nm, nc, la, lm, lc, rfl, ⟨him, hom, hrm, hnm, hlm⟩, ⟨hci, hco, hcr, hcn, hcl⟩, ⟨hbi, hbo, hbr, hbn, hbl⟩, hex, hpi, hpo, hpr, hpn, hpl⟩ := LgAt.opened hat
  unfold lgV
  dsimp only
  have HD : Hid (∀ W, Bel w W → Calls Tryz.prog 40 #[.agg #[.int .i64 l.k, .int .i64 l.e.k, .string l.e.s, .slice nea nen nec, .slice lea len lec, .string l.p, .slice ia im ic, .slice oa om oc, .slice ra rm rc, .slice na nm nc, .slice la lm lc], .int .i64 30] W (RetBel (.bool (deepL l 30)) W)) := Lib.hid fun W hW => ldeep_c l.bulk l (Nat.le_refl _) hb ⟨.slice nea nen nec, .slice lea len lec, .slice ia im ic, .slice oa om oc, .slice ra rm rc, .slice na nm nc, .slice la lm lc⟩ W 30 (by omega) (by omega) (LgAt.bel hW l hat')
  have HC : Hid (∀ W, Bel w W → Calls Tryz.prog 41 #[.agg #[.int .i64 l.k, .int .i64 l.e.k, .string l.e.s, .slice nea nen nec, .slice lea len lec, .string l.p, .slice ia im ic, .slice oa om oc, .slice ra rm rc, .slice na nm nc, .slice la lm lc]] W (RetBel (.int .i64 (checkL l)) W)) := Lib.hid fun W hW => check_l l.bulk l (Nat.le_refl _) hb ⟨.slice nea nen nec, .slice lea len lec, .slice ia im ic, .slice oa om oc, .slice ra rm rc, .slice na nm nc, .slice la lm lc⟩ W (hE.bel hW) (hP.bel hW) (LgAt.bel hW l hat')
  obtain ⟨d, hd⟩ : ∃ d, deepL l 30 = d := ⟨_, rfl⟩
  obtain ⟨c, hc⟩ : ∃ c, checkL l = c := ⟨_, rfl⟩
  have hR : CheckL l = if d = true then 9 else c := by unfold CheckL; rw [hd, hc]
  rw [hd] at HD
  rw [hc] at HC
  rw [hR]
  have t0 := Blk.new w 42 [.int .i64 l.k, .int .i64 l.e.k, .string l.e.s, .slice nea nen nec, .slice lea len lec, .string l.p, .slice ia im ic, .slice oa om oc, .slice ra rm rc, .slice na nm nc, .slice la lm lc]
  have T0 := Lib.hid t0
  clear him hom hrm hnm hlm hex hpi hpo hpr hpn hpl hat hat' hR hE hP hd hc t0
  cases d with
  | true =>
    go_enter Tryz.func17, Tryz.ntmps17
    go_wp2_with fail
    refine (HD.out _ (Bel.alloc _ _)).mono ?_
    rintro e1 w1 ⟨rfl, hb1⟩
    go_wp2_with fail
    go_ret
    exact ⟨rfl, by (repeat (first | exact Bel.refl _ | assumption | refine Bel.to_drewN ?_ _ | refine Bel.to_drew ?_ | refine Bel.to_setCell ?_ (by first | exact Nat.le_refl _ | (simp; done) | (simp; omega) | omega) _ | refine Bel.to_alloc ?_ _ | refine Bel.trans ?_ (by assumption)))⟩
  | false =>
    go_enter Tryz.func17, Tryz.ntmps17
    go_wp2_with fail
    refine (HD.out _ (Bel.alloc _ _)).mono ?_
    rintro e1 w1 ⟨rfl, hb1⟩
    have t1 := T0.out.bel hb1
    have c0 := Blk.at t1 0
    have c1 := Blk.at t1 1
    have c2 := Blk.at t1 2
    have c3 := Blk.at t1 3
    have c4 := Blk.at t1 4
    have c5 := Blk.at t1 5
    have c6 := Blk.at t1 6
    have c7 := Blk.at t1 7
    have c8 := Blk.at t1 8
    have c9 := Blk.at t1 9
    have c10 := Blk.at t1 10
    clear t1
    go_wp2_with fail
    refine (HC.out _ (by (repeat (first | exact Bel.refl _ | assumption | refine Bel.to_drewN ?_ _ | refine Bel.to_drew ?_ | refine Bel.to_setCell ?_ (by first | exact Nat.le_refl _ | (simp; done) | (simp; omega) | omega) _ | refine Bel.to_alloc ?_ _ | refine Bel.trans ?_ (by assumption))))).mono ?_
    rintro e2 w2 ⟨rfl, hb2⟩
    go_wp2_with fail
    go_ret
    exact ⟨rfl, by (repeat (first | exact Bel.refl _ | assumption | refine Bel.to_drewN ?_ _ | refine Bel.to_drew ?_ | refine Bel.to_setCell ?_ (by first | exact Nat.le_refl _ | (simp; done) | (simp; omega) | omega) _ | refine Bel.to_alloc ?_ _ | refine Bel.trans ?_ (by assumption)))⟩
end Go.Proofs.YtbcdbefogfmhfaaGreatDoor
