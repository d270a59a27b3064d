/-
  logic: the walks of what is wrong with one: its rules, all of it.
-/
import Derived.Test.YtchbhcjhoocjaaaGreatDoorLGC
namespace Go.Proofs.YtchbhcjhoocjaaaGreatDoor
open Go.RowKit

set_option maxRecDepth 100000 in
set_option maxHeartbeats 8000000 in
theorem rules_c (l : Lg) (q : LgQ) (w : World) (hE : EnvX w) (hat : LgAt w l q) (hb : l.bulk ≤ 1073741824) :
    Calls Tryz.prog 70 #[lgV l q] w (RetBel (.int .i64 (rusE l.ins.length l.outs.length l.rs)) w) := by
  obtain ⟨nea, nen, nec, lea, len, lec, ia, im, ic, oa, om, oc, ra, rm, rc, na, nm, nc, la, lm, lc, rfl, ⟨him, hom, hrm, hnm, hlm⟩, ⟨hci, hco, hcr, hcn, hcl⟩, ⟨hbi, hbo, hbr, hbn, hbl⟩, hex, hpi, hpo, hpr, hpn, hpl⟩ := LgAt.opened hat
  unfold lgV
  dsimp only
  obtain ⟨R, hR⟩ : ∃ R, rusE l.ins.length l.outs.length l.rs = R := ⟨_, rfl⟩
  rw [hR]
  rw [him, hom] at hR
  unfold rusE at hR
  have HR := Lib.hid hR
  have HRS := Lib.hid hpr
  have HRM := Lib.hid hrm
  have HE := Lib.hid hE
  have HRB : Hid (rbulks l.rs ≤ 1073741824) := Lib.hid (by have := lbulk_eq l; omega)
  have hi2 : im ≤ 1073741824 := by omega
  have ho2 : om ≤ 1073741824 := by omega
  have hr2 : rm ≤ 1073741824 := by omega
  have t0 := Blk.new w 30 [.int .i64 l.k, .int .i64 l.e.k, .string l.e.s, .slice nea nen nec, .slice lea len lec, .string l.p, .slice ia im ic, .slice oa om oc, .slice ra rm rc, .slice na nm nc, .slice la lm lc]
  have hb0 : Bel w (w.alloc (.cells #[.int .i64 l.k, .int .i64 l.e.k, .string l.e.s, .slice nea nen nec, .slice lea len lec, .string l.p, .slice ia im ic, .slice oa om oc, .slice ra rm rc, .slice na nm nc, .slice la lm lc] 30)) := Bel.alloc _ _
  clear him hom hrm hnm hlm hex hpi hpo hpr hpn hpl hat hR hE
  go_enter Tryz.func70, Tryz.ntmps70
  go_wp2_with fail
  obtain ⟨W0, hW0⟩ : ∃ W0, w.alloc (.cells #[.int .i64 l.k, .int .i64 l.e.k, .string l.e.s, .slice nea nen nec, .slice lea len lec, .string l.p, .slice ia im ic, .slice oa om oc, .slice ra rm rc, .slice na nm nc, .slice la lm lc] 30) = W0 := ⟨_, rfl⟩
  rw [show w.alloc (.cells [.int .i64 l.k, .int .i64 l.e.k, .string l.e.s, .slice nea nen nec, .slice lea len lec, .string l.p, .slice ia im ic, .slice oa om oc, .slice ra rm rc, .slice na nm nc, .slice la lm lc].toArray 30) = W0 from hW0] at t0
  rw [hW0] at hb0 ⊢
  have T0 := Lib.hid t0
  have HB0 := Lib.hid hb0
  clear t0 hb0 hW0
  go_loopw [12] (fun i wr => ∃ j : Nat, j ≤ rm ∧ i = .int .i64 j ∧ Bel W0 wr ∧ nz ((l.rs.drop j).map (ruE im om)) = R) (fun i _ => rm - (intOf i).toNat)
  case atStart => exact ⟨0, Nat.zero_le _, rfl, Bel.refl _, HR.out⟩
  case round =>
    obtain ⟨j, hj, rfl, hbel, hck⟩ := hrel
    by_cases hlt : j < rm
    · have hlti : (j : Int) < rm := by omega
      obtain ⟨x, hx⟩ : ∃ x, l.rs[j]? = some x := ⟨_, List.getElem?_eq_getElem (by have := HRM.out; omega)⟩
      obtain ⟨b, off, rfl, vi, vo, hxc, ⟨ta, tc, rfl, htc, hti⟩, ya, yc, rfl, hyc, hyo⟩ := HRS.out j x hx
      have hbw := HB0.out.trans hbel
      have g0 := hbw.keep hxc.get0
      have g1 := hbw.keep (hxc.get 1 rfl)
      obtain ⟨tn, htn⟩ : ∃ n, x.ins.length = n := ⟨_, rfl⟩
      obtain ⟨un, hun⟩ : ∃ n, x.out.length = n := ⟨_, rfl⟩
      have hxb : tbulks x.ins + Ex.bulk.bulks x.out ≤ 1073741824 := by have := rbulks_mem (List.mem_of_getElem? hx); have := HRB.out; unfold Ru.bulk at *; omega
      have htn2 : tn ≤ 1073741824 := by have := tbulks_len x.ins; omega
      have hun2 : un ≤ 1073741824 := by have := bulks_len x.out; omega
      rw [htn] at g0 htc
      rw [hun] at g1 hyc
      rw [nz_map_drop _ l.rs j x hx] at hck
      have d6 := hbel.keep (T0.out.at 6)
      have d7 := hbel.keep (T0.out.at 7)
      have hwl : w.heap.size < wr.heap.size := cell_lt d6
      by_cases h1 : tn = im
      · by_cases h2 : un = om
        · have hru : ruE im om x = if nz (x.ins.map CheckT) = 0 then exprsE x.out else nz (x.ins.map CheckT) := by
            unfold ruE; rw [htn, hun, if_neg (by omega)]
          rw [hru] at hck
          subst h1 h2
          obtain ⟨T, hT⟩ : ∃ T, nz (x.ins.map CheckT) = T := ⟨_, rfl⟩
          rw [hT] at hck
          have HT := Lib.hid hT
          have HTI := Lib.hid hti
          have HTN := Lib.hid htn
          have HXO := Lib.hid (fun W (hW : Bel w W) => exprs_c x.out ya un yc W (HE.out.bel hW) hun hun2 (ex_mem_bulk (by omega)) (hyo.bel hW))
          have HXB := Lib.hid hxb
          have HCK := Lib.hid hck
          have HBW := Lib.hid hbw
          have HBL := Lib.hid hbel
          obtain ⟨wo, hwo⟩ : ∃ W, W = wr := ⟨_, rfl⟩
          subst hwo
          clear hxc hti hyo hx hck hbel hbw hru hT hxb htn hun HR
          go_wp2_with fail
          obtain ⟨W1, hW1, k1, l1, s1⟩ := alloc_step wo 34 [.slice ta tn tc, .slice ya un yc]
          rw [hW1]
          have K1 := Lib.hid k1
          have L1 := Lib.hid l1
          clear hW1 k1 l1 s1
          go_loopw [35] (fun i wr => ∃ p : Nat, p ≤ tn ∧ i = .int .i64 p ∧ Bel W1 wr ∧ nz ((x.ins.drop p).map CheckT) = T) (fun i _ => tn - (intOf i).toNat)
          case atStart => exact ⟨0, Nat.zero_le _, rfl, Bel.refl _, HT.out⟩
          case round =>
            obtain ⟨p, hp, rfl, hbel, hck⟩ := hrel
            by_cases hltp : p < tn
            · have hltpi : (p : Int) < tn := by omega
              obtain ⟨y, hy⟩ : ∃ y, x.ins[p]? = some y := ⟨_, List.getElem?_eq_getElem (by have := HTN.out; omega)⟩
              obtain ⟨b2, off2, rfl, v, hyc2, za, zc, rfl, hzc, hzo⟩ := HTI.out p y hy
              have hbw := HBW.out.trans (L1.out.trans hbel)
              have f0 := hbw.keep hyc2.get0
              have f1 := hbw.keep (hyc2.get 1 rfl)
              have f2 := hbw.keep (hyc2.get 2 rfl)
              obtain ⟨zn, hzn⟩ : ∃ n, y.l.length = n := ⟨_, rfl⟩
              rw [hzn] at f2 hzc
              have hyb : Ex.bulk.bulks y.l ≤ 1073741824 := by have := tbulks_mem (List.mem_of_getElem? hy); have := HXB.out; unfold Te.bulk at *; omega
              have hzn2 : zn ≤ 1073741824 := by have := bulks_len y.l; omega
              have HC := Lib.hid (fun W (hW : Bel w W) => ucheck_c y za zn zc W (HE.out.bel hW) hzn hzn2 (ex_mem_bulk hyb) (hzo.bel hW))
              rw [nz_map_drop _ x.ins p y hy] at hck
              obtain ⟨c, hc⟩ : ∃ c, CheckT y = c := ⟨_, rfl⟩
              rw [hc] at HC hck
              have HBP := Lib.hid hbel
              have HBWP := Lib.hid hbw
              have HCP := Lib.hid hck
              clear hyc2 hzo hy hbw hbel hck hc hyb hzn
              go_wp2_with fail
              refine (HC.out _ (HBWP.out.to_alloc _)).mono ?_
              rintro e2 w2 ⟨rfl, hb2⟩
              have HB2 := Lib.hid (HBP.out.trans ((Bel.alloc _ _).trans hb2))
              clear hb2 HC
              by_cases hc0 : c = 0
              · subst hc0
                go_wp2_with fail
                exact ⟨⟨p + 1, by omega, by go_num, HB2.out, by have := HCP.out; simpa using this⟩, by simp [intOf]; omega⟩
              · have hc2 : ((c : Int) == 0) = false := by simpa using hc0
                have hc3 : ((c : Int) != 0) = true := by simpa using hc0
                have HF : Hid (c = R) := Lib.hid (by have h := HCP.out; rw [if_neg hc0] at h; subst h; have := HCK.out; simpa [hc0] using this)
                clear hc0 HCK HCP
                go_wp2_with fail
                go_ret
                exact ⟨ret_int (by rw [HF.out]), HBW.out.trans (L1.out.trans HB2.out)⟩
            · obtain rfl : p = tn := by omega
              rw [nz_map_end _ _ _ (by have := HTN.out; omega)] at hck
              subst hck
              have hck := HCK.out
              rw [if_pos rfl] at hck
              have HX2 := Lib.hid (HXO.out wr (HBW.out.trans (L1.out.trans hbel)))
              obtain ⟨c, hc⟩ : ∃ c, exprsE x.out = c := ⟨_, rfl⟩
              rw [hc] at HX2 hck
              have HCK2 := Lib.hid hck
              have r1 := hbel.keep (K1.out.at 1)
              have hwo2 : wo.heap.size < wr.heap.size := cell_lt r1
              have HBP := Lib.hid hbel
              clear hck hc hbel HCK HXO
              go_wp2_with fail
              refine HX2.out.mono ?_
              rintro e2 w2 ⟨rfl, hb2⟩
              have HB2 := Lib.hid (HBP.out.trans hb2)
              clear hb2 HX2
              by_cases hc0 : c = 0
              · subst hc0
                go_wp2_with fail
                exact ⟨⟨j + 1, by omega, by go_num, HBL.out.trans (L1.out.trans HB2.out), by have := HCK2.out; simpa using this⟩, by simp [intOf]; omega⟩
              · have hc2 : ((c : Int) == 0) = false := by simpa using hc0
                have hc3 : ((c : Int) != 0) = true := by simpa using hc0
                have HF : Hid (c = R) := Lib.hid (by have := HCK2.out; simpa [hc0] using this)
                clear hc0 HCK2
                go_wp2_with fail
                go_ret
                exact ⟨ret_int (by rw [HF.out]), HBW.out.trans (L1.out.trans HB2.out)⟩
        · have HF : Hid (17 = R) := Lib.hid (by have h := hck; rw [show ruE im om x = 17 from by unfold ruE; rw [htn, hun, if_pos (Or.inr h2)]] at h; simpa using h)
          subst h1
          have hne : ((un : Int) != om) = true := by simp; omega
          have hne2 : ((un : Int) == om) = false := by simp; omega
          have HBW := Lib.hid hbw
          clear hxc hti hyo hx hck hbel hbw htn hun HR h2
          go_wp2_with fail
          go_ret
          exact ⟨ret_int (by rw [← HF.out]; rfl), by have := HBW.out; (repeat (first | exact Bel.refl _ | assumption | refine Bel.to_drewN ?_ _ | refine Bel.to_drew ?_ | refine Bel.to_setCell ?_ (by first | exact Nat.le_refl _ | (simp; done) | (simp; omega) | omega) _ | refine Bel.to_alloc ?_ _ | refine Bel.trans ?_ (by assumption)))⟩
      · have HF : Hid (17 = R) := Lib.hid (by have h := hck; rw [show ruE im om x = 17 from by unfold ruE; rw [htn, hun, if_pos (Or.inl h1)]] at h; simpa using h)
        have hne : ((tn : Int) != im) = true := by simp; omega
        have hne2 : ((tn : Int) == im) = false := by simp; omega
        have HBW := Lib.hid hbw
        clear hxc hti hyo hx hck hbel hbw htn hun HR h1
        go_wp2_with fail
        go_ret
        exact ⟨ret_int (by rw [← HF.out]; rfl), by have := HBW.out; (repeat (first | exact Bel.refl _ | assumption | refine Bel.to_drewN ?_ _ | refine Bel.to_drew ?_ | refine Bel.to_setCell ?_ (by first | exact Nat.le_refl _ | (simp; done) | (simp; omega) | omega) _ | refine Bel.to_alloc ?_ _ | refine Bel.trans ?_ (by assumption)))⟩
    · obtain rfl : j = rm := by omega
      rw [nz_map_end _ _ _ (by have := HRM.out; omega)] at hck
      subst hck
      clear HR
      go_wp2_with fail
      go_ret
      exact ⟨rfl, HB0.out.trans hbel⟩

/-! The five questions. -/
set_option maxRecDepth 100000 in
set_option maxHeartbeats 2000000 in
theorem check1_c (gb : Nat) (a : Option Addr) (n c : Nat) (e : Nat) (w : World) (hcell : w.cell? ⟨gb, 0, none⟩ = some (.slice a n c)) (hc : Calls Tryz.prog 64 #[.slice a n c] w (RetBel (.int .i64 e) w)) :
    Calls Tryz.prog 63 #[.pointer (some ⟨gb, 0, none⟩)] w (RetBel (.int .i64 e) w) := by
  have HC := Lib.hid hc
  clear hc
  go_enter Tryz.func63, Tryz.ntmps63
  go_wp2_with fail
  refine HC.out.mono ?_
  rintro e1 w1 ⟨rfl, hb1⟩
  go_wp2_with fail
  go_ret
  exact ⟨rfl, hb1⟩
set_option maxRecDepth 100000 in
set_option maxHeartbeats 2000000 in
theorem check2_c (lb : Nat) (a : Option Addr) (n c : Nat) (e : Nat) (w : World) (hcell : w.cell? ⟨lb, 7, none⟩ = some (.slice a n c)) (hc : Calls Tryz.prog 64 #[.slice a n c] w (RetBel (.int .i64 e) w)) :
    Calls Tryz.prog 65 #[.pointer (some ⟨lb, 0, none⟩)] w (RetBel (.int .i64 e) w) := by
  have HC := Lib.hid hc
  clear hc
  go_enter Tryz.func65, Tryz.ntmps65
  go_wp2_with fail
  refine HC.out.mono ?_
  rintro e1 w1 ⟨rfl, hb1⟩
  go_wp2_with fail
  go_ret
  exact ⟨rfl, hb1⟩
set_option maxRecDepth 100000 in
set_option maxHeartbeats 2000000 in
theorem check3_c (lb : Nat) (k : Int) (x : Ex) (xna : Option Addr) (xnn xnc : Nat) (xla : Option Addr) (xln xlc : Nat) (w : World) (hE : EnvX w) (h0 : w.cell? ⟨lb, 0, none⟩ = some (.int .i64 k)) (h1 : w.cell? ⟨lb, 1, none⟩ = some (.int .i64 x.k)) (h2 : w.cell? ⟨lb, 2, none⟩ = some (.string x.s))
    (h3 : w.cell? ⟨lb, 3, none⟩ = some (.slice xna xnn xnc)) (h4 : w.cell? ⟨lb, 4, none⟩ = some (.slice xla xln xlc)) (hx : ExAt w x (.slice xna xnn xnc) (.slice xla xln xlc)) (hb : x.bulk ≤ 1073741824) :
    Calls Tryz.prog 66 #[.pointer (some ⟨lb, 0, none⟩)] w (RetBel (.int .i64 ((if k = 0 ∨ k = 3 then exprsE [x] else 0 : Nat) : Int)) w) := by
  have HC : Hid (∀ W b, Bel w W → Blk W b 26 [.int .i64 x.k, .string x.s, .slice xna xnn xnc, .slice xla xln xlc] → Calls Tryz.prog 67 #[.slice (some ⟨b, 0, none⟩) 1 1] W (RetBel (.int .i64 (exprsE [x])) W)) :=
    Lib.hid fun W b hW hbk => exprs_c [x] _ 1 1 W (hE.bel hW) rfl (by omega) (by intro y hy; rw [List.mem_singleton.1 hy]; exact hb) (parts_of_exs (exs_one hbk rfl (ExAt.bel hW x hx)))
  obtain ⟨R, hR⟩ : ∃ R, exprsE [x] = R := ⟨_, rfl⟩
  rw [hR] at HC ⊢
  clear hE hx hR
  by_cases hk : k = 0 ∨ k = 3
  · rw [if_pos hk]
    have HB := Lib.hid (HC.out _ w.heap.size (Bel.alloc w _) (Blk.new w 26 [.int .i64 x.k, .string x.s, .slice xna xnn xnc, .slice xla xln xlc]))
    rcases hk with rfl | rfl
    all_goals
      go_enter Tryz.func66, Tryz.ntmps66
      go_wp2_with fail
      refine HB.out.mono ?_
      rintro e1 w1 ⟨rfl, hb1⟩
      go_wp2_with fail
      go_ret
      exact ⟨rfl, (Bel.alloc _ _).trans hb1⟩
  · rw [if_neg hk]
    have n0 : (k == 0) = false := by simp; omega
    have n3 : (k == 3) = false := by simp; omega
    clear hk
    go_enter Tryz.func66, Tryz.ntmps66
    go_wp2_with fail
    go_ret
    exact ⟨rfl, Bel.refl _⟩
set_option maxRecDepth 100000 in
set_option maxHeartbeats 2000000 in
theorem check4_c (lb : Nat) (a : Option Addr) (n c : Nat) (e : Nat) (w : World) (hcell : w.cell? ⟨lb, 6, none⟩ = some (.slice a n c)) (hc : Calls Tryz.prog 67 #[.slice a n c] w (RetBel (.int .i64 e) w)) :
    Calls Tryz.prog 68 #[.pointer (some ⟨lb, 0, none⟩)] w (RetBel (.int .i64 e) w) := by
  have HC := Lib.hid hc
  clear hc
  go_enter Tryz.func68, Tryz.ntmps68
  go_wp2_with fail
  refine HC.out.mono ?_
  rintro e1 w1 ⟨rfl, hb1⟩
  go_wp2_with fail
  go_ret
  exact ⟨rfl, hb1⟩
set_option maxRecDepth 100000 in
set_option maxHeartbeats 2000000 in
theorem check5_c (lb : Nat) (l : Lg) (q : LgQ) (e : Nat) (w : World) (hat : LgAt w l q) (hcells : CellsAt w lb 0 (lgC l q)) (hc : Calls Tryz.prog 70 #[lgV l q] w (RetBel (.int .i64 e) w)) :
    Calls Tryz.prog 69 #[.pointer (some ⟨lb, 0, none⟩)] w (RetBel (.int .i64 e) w) := by
  obtain ⟨nea, nen, nec, lea, len, lec, ia, im, ic, oa, om, oc, ra, rm, rc, na, nm, nc, la, lm, lc, rfl, ⟨him, hom, hrm, hnm, hlm⟩, ⟨hci, hco, hcr, hcn, hcl⟩, ⟨hbi, hbo, hbr, hbn, hbl⟩, hex, hpi, hpo, hpr, hpn, hpl⟩ := LgAt.opened hat
  unfold lgV at hc
  dsimp only at hc
  have c0 := CellsAt.get0 hcells
  have c1 := CellsAt.get hcells 1 rfl
  have c2 := CellsAt.get hcells 2 rfl
  have c3 := CellsAt.get hcells 3 rfl
  have c4 := CellsAt.get hcells 4 rfl
  have c5 := CellsAt.get hcells 5 rfl
  have c6 := CellsAt.get hcells 6 rfl
  have c7 := CellsAt.get hcells 7 rfl
  have c8 := CellsAt.get hcells 8 rfl
  have c9 := CellsAt.get hcells 9 rfl
  have c10 := CellsAt.get hcells 10 rfl
  simp only [Nat.zero_add] at c1 c2 c3 c4 c5 c6 c7 c8 c9 c10
  have HC := Lib.hid hc
  clear hc him hom hrm hnm hlm hex hpi hpo hpr hpn hpl hat hcells
  go_enter Tryz.func69, Tryz.ntmps69
  go_wp2_with fail
  refine HC.out.mono ?_
  rintro e1 w1 ⟨rfl, hb1⟩
  go_wp2_with fail
  go_ret
  exact ⟨rfl, hb1⟩

/-- The five questions' values. -/
def fiveV (gb lb : Nat) : List Value := [.func (.func 63) #[] #[.pointer (some ⟨gb, 0, none⟩)], .func (.func 65) #[] #[.pointer (some ⟨lb, 0, none⟩)], .func (.func 66) #[] #[.pointer (some ⟨lb, 0, none⟩)], .func (.func 68) #[] #[.pointer (some ⟨lb, 0, none⟩)], .func (.func 69) #[] #[.pointer (some ⟨lb, 0, none⟩)]]
theorem five_funs (l : Lg) (q : LgQ) (gb lb : Nat) (ga : Option Addr) (gn gc : Nat) (w : World) (hE : EnvX w) (hat : LgAt w l q) (hb : l.bulk ≤ 1073741824) (hg : w.cell? ⟨gb, 0, none⟩ = some (.slice ga gn gc)) (hgn : (givenL l.k l.ns).length = gn) (hgc : gn ≤ gc) (hga : NamesAt w ga (givenL l.k l.ns))
    (hcells : CellsAt w lb 0 (lgC l q)) : FunsAt w (fiveV gb lb) (fiveL l) := by
  refine ⟨rfl, fun j v e hv he => ?_⟩
  have hbe := lbulk_eq l
  have hat' := hat
  obtain ⟨nea, nen, nec, lea, len, lec, ia, im, ic, oa, om, oc, ra, rm, rc, na, nm, nc, la, lm, lc, rfl, ⟨him, hom, hrm, hnm, hlm⟩, ⟨hci, hco, hcr, hcn, hcl⟩, ⟨hbi, hbo, hbr, hbn, hbl⟩, hex, hpi, hpo, hpr, hpn, hpl⟩ := LgAt.opened hat
  have hgs : ∀ x ∈ givenL l.k l.ns, x.size ≤ 1073741824 := fun x hx => by
    refine str_mem_size (l := l.ns) (by omega) x ?_
    unfold givenL at hx
    split at hx
    · exact List.mem_of_mem_take hx
    · exact hx
  have hgn2 : gn ≤ 1073741824 := by
    rw [← hgn]
    have : (givenL l.k l.ns).length ≤ l.ns.length := by
      unfold givenL
      split
      · rw [List.length_take]; omega
      · exact Nat.le_refl _
    omega
  have k0 := fun W (hW : Bel w W) => hW.keep hcells.get0
  have kk : ∀ (j : Nat) (v : Value) W, Bel w W → (lgC l ⟨.slice nea nen nec, .slice lea len lec, .slice ia im ic, .slice oa om oc, .slice ra rm rc, .slice na nm nc, .slice la lm lc⟩)[j]? = some v → W.cell? ⟨lb, j, none⟩ = some v := fun j v W hW hj => by
    have := hW.keep (hcells.get j hj)
    rwa [Nat.zero_add] at this
  match j, hv, he with
  | 0, hv, he =>
    cases hv; cases he
    exact ⟨_, _, rfl, enters_of Tryz.func63 (by kernel_rfl) rfl, fun W hW => check1_c gb ga gn gc _ W (hW.keep hg) (named_c _ ga gn gc W (hE.bel hW) hgn hgc hgn2 hgs (hga.bel hW))⟩
  | 1, hv, he =>
    cases hv; cases he
    exact ⟨_, _, rfl, enters_of Tryz.func65 (by kernel_rfl) rfl, fun W hW => check2_c lb oa om oc _ W (kk 7 _ W hW rfl) (named_c _ oa om oc W (hE.bel hW) hom hco (by omega) (str_mem_size (by omega)) (hpo.bel hW))⟩
  | 2, hv, he =>
    cases hv; cases he
    exact ⟨_, _, rfl, enters_of Tryz.func66 (by kernel_rfl) rfl, fun W hW => check3_c lb l.k l.e nea nen nec lea len lec W (hE.bel hW) (kk 0 _ W hW rfl) (kk 1 _ W hW rfl) (kk 2 _ W hW rfl) (kk 3 _ W hW rfl) (kk 4 _ W hW rfl) (ExAt.bel hW _ hex) (by omega)⟩
  | 3, hv, he =>
    cases hv; cases he
    exact ⟨_, _, rfl, enters_of Tryz.func68 (by kernel_rfl) rfl, fun W hW => check4_c lb ia im ic _ W (kk 6 _ W hW rfl) (exprs_c _ ia im ic W (hE.bel hW) him (by omega) (ex_mem_bulk (by omega)) (hpi.bel hW))⟩
  | 4, hv, he =>
    cases hv; cases he
    exact ⟨_, _, rfl, enters_of Tryz.func69 (by kernel_rfl) rfl, fun W hW => check5_c lb l _ _ W (LgAt.bel hW l hat') (hcells.bel hW) (rules_c l _ W (hE.bel hW) (LgAt.bel hW l hat') hb)⟩
  | j + 5, hv, he => cases hv
theorem blk_cells {W : World} {b t : Nat} {cs : List Value} (h : Blk W b t cs) : CellsAt W b 0 cs := fun j v hj => by rw [Nat.zero_add, h.at, hj]
end Go.Proofs.YtchbhcjhoocjaaaGreatDoor
