/-
  Reference of logic: the walk of Count; the law's Great.
-/
import Derived.Test.YtchbhcjhoocjaaaGreatDoorRLA
import Derived.Test.YtchbhcjhoocjaaaGreatDoorLGP
namespace Go.Proofs.YtchbhcjhoocjaaaGreatDoor
open Go.RowKit

theorem NInv.mono {t : Int} {S S' q : Nat} (h : NInv t S q) (hs : S ≤ S') (hq : S = S' ∨ t < q) : NInv t S' q := by
  unfold NInv at *
  rcases hq with rfl | hq
  · exact h
  · exact ⟨by omega, .inr hq⟩
theorem NInv.add {t : Int} {S q a c : Nat} (h : NInv t S q) (hc : NInv (t - q) a c) : NInv t (S + a) (q + c) := by
  unfold NInv at *
  omega
theorem NInv.plus {t : Int} {S q : Nat} (h : NInv t S q) (a : Nat) : NInv t (S + a) (q + a) := by
  unfold NInv at *
  omega
theorem bulks_takeS (l : List Ex) (i : Nat) (x : Ex) (h : l[i]? = some x) : Ex.bulk.bulks (l.take (i + 1)) = Ex.bulk.bulks (l.take i) + x.bulk := by
  rw [List.take_add_one, h, bulks_app]
  simp [Ex.bulk.bulks]
theorem sumS_takeS (l : List ByteArray) (i : Nat) (x : ByteArray) (h : l[i]? = some x) : sumS (l.take (i + 1)) = sumS (l.take i) + (1 + x.size) := by
  rw [List.take_add_one, h, sumS_append]
  simp [sumS]
  omega
theorem rbulks_app : ∀ a b : List Ru, rbulks (a ++ b) = rbulks a + rbulks b
  | [], b => by simp [rbulks]
  | x :: a, b => by rw [List.cons_append]; unfold rbulks; rw [rbulks_app a b]; cases b <;> simp [rbulks] <;> omega
theorem rbulks_takeS (l : List Ru) (i : Nat) (x : Ru) (h : l[i]? = some x) : rbulks (l.take (i + 1)) = rbulks (l.take i) + x.bulk := by
  rw [List.take_add_one, h, rbulks_app]
  simp [rbulks]
theorem rbulks_le (l : List Ru) (i : Nat) : rbulks (l.take i) ≤ rbulks l := by
  conv => rhs; rw [← List.take_append_drop i l, rbulks_app]
  omega
theorem tbulks_app : ∀ a b : List Te, tbulks (a ++ b) = tbulks a + tbulks b
  | [], b => by simp [tbulks]
  | x :: a, b => by rw [List.cons_append]; unfold tbulks; rw [tbulks_app a b]; cases b <;> simp [tbulks] <;> omega
theorem tbulks_takeS (l : List Te) (i : Nat) (x : Te) (h : l[i]? = some x) : tbulks (l.take (i + 1)) = tbulks (l.take i) + x.bulk := by
  rw [List.take_add_one, h, tbulks_app]
  simp [tbulks]
theorem tbulks_le (l : List Te) (i : Nat) : tbulks (l.take i) ≤ tbulks l := by
  conv => rhs; rw [← List.take_append_drop i l, tbulks_app]
  omega
theorem lbulks_app : ∀ a b : List Lg, lbulks (a ++ b) = lbulks a + lbulks b
  | [], b => by simp [lbulks]
  | x :: a, b => by rw [List.cons_append]; unfold lbulks; rw [lbulks_app a b]; cases b <;> simp [lbulks] <;> omega
theorem lbulks_takeS (l : List Lg) (i : Nat) (x : Lg) (h : l[i]? = some x) : lbulks (l.take (i + 1)) = lbulks (l.take i) + x.bulk := by
  rw [List.take_add_one, h, lbulks_app]
  simp [lbulks]
theorem lbulks_le (l : List Lg) (i : Nat) : lbulks (l.take i) ≤ lbulks l := by
  conv => rhs; rw [← List.take_append_drop i l, lbulks_app]
  omega
theorem rcost_parts (l : List Ex) (a : Option Addr) (n c : Nat) (w : World) (t : Int) (hb : Ex.bulk.bulks l ≤ 1073741823) (ht : t ≤ 1099511627776) (ht2 : -1099511627776 ≤ t) (hn : l.length = n) (hc : n ≤ c) (hp : PartsAt w a l) :
    Calls Tryz.prog 78 #[.agg #[.int .i64 0, .string ⟨#[]⟩, .slice none 0 0, .slice a n c], .int .i64 t] w (RetNat (NInv t (Ex.bulk.bulks l + 1)) w) := by
  have h := rcost_c (.mk 0 ⟨#[]⟩ [] l) _ _ w t (by rw [bulk_parts0]; omega) ht ht2 (exAt_parts hp hn hc)
  rw [bulk_parts0] at h
  exact h
/-- A number in a cut. -/
def NCut (t : Int) (S : Nat) (V : World) (v : Value) (w : World) : Prop := ∃ q : Nat, v = .int .i64 q ∧ NInv t S q ∧ Bel V w
set_option maxRecDepth 100000 in
set_option maxHeartbeats 16000000 in
theorem rcountL_c : ∀ (n : Nat) (l : Lg), l.bulk ≤ n → n ≤ 1073741824 → ∀ (q : LgQ) (w : World) (t : Int), 0 ≤ t → t ≤ 1099511627776 → LgAt w l q →
    Calls Tryz.prog 31 #[lgV l q, .int .i64 t] w (RetNat (NInv t l.bulk) w) := by
  intro n
  induction n with
  | zero => intro l hl; exfalso; have := lbulk_pos l; omega
  | succ n ih =>
    intro l hl hn q w t ht0 ht1 hat
    obtain ⟨nea, nen, nec, lea, len, lec, ia, im, ic, oa, om, oc, ra, rm, rc, na, nm, nc, la, lm, lc, rfl, ⟨him, hom, hrm, hnm, hlm⟩, ⟨hci, hco, hcr, hcn, hcl⟩, ⟨hbi, hbo, hbr, hbn, hbl⟩, hex, hpi, hpo, hpr, hpn, hpl⟩ := LgAt.opened hat
    unfold lgV
    dsimp only
    have hbe := lbulk_eq l
    have HIH : Hid (∀ (x : Lg), x.bulk < l.bulk → ∀ xq W T, 0 ≤ T → T ≤ 1099511627776 → LgAt W x xq → Calls Tryz.prog 31 #[lgV x xq, .int .i64 T] W (RetNat (NInv T x.bulk) W)) := Lib.hid fun x hx xq W T h1 h2 h3 => ih x (by omega) (by omega) xq W T h1 h2 h3
    have HCE := Lib.hid (fun W (hW : Bel w W) => rcost_c l.e _ _ W t (by omega) ht1 (by omega) (ExAt.bel hW _ hex))
    have HCOST := Lib.hid (fun (x : Ex) vn vl W T (hb : x.bulk ≤ 1073741824) (h1 : T ≤ 1099511627776) (h2 : -1099511627776 ≤ T) (hx : ExAt W x vn vl) => rcost_c x vn vl W T hb h1 h2 hx)
    have HPI := Lib.hid hpi
    have HPO := Lib.hid hpo
    have HPR := Lib.hid hpr
    have HPN := Lib.hid hpn
    have HPL := Lib.hid hpl
    have HIM := Lib.hid him
    have HOM := Lib.hid hom
    have HRM := Lib.hid hrm
    have HNM := Lib.hid hnm
    have HLM := Lib.hid hlm
    obtain ⟨A0, hA0⟩ : ∃ A, l.e.bulk = A := ⟨_, rfl⟩
    obtain ⟨A1, hA1⟩ : ∃ A, Ex.bulk.bulks l.ins = A := ⟨_, rfl⟩
    obtain ⟨A2, hA2⟩ : ∃ A, sumS l.outs = A := ⟨_, rfl⟩
    obtain ⟨A3, hA3⟩ : ∃ A, sumS l.ns = A := ⟨_, rfl⟩
    obtain ⟨A4, hA4⟩ : ∃ A, rbulks l.rs = A := ⟨_, rfl⟩
    obtain ⟨A5, hA5⟩ : ∃ A, lbulks l.l = A := ⟨_, rfl⟩
    obtain ⟨p, hp⟩ : ∃ p, l.p = p := ⟨_, rfl⟩
    obtain ⟨T, hT⟩ : ∃ T, l.bulk = T := ⟨_, rfl⟩
    rw [hA0, hA1, hA2, hA3, hA4, hA5, hp, hT] at hbe
    rw [hA0] at HCE
    rw [hT] at HIH hl ⊢
    rw [hp]
    have hT2 : T ≤ 1073741824 := by omega
    have hps : p.size ≤ 1073741824 := by omega
    have hi2 : im ≤ 1073741824 := by omega
    have ho2 : om ≤ 1073741824 := by omega
    have hr2 : rm ≤ 1073741824 := by omega
    have hm2 : nm ≤ 1073741824 := by omega
    have hl2 : lm ≤ 1073741824 := by omega
    have HBE := Lib.hid hbe
    have HA1 := Lib.hid hA1
    have HA2 := Lib.hid hA2
    have HA3 := Lib.hid hA3
    have HA4 := Lib.hid hA4
    have HA5 := Lib.hid hA5
    have HT := Lib.hid hT
    obtain ⟨V1, h1, k1, l1, s1⟩ := alloc_step w 30 [.int .i64 l.k, .int .i64 l.e.k, .string l.e.s, .slice nea nen nec, .slice lea len lec, .string p, .slice ia im ic, .slice oa om oc, .slice ra rm rc, .slice na nm nc, .slice la lm lc]
    have c1 := k1.at 1
    have c2 := k1.at 2
    have c3 := k1.at 3
    have c4 := k1.at 4
    have c5 := k1.at 5
    have c6 := Lib.hid (k1.at 6)
    have c7 := Lib.hid (k1.at 7)
    have c8 := Lib.hid (k1.at 8)
    have c9 := Lib.hid (k1.at 9)
    have c10 := Lib.hid (k1.at 10)
    have HV1 := Lib.hid h1
    have L1 := Lib.hid l1
    clear ih him hom hrm hnm hlm hex hpi hpo hpr hpn hpl hat hbe hA0 hA1 hA2 hA3 hA4 hA5 hp hT h1 k1 l1 s1
    go_enter Tryz.func31, Tryz.ntmps31
    go_upto_region 1 with fail
    rw [show w.alloc (.cells #[.int .i64 l.k, .int .i64 l.e.k, .string l.e.s, .slice nea nen nec, .slice lea len lec, .string p, .slice ia im ic, .slice oa om oc, .slice ra rm rc, .slice na nm nc, .slice la lm lc] 30) = V1 from HV1.out]
    clear HV1
    have hs0 : IntKind.i64.wrap (1 + (p.size : Int)) = 1 + (p.size : Int) := IntWalk.i64_in _ (by omega)
    refine wp_region_held_drew (S := fun w' => Bel V1 w') (by kernel_rfl) (by (repeat (first | exact Bel.refl _ | assumption | refine Bel.to_drewN ?_ _ | refine Bel.to_drew ?_ | refine Bel.to_setCell ?_ (by first | exact Nat.le_refl _ | (simp; done) | (simp; omega) | omega) _ | refine Bel.to_alloc ?_ _ | refine Bel.trans ?_ (by assumption)))) (fun hHeld => ?_)
    refine tk 0 (v := ?_) ?_ ?_
    rotate_left 1
    · first
        | (refine Or.inl ⟨by rfl, ?_⟩; intro w9 hSw; have e9_0 := Bel.keep hSw c1; have e9_1 := Bel.keep hSw c2; have e9_2 := Bel.keep hSw c3; have e9_3 := Bel.keep hSw c4; have e9_4 := Bel.keep hSw c5; go_simp; (try with_reducible rfl); done)
        | (refine Or.inr ⟨by rfl, ?_⟩; rfl)
    simp only [List.getElem_toArray, List.getElem_cons_zero, Act.put, List.setIfInBounds_toArray, List.set_cons_zero, List.set_cons_succ]
    refine tk 1 (v := ?_) ?_ ?_
    rotate_left 1
    · first
        | (refine Or.inl ⟨by rfl, ?_⟩; intro w9 hSw; have e9_0 := Bel.keep hSw c1; have e9_1 := Bel.keep hSw c2; have e9_2 := Bel.keep hSw c3; have e9_3 := Bel.keep hSw c4; have e9_4 := Bel.keep hSw c5; go_simp; (try with_reducible rfl); done)
        | (refine Or.inr ⟨by rfl, ?_⟩; rfl)
    simp only [List.getElem_toArray, List.getElem_cons_succ, List.getElem_cons_zero, Act.put, List.setIfInBounds_toArray, List.set_cons_zero, List.set_cons_succ]
    refine tk 2 (v := ?_) ?_ ?_
    rotate_left 1
    · first
        | (refine Or.inl ⟨by rfl, ?_⟩; intro w9 hSw; have e9_0 := Bel.keep hSw c1; have e9_1 := Bel.keep hSw c2; have e9_2 := Bel.keep hSw c3; have e9_3 := Bel.keep hSw c4; have e9_4 := Bel.keep hSw c5; go_simp; (try with_reducible rfl); done)
        | (refine Or.inr ⟨by rfl, ?_⟩; rfl)
    simp only [List.getElem_toArray, List.getElem_cons_succ, List.getElem_cons_zero, Act.put, List.setIfInBounds_toArray, List.set_cons_zero, List.set_cons_succ]
    refine tk 3 (v := ?_) ?_ ?_
    rotate_left 1
    · first
        | (refine Or.inl ⟨by rfl, ?_⟩; intro w9 hSw; have e9_0 := Bel.keep hSw c1; have e9_1 := Bel.keep hSw c2; have e9_2 := Bel.keep hSw c3; have e9_3 := Bel.keep hSw c4; have e9_4 := Bel.keep hSw c5; go_simp; (try with_reducible rfl); done)
        | (refine Or.inr ⟨by rfl, ?_⟩; rfl)
    simp only [List.getElem_toArray, List.getElem_cons_succ, List.getElem_cons_zero, Act.put, List.setIfInBounds_toArray, List.set_cons_zero, List.set_cons_succ]
    refine tk 4 (v := ?_) ?_ ?_
    rotate_left 1
    · first
        | (refine Or.inl ⟨by rfl, ?_⟩; intro w9 hSw; have e9_0 := Bel.keep hSw c1; have e9_1 := Bel.keep hSw c2; have e9_2 := Bel.keep hSw c3; have e9_3 := Bel.keep hSw c4; have e9_4 := Bel.keep hSw c5; go_simp; (try with_reducible rfl); done)
        | (refine Or.inr ⟨by rfl, ?_⟩; rfl)
    simp only [List.getElem_toArray, List.getElem_cons_succ, List.getElem_cons_zero, Act.put, List.setIfInBounds_toArray, List.set_cons_zero, List.set_cons_succ]
    refine tk 5 (v := ?_) ?_ ?_
    rotate_left 1
    · first
        | (refine Or.inl ⟨by rfl, ?_⟩; intro w9 hSw; have e9_0 := Bel.keep hSw c1; have e9_1 := Bel.keep hSw c2; have e9_2 := Bel.keep hSw c3; have e9_3 := Bel.keep hSw c4; have e9_4 := Bel.keep hSw c5; go_simp; (try with_reducible rfl); done)
        | (refine Or.inr ⟨by rfl, ?_⟩; rfl)
    simp only [List.getElem_toArray, List.getElem_cons_succ, List.getElem_cons_zero, Act.put, List.setIfInBounds_toArray, List.set_cons_zero, List.set_cons_succ]
    refine tk 6 (v := ?_) ?_ ?_
    rotate_left 1
    · first
        | (refine Or.inl ⟨by rfl, ?_⟩; intro w9 hSw; have e9_0 := Bel.keep hSw c1; have e9_1 := Bel.keep hSw c2; have e9_2 := Bel.keep hSw c3; have e9_3 := Bel.keep hSw c4; have e9_4 := Bel.keep hSw c5; go_simp; (try with_reducible rfl); done)
        | (refine Or.inr ⟨by rfl, ?_⟩; rfl)
    simp only [List.getElem_toArray, List.getElem_cons_succ, List.getElem_cons_zero, Act.put, List.setIfInBounds_toArray, List.set_cons_zero, List.set_cons_succ]
    refine wpAnyH_ready (rs := [7]) (by kernel_rfl) (by simp) ?_
    refine AllReadyH.cons (o := _) rfl (fun K hK => ?_) AllReadyH.nil
    go_simp
    refine (HCE.out _ (L1.out.trans (by (repeat (first | exact Bel.refl _ | assumption | refine Bel.to_drewN ?_ _ | refine Bel.to_drew ?_ | refine Bel.to_setCell ?_ (by first | exact Nat.le_refl _ | (simp; done) | (simp; omega) | omega) _ | refine Bel.to_alloc ?_ _ | refine Bel.trans ?_ (by assumption)))))).mono ?_
    rintro e1 w1 ⟨x1, rfl, hx1, hb1⟩
    dsimp only
    refine hK.out _ _ (by (repeat (first | exact Bel.refl _ | assumption | refine Bel.to_drewN ?_ _ | refine Bel.to_drew ?_ | refine Bel.to_setCell ?_ (by first | exact Nat.le_refl _ | (simp; done) | (simp; omega) | omega) _ | refine Bel.to_alloc ?_ _ | refine Bel.trans ?_ (by assumption)))) (fun hHeld => ?_)
    clear hK K
    have h1 := hx1.1
    have hs : IntKind.i64.wrap (1 + (p.size : Int) + x1) = 1 + (p.size : Int) + x1 := IntWalk.i64_in _ (by have := HBE.out; omega)
    refine tk 8 (v := ?_) ?_ ?_
    rotate_left 1
    · first
        | (refine Or.inl ⟨by rfl, ?_⟩; intro w9 hSw; go_simp; (try with_reducible rfl); done)
        | (refine Or.inr ⟨by rfl, ?_⟩; rfl)
    simp only [List.getElem_toArray, List.getElem_cons_succ, List.getElem_cons_zero, Act.put, List.setIfInBounds_toArray, List.set_cons_zero, List.set_cons_succ]
    refine tk 9 (v := ?_) ?_ ?_
    rotate_left 1
    · first
        | (refine Or.inl ⟨by rfl, ?_⟩; intro w9 hSw; go_simp; (try with_reducible rfl); done)
        | (refine Or.inr ⟨by rfl, ?_⟩; rfl)
    simp only [List.getElem_toArray, List.getElem_cons_succ, List.getElem_cons_zero, Act.put, List.setIfInBounds_toArray, List.set_cons_zero, List.set_cons_succ]
    refine wpAnyH_done (by kernel_rfl) ?_ _
    have hb11 : Bel V1 w1 := by (repeat (first | exact Bel.refl _ | assumption | refine Bel.to_drewN ?_ _ | refine Bel.to_drew ?_ | refine Bel.to_setCell ?_ (by first | exact Nat.le_refl _ | (simp; done) | (simp; omega) | omega) _ | refine Bel.to_alloc ?_ _ | refine Bel.trans ?_ (by assumption)))
    have HI0 : Hid (NInv t (1 + p.size + A0) (1 + p.size + x1)) := Lib.hid (by unfold NInv at *; omega)
    obtain ⟨q0, hq0⟩ : ∃ q, 1 + p.size + x1 = q := ⟨_, rfl⟩
    have hqi : 1 + (p.size : Int) + x1 = (q0 : Int) := by omega
    rw [hq0] at HI0
    rw [hqi]
    have HB1 := Lib.hid hb11
    clear hs hs0 hqi hq0 hx1 h1 hb1 hb11 hHeld c1 c2 c3 c4 c5
    have hq0 : q0 ≤ 2147483648 := by have := HI0.out.1; have := HBE.out; omega
    have HBQ0 := HB1
    clear HB1
    go_upto_block 0 with fail
    go_cut [5] (fun v wx => NCut t (1 + p.size + A0 + A1) V1 v wx)
    case first =>
      go_wp2_with fail
      go_loopw [5, 6] (fun d i wr => ∃ j q : Nat, j ≤ im ∧ i = .int .i64 j ∧ d = .int .i64 q ∧ NInv t (1 + p.size + A0 + Ex.bulk.bulks (l.ins.take j)) q ∧ Bel V1 wr) (fun _ i _ => im - (intOf i).toNat)
      case atStart => exact ⟨0, q0, Nat.zero_le _, rfl, rfl, by simpa [Ex.bulk.bulks] using HI0.out, HBQ0.out⟩
      case round =>
        obtain ⟨j, q, hj, rfl, rfl, hq, hbel⟩ := hrel
        have d6 := hbel.keep c6.out
        have hqb : q ≤ 2147483648 := by have := hq.1; have := bulks_take l.ins j; have := HA1.out; have := HBE.out; omega
        have HQ := Lib.hid hq
        clear hq
        by_cases hlt : j < im
        · have hlti : (j : Int) < im := by omega
          by_cases hqt : (q : Int) ≤ t
          · obtain ⟨x, hx⟩ : ∃ x, l.ins[j]? = some x := ⟨_, List.getElem?_eq_getElem (by have := HIM.out; omega)⟩
            obtain ⟨b, off, xna, xnn, xnc, xla, xln, xlc, rfl, g0, g1, g2, g3, hxa⟩ := HPI.out j x hx
            have hbw := L1.out.trans hbel
            have f0 := hbw.keep g0
            have f1 := hbw.keep g1
            have f2 := hbw.keep g2
            have f3 := hbw.keep g3
            have hxb : x.bulk ≤ 1073741824 := by have := bulks_mem (List.mem_of_getElem? hx); have := HA1.out; have := HBE.out; omega
            have HC := Lib.hid (HCOST.out x _ _ wr (t - q) hxb (by omega) (by omega) (ExAt.bel hbw x hxa))
            have HT2 := Lib.hid (bulks_takeS l.ins j x hx)
            have HXB := Lib.hid hxb
            have HBL := Lib.hid hbel
            clear g0 g1 g2 g3 hxa hx hbel hbw hxb
            go_wp2_with fail
            refine HC.out.mono ?_
            rintro e2 w2 ⟨c, rfl, hc, hb2⟩
            have hcb : c ≤ 1073741824 := by have := hc.1; have := HXB.out; omega
            have HCC := Lib.hid hc
            have HB2 := Lib.hid (HBL.out.trans hb2)
            clear hc hb2 HC
            go_wp2_with fail
            exact ⟨⟨j + 1, q + c, by omega, by go_num, by go_num, by rw [HT2.out, ← Nat.add_assoc]; exact HQ.out.add HCC.out, HB2.out⟩, by simp [intOf]; omega⟩
          · have hqt2 : t < (q : Int) := by omega
            have HBL := Lib.hid hbel
            clear hbel
            go_wp2_with fail
            go_meet
            exact ⟨q, rfl, HQ.out.mono (by have := bulks_take l.ins j; have := HA1.out; omega) (.inr hqt2), HBL.out⟩
        · obtain rfl : j = im := by omega
          have HBL := Lib.hid hbel
          clear hbel hlt
          go_wp2_with fail
          go_meet
          exact ⟨q, rfl, by have := HQ.out; rwa [List.take_of_length_le (by rw [HIM.out]; exact Nat.le_refl _), HA1.out] at this, HBL.out⟩
    case rest =>
    obtain ⟨q1, rfl, hi, hb⟩ := hcut
    generalize wc = w1 at hb ⊢
    have HI1 := Lib.hid hi
    have HBQ1 := Lib.hid hb
    have hq1 : q1 ≤ 2147483648 := by have := hi.1; have := HBE.out; omega
    clear hi hb HI0 HBQ0 hq0
    go_upto_block 2 with fail
    go_cut [5] (fun v wx => NCut t (1 + p.size + A0 + A1 + A2) V1 v wx)
    case first =>
      go_wp2_with fail
      go_loopw [5, 7] (fun d i wr => ∃ j q : Nat, j ≤ om ∧ i = .int .i64 j ∧ d = .int .i64 q ∧ NInv t (1 + p.size + A0 + A1 + sumS (l.outs.take j)) q ∧ Bel V1 wr) (fun _ i _ => om - (intOf i).toNat)
      case atStart => exact ⟨0, q1, Nat.zero_le _, rfl, rfl, by simpa [sumS] using HI1.out, HBQ1.out⟩
      case round =>
        obtain ⟨j, q, hj, rfl, rfl, hq, hbel⟩ := hrel
        have d7 := hbel.keep c7.out
        have hqb : q ≤ 2147483648 := by have := hq.1; have := sumS_take l.outs j; have := HA2.out; have := HBE.out; omega
        have HQ := Lib.hid hq
        clear hq
        by_cases hlt : j < om
        · have hlti : (j : Int) < om := by omega
          obtain ⟨x, hx⟩ : ∃ x, l.outs[j]? = some x := ⟨_, List.getElem?_eq_getElem (by have := HOM.out; omega)⟩
          obtain ⟨b, off, rfl, g0⟩ := HPO.out j x hx
          have f0 := (L1.out.trans hbel).keep g0
          have hxs : x.size ≤ 1073741824 := by have := mem_sumS _ x (List.mem_of_getElem? hx); have := HA2.out; have := HBE.out; omega
          have HT2 := Lib.hid (sumS_takeS l.outs j x hx)
          have HBL := Lib.hid hbel
          clear g0 hx hbel
          go_wp2_with fail
          exact ⟨⟨j + 1, q + (1 + x.size), by omega, by go_num, by go_num, by rw [HT2.out, ← Nat.add_assoc]; exact HQ.out.plus _, HBL.out⟩, by simp [intOf]; omega⟩
        · obtain rfl : j = om := by omega
          have HBL := Lib.hid hbel
          clear hbel hlt
          go_wp2_with fail
          go_meet
          exact ⟨q, rfl, by have := HQ.out; rwa [List.take_of_length_le (by rw [HOM.out]; exact Nat.le_refl _), HA2.out] at this, HBL.out⟩
    case rest =>
    obtain ⟨q2, rfl, hi, hb⟩ := hcut
    generalize wc = w2 at hb ⊢
    have HI2 := Lib.hid hi
    have HBQ2 := Lib.hid hb
    have hq2 : q2 ≤ 2147483648 := by have := hi.1; have := HBE.out; omega
    clear hi hb HI1 HBQ1 hq1
    go_upto_block 4 with fail
    go_cut [5] (fun v wx => NCut t (1 + p.size + A0 + A1 + A2 + A3) V1 v wx)
    case first =>
      go_wp2_with fail
      go_loopw [5, 8] (fun d i wr => ∃ j q : Nat, j ≤ nm ∧ i = .int .i64 j ∧ d = .int .i64 q ∧ NInv t (1 + p.size + A0 + A1 + A2 + sumS (l.ns.take j)) q ∧ Bel V1 wr) (fun _ i _ => nm - (intOf i).toNat)
      case atStart => exact ⟨0, q2, Nat.zero_le _, rfl, rfl, by simpa [sumS] using HI2.out, HBQ2.out⟩
      case round =>
        obtain ⟨j, q, hj, rfl, rfl, hq, hbel⟩ := hrel
        have d9 := hbel.keep c9.out
        have hqb : q ≤ 2147483648 := by have := hq.1; have := sumS_take l.ns j; have := HA3.out; have := HBE.out; omega
        have HQ := Lib.hid hq
        clear hq
        by_cases hlt : j < nm
        · have hlti : (j : Int) < nm := by omega
          obtain ⟨x, hx⟩ : ∃ x, l.ns[j]? = some x := ⟨_, List.getElem?_eq_getElem (by have := HNM.out; omega)⟩
          obtain ⟨b, off, rfl, g0⟩ := HPN.out j x hx
          have f0 := (L1.out.trans hbel).keep g0
          have hxs : x.size ≤ 1073741824 := by have := mem_sumS _ x (List.mem_of_getElem? hx); have := HA3.out; have := HBE.out; omega
          have HT2 := Lib.hid (sumS_takeS l.ns j x hx)
          have HBL := Lib.hid hbel
          clear g0 hx hbel
          go_wp2_with fail
          exact ⟨⟨j + 1, q + (1 + x.size), by omega, by go_num, by go_num, by rw [HT2.out, ← Nat.add_assoc]; exact HQ.out.plus _, HBL.out⟩, by simp [intOf]; omega⟩
        · obtain rfl : j = nm := by omega
          have HBL := Lib.hid hbel
          clear hbel hlt
          go_wp2_with fail
          go_meet
          exact ⟨q, rfl, by have := HQ.out; rwa [List.take_of_length_le (by rw [HNM.out]; exact Nat.le_refl _), HA3.out] at this, HBL.out⟩
    case rest =>
    obtain ⟨q3, rfl, hi, hb⟩ := hcut
    generalize wc = w3 at hb ⊢
    have HI3 := Lib.hid hi
    have HBQ3 := Lib.hid hb
    have hq3 : q3 ≤ 2147483648 := by have := hi.1; have := HBE.out; omega
    clear hi hb HI2 HBQ2 hq2
    go_upto_block 6 with fail
    go_cut [5] (fun v wx => NCut t (1 + p.size + A0 + A1 + A2 + A3 + A4) V1 v wx)
    case first =>
      go_wp2_with fail
      go_loopw [5, 9] (fun d i wr => ∃ j q : Nat, j ≤ rm ∧ i = .int .i64 j ∧ d = .int .i64 q ∧ NInv t (1 + p.size + A0 + A1 + A2 + A3 + rbulks (l.rs.take j)) q ∧ Bel V1 wr) (fun _ i _ => rm - (intOf i).toNat)
      case atStart => exact ⟨0, q3, Nat.zero_le _, rfl, rfl, by simpa [rbulks] using HI3.out, HBQ3.out⟩
      case round =>
        obtain ⟨j, q, hj, rfl, rfl, hq, hbel⟩ := hrel
        have d8 := hbel.keep c8.out
        have hqb : q ≤ 2147483648 := by have := hq.1; have := rbulks_le l.rs j; have := HA4.out; have := HBE.out; omega
        have HQ := Lib.hid hq
        clear hq
        by_cases hlt : j < rm
        · have hlti : (j : Int) < rm := by omega
          by_cases hqt : (q : Int) ≤ t
          · obtain ⟨x, hx⟩ : ∃ x, l.rs[j]? = some x := ⟨_, List.getElem?_eq_getElem (by have := HRM.out; omega)⟩
            obtain ⟨b, off, rfl, vi, vo, hxc, ⟨ta, tc, rfl, htc, hti⟩, ya, yc, rfl, hyc, hyo⟩ := HPR.out j x hx
            have hbw := L1.out.trans hbel
            have g0 := hbw.keep hxc.get0
            have g1 := hbw.keep (hxc.get 1 rfl)
            obtain ⟨tn, htn⟩ : ∃ n, x.ins.length = n := ⟨_, rfl⟩
            obtain ⟨un, hun⟩ : ∃ n, x.out.length = n := ⟨_, rfl⟩
            have hxb : tbulks x.ins + Ex.bulk.bulks x.out + 2 ≤ 1073741823 := by have := rbulks_mem (List.mem_of_getElem? hx); have := HA4.out; have := HBE.out; unfold Ru.bulk at *; omega
            have htn2 : tn ≤ 1073741824 := by have := tbulks_len x.ins; omega
            rw [htn] at g0 htc
            rw [hun] at g1 hyc
            have HTI := Lib.hid hti
            have HYO := Lib.hid hyo
            have HTN := Lib.hid htn
            have HUN := Lib.hid hun
            have HXB := Lib.hid hxb
            have HT4 : Hid (rbulks (l.rs.take (j + 1)) = rbulks (l.rs.take j) + (tbulks x.ins + Ex.bulk.bulks x.out + 2)) := Lib.hid (rbulks_takeS l.rs j x hx)
            have hle : rbulks (l.rs.take j) + (tbulks x.ins + Ex.bulk.bulks x.out + 2) ≤ A4 := by rw [← HT4.out, ← HA4.out]; exact rbulks_le _ _
            have HLE := Lib.hid hle
            obtain ⟨Bj, hBj⟩ : ∃ B, rbulks (l.rs.take j) = B := ⟨_, rfl⟩
            rw [hBj] at HQ HT4 HLE
            have HBL := Lib.hid hbel
            obtain ⟨wo, hwo⟩ : ∃ W, W = wr := ⟨_, rfl⟩
            subst hwo
            have HG0 := Lib.hid g0
            have HG1 := Lib.hid g1
            have hqi := HQ.out.1
            clear hxc hti hyo hx hbel hbw hxb htn hun hle hBj
            go_wp2_with fail
            go_loopw [5, 10] (fun d i wr => ∃ p2 q2 tq : Nat, p2 ≤ tn ∧ i = .int .i64 p2 ∧ d = .int .i64 q2 ∧ tq + p2 = tbulks (x.ins.take p2) ∧ NInv t (1 + p.size + A0 + A1 + A2 + A3 + Bj + (1 + tn + tq)) q2 ∧ Bel wo wr) (fun _ i _ => tn - (intOf i).toNat)
            case atStart => exact ⟨0, q + (1 + tn), 0, Nat.zero_le _, rfl, by go_num, rfl, HQ.out.plus _, Bel.refl _⟩
            case round =>
              obtain ⟨p2, q2, tq, hp2, rfl, rfl, htq, hi2', hbel⟩ := hrel
              have e8 := hbel.keep d8
              have e0 := hbel.keep HG0.out
              have e1 := hbel.keep HG1.out
              have htb := tbulks_le x.ins p2
              have hqb2 : q2 ≤ 2147483648 := by have := hi2'.1; have := HLE.out; have := HBE.out; have := tbulks_len x.ins; have := HTN.out; omega
              have HI5 := Lib.hid hi2'
              have HTQ := Lib.hid htq
              have HTB := Lib.hid htb
              clear hi2' htq htb
              by_cases hgo : p2 < tn ∧ (q2 : Int) ≤ t
              · obtain ⟨hltp, hqt2⟩ := hgo
                have hltpi : (p2 : Int) < tn := by omega
                obtain ⟨y, hy⟩ : ∃ y, x.ins[p2]? = some y := ⟨_, List.getElem?_eq_getElem (by have := HTN.out; omega)⟩
                obtain ⟨b2, off2, rfl, v, hyc2, za, zc, rfl, hzc, hzo⟩ := HTI.out p2 y hy
                have hbw := L1.out.trans (HBL.out.trans hbel)
                have f2 := hbw.keep (hyc2.get 2 rfl)
                obtain ⟨zn, hzn⟩ : ∃ n, y.l.length = n := ⟨_, rfl⟩
                rw [hzn] at f2 hzc
                have hyb : y.bulk ≤ 1073741823 := by have := tbulks_mem (List.mem_of_getElem? hy); have := HXB.out; omega
                unfold Te.bulk at hyb
                have HC := Lib.hid (rcost_parts y.l za zn zc wr (t - q2) (by omega) (by omega) (by omega) hzn hzc (hzo.bel hbw))
                have HT5 : Hid (tbulks (x.ins.take (p2 + 1)) = tbulks (x.ins.take p2) + (Ex.bulk.bulks y.l + 2)) := Lib.hid (tbulks_takeS x.ins p2 y hy)
                have HYB := Lib.hid hyb
                have HBP := Lib.hid hbel
                clear hyc2 hzo hy hbel hbw hyb hzn e1
                go_wp2_with fail
                refine HC.out.mono ?_
                rintro e2 w2 ⟨c, rfl, hc, hb2⟩
                have hcb : c ≤ 1073741824 := by have := hc.1; have := HYB.out; omega
                have HCC := Lib.hid hc
                have HB2 := Lib.hid (HBP.out.trans hb2)
                clear hc hb2 HC
                go_wp2_with fail
                exact ⟨⟨p2 + 1, q2 + c, tq + (Ex.bulk.bulks y.l + 1), by omega, by go_num, by go_num, by rw [HT5.out]; have := HTQ.out; omega, by have := HI5.out.add HCC.out; unfold NInv at *; omega, HB2.out⟩, by simp [intOf]; omega⟩
              · have hex5 : NInv t (1 + p.size + A0 + A1 + A2 + A3 + Bj + (1 + tbulks x.ins)) q2 := by
                  by_cases hltp : p2 < tn
                  · have hq3' : t < (q2 : Int) := by omega
                    exact HI5.out.mono (by have := HTQ.out; have := HTB.out; have h5 := tbulks_len (x.ins.drop p2); have h6 : tbulks x.ins = tbulks (x.ins.take p2) + tbulks (x.ins.drop p2) := by rw [← tbulks_app, List.take_append_drop]
                                           rw [List.length_drop, HTN.out] at h5; omega) (.inr hq3')
                  · obtain rfl : p2 = tn := by omega
                    have h5 := HTQ.out
                    rw [List.take_of_length_le (by rw [HTN.out]; exact Nat.le_refl _)] at h5
                    have := HI5.out
                    rwa [show 1 + p2 + tq = 1 + tbulks x.ins from by omega] at this
                have hbw := L1.out.trans (HBL.out.trans hbel)
                have HC := Lib.hid (rcost_parts x.out ya un yc wr (t - q2) (by have := HXB.out; omega) (by omega) (by omega) HUN.out hyc (HYO.out.bel hbw))
                have HE5 := Lib.hid hex5
                have HBP := Lib.hid hbel
                have hgd : ¬ p2 < tn ∨ p2 < tn ∧ t < (q2 : Int) := by omega
                clear hex5 hbw hbel hgo
                rcases hgd with hge | ⟨hltp, hqt2⟩
                · obtain rfl : p2 = tn := by omega
                  clear hge
                  go_wp2_with fail
                  refine HC.out.mono ?_
                  rintro e2 w2 ⟨c, rfl, hc, hb2⟩
                  have hcb : c ≤ 1073741824 := by have := hc.1; have := HXB.out; omega
                  have HCC := Lib.hid hc
                  have HB2 := Lib.hid (HBL.out.trans (HBP.out.trans hb2))
                  clear hc hb2 HC
                  go_wp2_with fail
                  exact ⟨⟨j + 1, q2 + c, by omega, by go_num, by go_num, by rw [HT4.out]; have := HE5.out.add HCC.out; unfold NInv at *; omega, HB2.out⟩, by simp [intOf]; omega⟩
                · have hltpi : (p2 : Int) < tn := by omega
                  go_wp2_with fail
                  refine HC.out.mono ?_
                  rintro e2 w2 ⟨c, rfl, hc, hb2⟩
                  have hcb : c ≤ 1073741824 := by have := hc.1; have := HXB.out; omega
                  have HCC := Lib.hid hc
                  have HB2 := Lib.hid (HBL.out.trans (HBP.out.trans hb2))
                  clear hc hb2 HC
                  go_wp2_with fail
                  exact ⟨⟨j + 1, q2 + c, by omega, by go_num, by go_num, by rw [HT4.out]; have := HE5.out.add HCC.out; unfold NInv at *; omega, HB2.out⟩, by simp [intOf]; omega⟩
          · have hqt2 : t < (q : Int) := by omega
            have HBL := Lib.hid hbel
            clear hbel
            go_wp2_with fail
            go_meet
            exact ⟨q, rfl, HQ.out.mono (by have := rbulks_le l.rs j; have := HA4.out; omega) (.inr hqt2), HBL.out⟩
        · obtain rfl : j = rm := by omega
          have HBL := Lib.hid hbel
          clear hbel hlt
          go_wp2_with fail
          go_meet
          exact ⟨q, rfl, by have := HQ.out; rwa [List.take_of_length_le (by rw [HRM.out]; exact Nat.le_refl _), HA4.out] at this, HBL.out⟩
    case rest =>
    obtain ⟨q4, rfl, hi, hb⟩ := hcut
    generalize wc = w4 at hb ⊢
    have HI4 := Lib.hid hi
    have HBQ4 := Lib.hid hb
    have hq4 : q4 ≤ 2147483648 := by have := hi.1; have := HBE.out; omega
    clear hi hb HI3 HBQ3 hq3
    go_wp2_with fail
    go_loopw [5, 11] (fun d i wr => ∃ j q : Nat, j ≤ lm ∧ i = .int .i64 j ∧ d = .int .i64 q ∧ NInv t (1 + p.size + A0 + A1 + A2 + A3 + A4 + lbulks (l.l.take j)) q ∧ Bel V1 wr) (fun _ i _ => lm - (intOf i).toNat)
    case atStart => exact ⟨0, q4, Nat.zero_le _, rfl, rfl, by simpa [lbulks] using HI4.out, HBQ4.out⟩
    case round =>
      obtain ⟨j, q, hj, rfl, rfl, hq, hbel⟩ := hrel
      have d10 := hbel.keep c10.out
      have hqb : q ≤ 2147483648 := by have := hq.1; have := lbulks_le l.l j; have := HA5.out; have := HBE.out; omega
      have HQ := Lib.hid hq
      clear hq
      by_cases hlt : j < lm
      · have hlti : (j : Int) < lm := by omega
        by_cases hqt : (q : Int) ≤ t
        · obtain ⟨x, hx⟩ : ∃ x, l.l[j]? = some x := ⟨_, List.getElem?_eq_getElem (by have := HLM.out; omega)⟩
          obtain ⟨b, off, xq, rfl, hxc, hxa⟩ := HPL.out j x hx
          have hbw := L1.out.trans hbel
          have g1 := hxc.bel hbw
          have hxb : x.bulk ≤ 1073741824 := by have := lbulks_mem (List.mem_of_getElem? hx); have := HA5.out; have := HBE.out; omega
          have HC := Lib.hid (HIH.out x (by have := lbulk_part hx; have := HT.out; omega) xq wr (t - q) (by omega) (by omega) (LgAt.bel hbw x hxa))
          obtain ⟨xnea, xnen, xnec, xlea, xlen, xlec, xia, xim, xic, xoa, xom, xoc, xra, xrm, xrc, xna, xnm, xnc, xla, xlm, xlc, rfl, ⟨xhim, xhom, xhrm, xhnm, xhlm⟩, ⟨xhci, xhco, xhcr, xhcn, xhcl⟩, ⟨xhbi, xhbo, xhbr, xhbn, xhbl⟩, xhex, xhpi, xhpo, xhpr, xhpn, xhpl⟩ := LgAt.opened hxa
          unfold lgV at HC
          dsimp only at HC
          have f0 := CellsAt.get0 g1
          have f1 := CellsAt.get g1 1 rfl
          have f2 := CellsAt.get g1 2 rfl
          have f3 := CellsAt.get g1 3 rfl
          have f4 := CellsAt.get g1 4 rfl
          have f5 := CellsAt.get g1 5 rfl
          have f6 := CellsAt.get g1 6 rfl
          have f7 := CellsAt.get g1 7 rfl
          have f8 := CellsAt.get g1 8 rfl
          have f9 := CellsAt.get g1 9 rfl
          have f10 := CellsAt.get g1 10 rfl
          have HT2 := Lib.hid (lbulks_takeS l.l j x hx)
          have HXB := Lib.hid hxb
          have HBL := Lib.hid hbel
          clear hxc g1 hxa hx hbel hbw hxb xhim xhom xhrm xhnm xhlm xhex xhpi xhpo xhpr xhpn xhpl
          go_wp2_with fail
          refine HC.out.mono ?_
          rintro e2 w2 ⟨c, rfl, hc, hb2⟩
          have hcb : c ≤ 1073741824 := by have := hc.1; have := HXB.out; omega
          have HCC := Lib.hid hc
          have HB2 := Lib.hid (HBL.out.trans hb2)
          clear hc hb2 HC
          go_wp2_with fail
          exact ⟨⟨j + 1, q + c, by omega, by go_num, by go_num, by rw [HT2.out, ← Nat.add_assoc]; exact HQ.out.add HCC.out, HB2.out⟩, by simp [intOf]; omega⟩
        · have hqt2 : t < (q : Int) := by omega
          have HBL := Lib.hid hbel
          clear hbel
          go_wp2_with fail
          go_ret
          exact ⟨q, rfl, HQ.out.mono (by have := lbulks_le l.l j; have := HA5.out; have := HBE.out; omega) (.inr hqt2), L1.out.trans HBL.out⟩
      · obtain rfl : j = lm := by omega
        have HBL := Lib.hid hbel
        clear hbel hlt
        go_wp2_with fail
        go_ret
        exact ⟨q, rfl, by have := HQ.out; rw [List.take_of_length_le (by rw [HLM.out]; exact Nat.le_refl _), HA5.out] at this; have h6 := HBE.out; rwa [show 1 + p.size + A0 + A1 + A2 + A3 + A4 + A5 = T from by omega] at this, L1.out.trans HBL.out⟩
end Go.Proofs.YtchbhcjhoocjaaaGreatDoor
