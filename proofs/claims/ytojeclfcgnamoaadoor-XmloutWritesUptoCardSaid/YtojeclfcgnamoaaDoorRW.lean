/-
  The document's xmlout: the walks of write, Write.
-/
import Derived.Test.YtojeclfcgnamoaaDoorRN
namespace Go.Proofs.YtojeclfcgnamoaaDoor
open Go.RowKit

/-- A text as a result. -/
def RetS (l : List UInt8) (w : World) (e : Ending) (w' : World) : Prop := ∃ o : ByteArray, e = .returned (.string o) ∧ o.data.toList = l ∧ Bel w w'
theorem wr_full (L : List Pr6) (whole : Bool) (x : Nd) (h : x.lo ≠ ⟨#[]⟩) : wrN L whole x = 60 :: (nameL L x.sp x.lo ++ ((if whole = true then spcL L else []) ++ (atsL L x.al ++ tailN L (nameL L x.sp x.lo) x.ks))) := by
  obtain ⟨t, sp, lo, al, ks, tx⟩ := x
  rw [wrN]
  unfold tailN
  exact if_neg h
theorem wr_none (L : List Pr6) (whole : Bool) (x : Nd) (h : x.lo = ⟨#[]⟩) : wrN L whole x = escL false x.tx := by
  obtain ⟨t, sp, lo, al, ks, tx⟩ := x
  rw [wrN]
  exact if_pos h
theorem wrs_cons (L : List Pr6) (x : Nd) (r : List Nd) : wrsN L (x :: r) = wrN L false x ++ wrsN L r := by rw [wrsN]
theorem list_size {o : ByteArray} {l R : List UInt8} (h : o.data.toList ++ l = R) (hR : R.length ≤ 1073741824) : o.size ≤ 1073741824 := by rw [size_list]; exact pre_len h hR
theorem spc_step {L : List Pr6} (hL : PrefOK L) {j : Nat} {p : Pr6} (h : L[j]? = some p) : spcL (L.drop j) = (if decide (p.1 = xmlX) = true then [] else atL ([120, 109, 108, 110, 115, 58] ++ p.1.data.toList) p.2) ++ spcL (L.drop (j + 1)) := by
  rw [drop_tail h, spcL_cons]
  have hp := hL.each p (List.mem_of_getElem? h)
  have hiff : p.2 = spX ↔ p.1 = xmlX := by
    rcases hp.2 with ⟨h1, h2⟩ | ⟨h1, h2⟩ | ⟨h1, h2, i, _, _, h3⟩
    · rw [h1, h2]; exact ⟨fun e => absurd e uri_ne.1, fun e => absurd e uri_ne.2.2.2⟩
    · rw [h1, h2]; exact ⟨fun _ => rfl, fun _ => rfl⟩
    · exact ⟨fun e => absurd e h2, fun e => absurd (h3.symm.trans e) (numP_ne i).2⟩
  by_cases hx : p.1 = xmlX
  · rw [if_pos (hiff.2 hx), decide_eq_true hx, if_pos rfl]
  · rw [if_neg (fun e => hx (hiff.1 e)), decide_eq_false hx, if_neg (by simp)]
    unfold atL
    simp
theorem ats_step (L : List Pr6) {al : List Atr} {j : Nat} {a : Atr} (h : al[j]? = some a) : atsL L (al.drop j) = atL (nameL L a.1 a.2.1) a.2.2 ++ atsL L (al.drop (j + 1)) := by
  rw [drop_tail h, atsL_cons]
  unfold atL
  simp
set_option maxRecDepth 100000 in
set_option maxHeartbeats 16000000 in
theorem d6wrF_c (u : World) (L : List Pr6) (pa : Option Addr) (pn pc : Nat) (hP : PairsAt u (.slice pa pn pc) L) (hpn : pn ≤ 10000) (hL : ∀ p ∈ L, fineS p.2 = true ∧ p.2.size ≤ 10000 ∧ p.1.size ≤ 11) (hPO : PrefOK L) (f : Nat)
    (ih : ∀ (x : Nd), x.bulk ≤ f → ∀ va vk w, NdAt u x va vk → FineN x → Bel u w → Calls Tryd.prog 23 #[ndV x va vk, .slice pa pn pc, .bool false] w (RetS (wrN L false x) w))
    (x : Nd) (hf : x.bulk ≤ f + 1) (hbk : f ≤ 10000) (whole : Bool) (hsz : (wrN L whole x).length ≤ 1073741824) (va vk : Value) (w : World) (h : NdAt u x va vk) (hfi : FineN x) (hb : Bel u w) :
    Calls Tryd.prog 23 #[ndV x va vk, .slice pa pn pc, .bool whole] w (RetS (wrN L whole x) w) := by
  obtain ⟨aa, ka, an, ac, kn, kc, rfl, rfl, han, hkn, hac, hkc, hab, hkb, hatr, hkid⟩ := h.opened
  have hbe := nd_bulk x
  have hfi2 : (∀ a ∈ x.al, fineS a.1 = true ∧ fineS a.2.2 = true) ∧ fineS x.tx = true ∧ FinesN x.ks := by
    obtain ⟨t, sp, lo, al, ks, tx⟩ := x
    unfold FineN at hfi
    exact ⟨hfi.2.1, hfi.2.2.1, hfi.2.2.2⟩
  obtain ⟨hfa, hft, hfk⟩ := hfi2
  have hP0 := hP
  obtain ⟨_, _, hv, _, hpcell⟩ := hP0
  injection hv with hv1 hv2 hv3
  subst hv1 hv3
  have HPN := Lib.hid hv2
  have HPC := Lib.hid hpcell
  have HLF := Lib.hid hL
  have HPO := Lib.hid hPO
  have HKID : Hid (∀ y : Nd, y ∈ x.ks → ∀ ya yk W, NdAt u y ya yk → Bel u W → Calls Tryd.prog 23 #[ndV y ya yk, .slice pa pn pc, .bool false] W (RetS (wrN L false y) W)) := Lib.hid fun y hy ya yk W h1 h2 => ih y (by have := nbulks_mem hy; omega) ya yk W h1 (fines_mem hfk hy) h2
  have HNAME : Hid (∀ sp lo W, Bel u W → lo.size ≤ 1073741824 → Calls Tryd.prog 47 #[.slice pa pn pc, .agg #[.string sp, .string lo]] W (RetBel (.string (nameB L sp lo)) W)) := Lib.hid fun sp lo W hW hlo => d6name_c L pa pn pc sp lo W (PairsAt.bel hP hW) (by omega) (fun p hp => by have := hL p hp; omega) hlo
  have HNL : Hid (∀ sp lo, (nameB L sp lo).data.toList = nameL L sp lo ∧ (lo.size ≤ 1073741000 → (nameB L sp lo).size ≤ 1073741824)) := Lib.hid fun sp lo => ⟨rfl, fun hlo => by
    rw [size_list]
    show (nameL L sp lo).length ≤ _
    have := name_len (fun p hp => (hL p hp).2.2) sp lo
    omega⟩
  have HA := Lib.hid hatr
  have HK := Lib.hid hkid
  have HAN := Lib.hid han
  have HKN := Lib.hid hkn
  have HFA : Hid (∀ a ∈ x.al, fineS a.2.2 = true ∧ a.2.1.size ≤ 1073741000 ∧ a.2.2.size ≤ 1073741000) := Lib.hid fun a ha => by have := atr_mem ha; exact ⟨(hfa a ha).2, by omega, by omega⟩
  have HES := Lib.hid fun W => d6esc_c x.tx false (by omega) W
  have han2 : an ≤ 10001 := by omega
  have hkn2 : kn ≤ 10001 := by omega
  have hloz : x.lo.size ≤ 1073741000 := by omega
  have hlo := lempty x.lo
  obtain ⟨R, hR⟩ : ∃ R, wrN L whole x = R := ⟨_, rfl⟩
  rw [hR] at hsz ⊢
  have HR := Lib.hid hR
  have HRZ := Lib.hid hsz
  unfold ndV
  obtain ⟨V1, h1, q1, l1, s1⟩ := alloc_step w 27 [.int .i64 x.t, .string x.sp, .string x.lo, .slice aa an ac, .slice ka kn kc, .string x.tx]
  have c0 := q1.at 0
  have c1 := q1.at 1
  have c2 := q1.at 2
  have c3 := q1.at 3
  have c4 := q1.at 4
  have c5 := q1.at 5
  have Q1 := Lib.hid q1
  have HV1 := Lib.hid h1
  have L1 := Lib.hid l1
  have HB1 := Lib.hid (hb.trans l1)
  have HFT := Lib.hid hft
  clear h1 q1 l1 s1 h hb hatr hkid han hkn hac hkc hab hkb hbe ih hf hbk hR hsz hP hv2 hpcell hL hPO hfi hfa hft hfk
  by_cases hlo0 : x.lo = ⟨#[]⟩
  · have HX : Hid (escL false x.tx = R) := Lib.hid (by rw [← wr_none L whole x hlo0]; exact HR.out)
    rw [decide_eq_true hlo0] at hlo
    clear hlo0
    go_enter Tryd.func23, Tryd.ntmps23
    go_upto_region 1 with fail
    rw [show w.alloc (.cells #[.int .i64 x.t, .string x.sp, .string x.lo, .slice aa an ac, .slice ka kn kc, .string x.tx] 27) = V1 from HV1.out]
    clear HV1
    go_wp2_with fail
    refine (HES.out _).mono ?_
    rintro e2 w2 ⟨o, rfl, ho, _, hb2⟩
    have HO := Lib.hid (ho HFT.out)
    have HB2 := Lib.hid (L1.out.trans hb2)
    clear ho hb2
    go_wp2_with fail
    go_ret
    exact ⟨o, rfl, by rw [HO.out, HX.out], HB2.out⟩
  · have HX := Lib.hid ((wr_full L whole x hlo0).symm.trans HR.out)
    rw [decide_eq_false hlo0] at hlo
    have HCN := Lib.hid (HNAME.out x.sp x.lo V1 HB1.out (by omega))
    obtain ⟨hnl, hnz⟩ := HNL.out x.sp x.lo
    have hnz2 := hnz hloz
    obtain ⟨NB, hNB⟩ : ∃ N, nameB L x.sp x.lo = N := ⟨_, rfl⟩
    rw [hNB] at hnl hnz2 HCN
    have HCN2 : Hid (∀ W, Bel u W → Calls Tryd.prog 47 #[.slice pa pn pc, .agg #[.string x.sp, .string x.lo]] W (RetBel (.string NB) W)) := Lib.hid fun W hW => by rw [← hNB]; exact HNAME.out x.sp x.lo W hW (by omega)
    rw [← hnl] at HX
    have HNB := Lib.hid hnl
    have hs1 : ¬ (9223372036854775807 < (⟨#[60]⟩ : ByteArray).size + NB.size) := by show ¬ (9223372036854775807 < 1 + NB.size); omega
    clear hlo0 hnl hnz hNB
    go_enter Tryd.func23, Tryd.ntmps23
    go_upto_region 1 with fail
    rw [show w.alloc (.cells #[.int .i64 x.t, .string x.sp, .string x.lo, .slice aa an ac, .slice ka kn kc, .string x.tx] 27) = V1 from HV1.out]
    clear HV1
    go_wp2_with fail
    refine HCN.out.mono ?_
    rintro e2 w2 ⟨rfl, hb2⟩
    have Q2 := Lib.hid (Q1.out.bel hb2)
    have HB2 := Lib.hid (HB1.out.trans hb2)
    have HW2 := Lib.hid (L1.out.trans hb2)
    obtain ⟨O1, hO1⟩ : ∃ O, (⟨#[60]⟩ : ByteArray) ++ NB = O := ⟨_, rfl⟩
    have HO1 : Hid (O1.data.toList ++ ((if whole = true then spcL (L.drop 0) else []) ++ (atsL L x.al ++ tailN L NB.data.toList x.ks)) = R) := Lib.hid (by rw [← HX.out, ← hO1, app_list, List.drop_zero]; simp)
    clear hb2 HX HCN c0 c1 c2 c3 c4 c5
    go_wp2_with fail
    try rw [hO1]
    clear hO1
    go_loopw [9, 10] (fun s i wr => ∃ (j : Nat) (O : ByteArray), s = .string O ∧ i = .int .i64 j ∧ j ≤ pn ∧ Hid (O.data.toList ++ ((if whole = true then spcL (L.drop j) else []) ++ (atsL L x.al ++ tailN L NB.data.toList x.ks)) = R) ∧ Hid (Bel w2 wr)) (fun _ i _ => pn - (intOf i).toNat)
    case atStart => exact ⟨0, O1, rfl, rfl, Nat.zero_le _, HO1, Lib.hid (Bel.refl _)⟩
    case round =>
      obtain ⟨j, O, rfl, rfl, hj, HOJ, HBJ⟩ := hrel
      go_upto_region 6 with fail
      go_cut [35] (fun v wx => v = .bool (decide (j < pn) && whole) ∧ wr = wx)
      case first =>
        by_cases hlt : j < pn
        · have hlti : (j : Int) < pn := by omega
          cases whole <;>
          · go_wp2_with fail
            go_meet
            exact ⟨by simp [hlt], rfl⟩
        · have hlti : ¬ ((j : Int) < pn) := by omega
          go_wp2_with fail
          go_meet
          exact ⟨by simp [hlt], rfl⟩
      case rest =>
      obtain ⟨rfl, rfl⟩ := hcut
      by_cases hgo : j < pn ∧ whole = true
      · obtain ⟨hlt, rfl⟩ := hgo
        have hlti : (j : Int) < pn := by omega
        have hbv : (decide (j < pn) && true) = true := by simp [hlt]
        rw [hbv]
        clear hbv
        obtain ⟨p, hp⟩ : ∃ p, L[j]? = some p := ⟨_, List.getElem?_eq_getElem (by have := HPN.out; omega)⟩
        obtain ⟨b, off, rfl, _, g1, g2⟩ := HPC.out j p hp
        have m1 := ((HB2.out.trans HBJ.out)).keep g1
        have m2 := ((HB2.out.trans HBJ.out)).keep g2
        have hst := spc_step HPO.out hp
        obtain ⟨hp1, hp2, hp3⟩ := HLF.out p (List.mem_of_getElem? hp)
        have HOJ2 := Lib.hid HOJ.out
        rw [if_pos rfl, hst] at HOJ2
        obtain ⟨pp, ps⟩ := p
        dsimp only at m1 m2 hp1 hp2 hp3 HOJ2
        have hx : (pp.toList != [120, 109, 108]) = !decide (pp = xmlX) := by rw [← lequal pp xmlX, Lib.toList_data xmlX]; rfl
        have hx2 : (pp.toList == [120, 109, 108]) = decide (pp = xmlX) := by rw [← lequal pp xmlX, Lib.toList_data xmlX]; rfl
        obtain ⟨Y, hY⟩ : ∃ D, decide (pp = xmlX) = D := ⟨_, rfl⟩
        rw [hY] at hx hx2 HOJ2
        clear g1 g2 hp hst hY HOJ
        cases Y <;> simp only [Bool.not_true, Bool.not_false] at hx
        · have hs6 : ¬ (9223372036854775807 < 6 + pp.size) := by omega
          have hnz : ((⟨#[120, 109, 108, 110, 115, 58]⟩ : ByteArray) ++ pp).size ≤ 1073741824 := by rw [app_size]; show 6 + pp.size ≤ _; omega
          have HCV := Lib.hid fun W => d6val_c (⟨#[120, 109, 108, 110, 115, 58]⟩ ++ pp) ps hnz (by omega) hp1 W
          have HN6 : Hid (((⟨#[120, 109, 108, 110, 115, 58]⟩ : ByteArray) ++ pp).data.toList = [120, 109, 108, 110, 115, 58] ++ pp.data.toList) := Lib.hid (app_list _ _)
          go_wp2_with fail
          refine wp_region_held_drew (S := fun w' => Bel wr w') (by kernel_rfl) (by (repeat (first | exact Bel.refl _ | assumption | refine Bel.to_drewN ?_ _ | refine Bel.to_drew ?_ | refine Bel.to_setCell ?_ (by first | exact Nat.le_refl _ | (simp; done) | (simp; omega) | omega) _ | refine Bel.to_alloc ?_ _ | refine Bel.trans ?_ (by assumption)))) (fun hHeld => ?_)
          refine tk 0 (v := ?_) ?_ ?_
          rotate_left 1
          · first
              | (refine Or.inl ⟨by rfl, ?_⟩; intro w9 hSw; have e9_0 := Bel.keep hSw m1; have e9_1 := Bel.keep hSw m2; go_simp; (try with_reducible rfl); done)
              | (refine Or.inr ⟨by rfl, ?_⟩; rfl)
          simp only [List.getElem_toArray, List.getElem_cons_zero, Act.put, List.setIfInBounds_toArray, List.set_cons_zero, List.set_cons_succ]
          refine tk 1 (v := ?_) ?_ ?_
          rotate_left 1
          · first
              | (refine Or.inl ⟨by rfl, ?_⟩; intro w9 hSw; have e9_0 := Bel.keep hSw m1; have e9_1 := Bel.keep hSw m2; go_simp; (try with_reducible rfl); done)
              | (refine Or.inr ⟨by rfl, ?_⟩; rfl)
          simp only [List.getElem_toArray, List.getElem_cons_succ, List.getElem_cons_zero, Act.put, List.setIfInBounds_toArray, List.set_cons_zero, List.set_cons_succ]
          refine tk 2 (v := ?_) ?_ ?_
          rotate_left 1
          · first
              | (refine Or.inl ⟨by rfl, ?_⟩; intro w9 hSw; have e9_0 := Bel.keep hSw m1; have e9_1 := Bel.keep hSw m2; go_simp; (try with_reducible rfl); done)
              | (refine Or.inr ⟨by rfl, ?_⟩; rfl)
          simp only [List.getElem_toArray, List.getElem_cons_succ, List.getElem_cons_zero, Act.put, List.setIfInBounds_toArray, List.set_cons_zero, List.set_cons_succ]
          refine tk 3 (v := ?_) ?_ ?_
          rotate_left 1
          · first
              | (refine Or.inl ⟨by rfl, ?_⟩; intro w9 hSw; have e9_0 := Bel.keep hSw m1; have e9_1 := Bel.keep hSw m2; go_simp; (try with_reducible rfl); done)
              | (refine Or.inr ⟨by rfl, ?_⟩; rfl)
          simp only [List.getElem_toArray, List.getElem_cons_succ, List.getElem_cons_zero, Act.put, List.setIfInBounds_toArray, List.set_cons_zero, List.set_cons_succ]
          refine tk 4 (v := ?_) ?_ ?_
          rotate_left 1
          · first
              | (refine Or.inl ⟨by rfl, ?_⟩; intro w9 hSw; have e9_0 := Bel.keep hSw m1; have e9_1 := Bel.keep hSw m2; go_simp; (try with_reducible rfl); done)
              | (refine Or.inr ⟨by rfl, ?_⟩; rfl)
          simp only [List.getElem_toArray, List.getElem_cons_succ, List.getElem_cons_zero, Act.put, List.setIfInBounds_toArray, List.set_cons_zero, List.set_cons_succ]
          refine tk 5 (v := ?_) ?_ ?_
          rotate_left 1
          · first
              | (refine Or.inl ⟨by rfl, ?_⟩; intro w9 hSw; have e9_0 := Bel.keep hSw m1; have e9_1 := Bel.keep hSw m2; go_simp; (try with_reducible rfl); done)
              | (refine Or.inr ⟨by rfl, ?_⟩; rfl)
          simp only [List.getElem_toArray, List.getElem_cons_succ, List.getElem_cons_zero, Act.put, List.setIfInBounds_toArray, List.set_cons_zero, List.set_cons_succ]
          refine tk 6 (v := ?_) ?_ ?_
          rotate_left 1
          · first
              | (refine Or.inl ⟨by rfl, ?_⟩; intro w9 hSw; have e9_0 := Bel.keep hSw m1; have e9_1 := Bel.keep hSw m2; go_simp; (try with_reducible rfl); done)
              | (refine Or.inr ⟨by rfl, ?_⟩; rfl)
          simp only [List.getElem_toArray, List.getElem_cons_succ, List.getElem_cons_zero, Act.put, List.setIfInBounds_toArray, List.set_cons_zero, List.set_cons_succ]
          refine tk 7 (v := ?_) ?_ ?_
          rotate_left 1
          · first
              | (refine Or.inl ⟨by rfl, ?_⟩; intro w9 hSw; have e9_0 := Bel.keep hSw m1; have e9_1 := Bel.keep hSw m2; go_simp; (try with_reducible rfl); done)
              | (refine Or.inr ⟨by rfl, ?_⟩; rfl)
          simp only [List.getElem_toArray, List.getElem_cons_succ, List.getElem_cons_zero, Act.put, List.setIfInBounds_toArray, List.set_cons_zero, List.set_cons_succ]
          refine tk 8 (v := ?_) ?_ ?_
          rotate_left 1
          · first
              | (refine Or.inl ⟨by rfl, ?_⟩; intro w9 hSw; have e9_0 := Bel.keep hSw m1; have e9_1 := Bel.keep hSw m2; go_simp; (try with_reducible rfl); done)
              | (refine Or.inr ⟨by rfl, ?_⟩; rfl)
          simp only [List.getElem_toArray, List.getElem_cons_succ, List.getElem_cons_zero, Act.put, List.setIfInBounds_toArray, List.set_cons_zero, List.set_cons_succ]
          refine tk 9 (v := ?_) ?_ ?_
          rotate_left 1
          · first
              | (refine Or.inl ⟨by rfl, ?_⟩; intro w9 hSw; have e9_0 := Bel.keep hSw m1; have e9_1 := Bel.keep hSw m2; go_simp; (try with_reducible rfl); done)
              | (refine Or.inr ⟨by rfl, ?_⟩; rfl)
          simp only [List.getElem_toArray, List.getElem_cons_succ, List.getElem_cons_zero, Act.put, List.setIfInBounds_toArray, List.set_cons_zero, List.set_cons_succ]
          refine tk 10 (v := ?_) ?_ ?_
          rotate_left 1
          · first
              | (refine Or.inl ⟨by rfl, ?_⟩; intro w9 hSw; have e9_0 := Bel.keep hSw m1; have e9_1 := Bel.keep hSw m2; go_simp; (try with_reducible rfl); done)
              | (refine Or.inr ⟨by rfl, ?_⟩; rfl)
          simp only [List.getElem_toArray, List.getElem_cons_succ, List.getElem_cons_zero, Act.put, List.setIfInBounds_toArray, List.set_cons_zero, List.set_cons_succ]
          refine tk 11 (v := ?_) ?_ ?_
          rotate_left 1
          · first
              | (refine Or.inl ⟨by rfl, ?_⟩; intro w9 hSw; have e9_0 := Bel.keep hSw m1; have e9_1 := Bel.keep hSw m2; go_simp; (try with_reducible rfl); done)
              | (refine Or.inr ⟨by rfl, ?_⟩; rfl)
          simp only [List.getElem_toArray, List.getElem_cons_succ, List.getElem_cons_zero, Act.put, List.setIfInBounds_toArray, List.set_cons_zero, List.set_cons_succ]
          refine wpAnyH_ready (rs := [12]) (by kernel_rfl) (by simp) ?_
          refine AllReadyH.cons (o := _) rfl (fun K hK => ?_) AllReadyH.nil
          go_simp
          refine (HCV.out _).mono ?_
          rintro e6 w6 ⟨o6, rfl, ho6, hb6⟩
          dsimp only
          have hr6 : Bel wr w6 := by (repeat (first | exact Bel.refl _ | assumption | refine Bel.to_drewN ?_ _ | refine Bel.to_drew ?_ | refine Bel.to_setCell ?_ (by first | exact Nat.le_refl _ | (simp; done) | (simp; omega) | omega) _ | refine Bel.to_alloc ?_ _ | refine Bel.trans ?_ (by assumption)))
          refine hK.out _ _ hr6 (fun hHeld => ?_)
          clear hK K
          have HON : Hid ((O ++ o6).data.toList ++ ((if true = true then spcL (L.drop (j + 1)) else []) ++ (atsL L x.al ++ tailN L NB.data.toList x.ks)) = R) := Lib.hid (by
            rw [← HOJ2.out, app_list, ho6, HN6.out, if_pos rfl]
            simp)
          have hz1 : (O ++ o6).size ≤ 1073741824 := list_size HON.out HRZ.out
          rw [app_size] at hz1
          have hsO : ¬ (9223372036854775807 < O.size + o6.size) := by omega
          refine tk 13 (v := ?_) ?_ ?_
          rotate_left 1
          · first
              | (refine Or.inl ⟨by rfl, ?_⟩; intro w9 hSw; go_simp; (try with_reducible rfl); done)
              | (refine Or.inr ⟨by rfl, ?_⟩; rfl)
          simp only [List.getElem_toArray, List.getElem_cons_succ, List.getElem_cons_zero, Act.put, List.setIfInBounds_toArray, List.set_cons_zero, List.set_cons_succ]
          refine tk 14 (v := ?_) ?_ ?_
          rotate_left 1
          · first
              | (refine Or.inl ⟨by rfl, ?_⟩; intro w9 hSw; go_simp; (try with_reducible rfl); done)
              | (refine Or.inr ⟨by rfl, ?_⟩; rfl)
          simp only [List.getElem_toArray, List.getElem_cons_succ, List.getElem_cons_zero, Act.put, List.setIfInBounds_toArray, List.set_cons_zero, List.set_cons_succ]
          refine wpAnyH_done (by kernel_rfl) ?_ _
          have HB6 := Lib.hid (HBJ.out.trans hr6)
          clear hHeld hr6 hb6 ho6 hz1 hsO m1 m2 HOJ2
          go_wp2_with fail
          exact ⟨⟨j + 1, _, rfl, by go_num, by omega, HON, HB6⟩, by simp [intOf]; omega⟩
        · have HX2 : Hid (O.data.toList ++ ((if true = true then spcL (L.drop (j + 1)) else []) ++ (atsL L x.al ++ tailN L NB.data.toList x.ks)) = R) := Lib.hid (by
            rw [← HOJ2.out, if_pos rfl]
            simp)
          clear HOJ2
          go_wp2_with fail
          exact ⟨⟨j + 1, O, rfl, by go_num, by omega, HX2, HBJ⟩, by simp [intOf]; omega⟩
      · have hbv : (decide (j < pn) && whole) = false := by
          cases whole with
          | false => simp
          | true => simp only [and_true] at hgo; simp [hgo]
        have HO2 : Hid (O.data.toList ++ (atsL L (x.al.drop 0) ++ tailN L NB.data.toList x.ks) = R) := Lib.hid (by
          rw [← HOJ.out, List.drop_zero]
          cases whole with
          | false => simp
          | true =>
            simp only [and_true] at hgo
            rw [if_pos rfl, List.drop_eq_nil_of_le (by have := HPN.out; omega)]
            rfl)
        have Q3 := Lib.hid (Q2.out.bel HBJ.out)
        have HB3 := Lib.hid (HB2.out.trans HBJ.out)
        have HW3 := Lib.hid (HW2.out.trans HBJ.out)
        have c3 := Q3.out.at 3
        have c4 := Q3.out.at 4
        clear hgo HOJ HBJ
        obtain ⟨w3, hw3⟩ : ∃ X, X = wr := ⟨_, rfl⟩
        subst hw3
        rw [hbv]
        clear hbv
        go_wp2_with fail
        go_loopw [9, 11] (fun s i wr => ∃ (j : Nat) (O : ByteArray), s = .string O ∧ i = .int .i64 j ∧ j ≤ an ∧ Hid (O.data.toList ++ (atsL L (x.al.drop j) ++ tailN L NB.data.toList x.ks) = R) ∧ Hid (Bel w3 wr)) (fun _ i _ => an - (intOf i).toNat)
        case atStart => exact ⟨0, O, rfl, rfl, Nat.zero_le _, HO2, Lib.hid (Bel.refl _)⟩
        case round =>
          obtain ⟨i, P, rfl, rfl, hi, HOI, HBI⟩ := hrel
          have k3 := HBI.out.keep c3
          have k4 := HBI.out.keep c4
          by_cases hlt : i < an
          · have hlti : (i : Int) < an := by omega
            obtain ⟨y, hy⟩ : ∃ y, x.al[i]? = some y := ⟨_, List.getElem?_eq_getElem (by have := HAN.out; omega)⟩
            obtain ⟨b, off, rfl, g0, g1, g2⟩ := HA.out i y hy
            have hbw := HB3.out.trans HBI.out
            have m0 := hbw.keep g0
            have m1 := hbw.keep g1
            have m2 := hbw.keep g2
            obtain ⟨hy1, hy2, hy3⟩ := HFA.out y (List.mem_of_getElem? hy)
            have HOI2 := Lib.hid HOI.out
            rw [ats_step L hy] at HOI2
            have HCN := Lib.hid fun W (hW : Bel u W) => HNAME.out y.1 y.2.1 W hW (by omega)
            obtain ⟨hnl, hnz⟩ := HNL.out y.1 y.2.1
            have hnz2 := hnz hy2
            obtain ⟨ya, yb, yc⟩ := y
            dsimp only at m0 m1 m2 hy1 hy2 hy3 HOI2 HCN hnl hnz2
            obtain ⟨NA, hNA⟩ : ∃ N, nameB L ya yb = N := ⟨_, rfl⟩
            rw [hNA] at hnl hnz2 HCN
            rw [← hnl] at HOI2
            have HCV := Lib.hid fun W => d6val_c NA yc hnz2 (by omega) hy1 W
            have HBX := Lib.hid hbw
            clear g0 g1 g2 hy hnl hnz hNA hbw HOI
            go_wp2_with fail
            refine wp_region_held_drew (S := fun w' => Bel wr w') (by kernel_rfl) (by (repeat (first | exact Bel.refl _ | assumption | refine Bel.to_drewN ?_ _ | refine Bel.to_drew ?_ | refine Bel.to_setCell ?_ (by first | exact Nat.le_refl _ | (simp; done) | (simp; omega) | omega) _ | refine Bel.to_alloc ?_ _ | refine Bel.trans ?_ (by assumption)))) (fun hHeld => ?_)
            refine tk 0 (v := ?_) ?_ ?_
            rotate_left 1
            · first
                | (refine Or.inl ⟨by rfl, ?_⟩; intro w9 hSw; have e9_0 := Bel.keep hSw k3; have e9_1 := Bel.keep hSw m0; have e9_2 := Bel.keep hSw m1; have e9_3 := Bel.keep hSw m2; go_simp; (try with_reducible rfl); done)
                | (refine Or.inr ⟨by rfl, ?_⟩; rfl)
            simp only [List.getElem_toArray, List.getElem_cons_zero, Act.put, List.setIfInBounds_toArray, List.set_cons_zero, List.set_cons_succ]
            refine tk 1 (v := ?_) ?_ ?_
            rotate_left 1
            · first
                | (refine Or.inl ⟨by rfl, ?_⟩; intro w9 hSw; have e9_0 := Bel.keep hSw k3; have e9_1 := Bel.keep hSw m0; have e9_2 := Bel.keep hSw m1; have e9_3 := Bel.keep hSw m2; go_simp; (try with_reducible rfl); done)
                | (refine Or.inr ⟨by rfl, ?_⟩; rfl)
            simp only [List.getElem_toArray, List.getElem_cons_succ, List.getElem_cons_zero, Act.put, List.setIfInBounds_toArray, List.set_cons_zero, List.set_cons_succ]
            refine tk 2 (v := ?_) ?_ ?_
            rotate_left 1
            · first
                | (refine Or.inl ⟨by rfl, ?_⟩; intro w9 hSw; have e9_0 := Bel.keep hSw k3; have e9_1 := Bel.keep hSw m0; have e9_2 := Bel.keep hSw m1; have e9_3 := Bel.keep hSw m2; go_simp; (try with_reducible rfl); done)
                | (refine Or.inr ⟨by rfl, ?_⟩; rfl)
            simp only [List.getElem_toArray, List.getElem_cons_succ, List.getElem_cons_zero, Act.put, List.setIfInBounds_toArray, List.set_cons_zero, List.set_cons_succ]
            refine tk 3 (v := ?_) ?_ ?_
            rotate_left 1
            · first
                | (refine Or.inl ⟨by rfl, ?_⟩; intro w9 hSw; have e9_0 := Bel.keep hSw k3; have e9_1 := Bel.keep hSw m0; have e9_2 := Bel.keep hSw m1; have e9_3 := Bel.keep hSw m2; go_simp; (try with_reducible rfl); done)
                | (refine Or.inr ⟨by rfl, ?_⟩; rfl)
            simp only [List.getElem_toArray, List.getElem_cons_succ, List.getElem_cons_zero, Act.put, List.setIfInBounds_toArray, List.set_cons_zero, List.set_cons_succ]
            refine tk 4 (v := ?_) ?_ ?_
            rotate_left 1
            · first
                | (refine Or.inl ⟨by rfl, ?_⟩; intro w9 hSw; have e9_0 := Bel.keep hSw k3; have e9_1 := Bel.keep hSw m0; have e9_2 := Bel.keep hSw m1; have e9_3 := Bel.keep hSw m2; go_simp; (try with_reducible rfl); done)
                | (refine Or.inr ⟨by rfl, ?_⟩; rfl)
            simp only [List.getElem_toArray, List.getElem_cons_succ, List.getElem_cons_zero, Act.put, List.setIfInBounds_toArray, List.set_cons_zero, List.set_cons_succ]
            refine tk 5 (v := ?_) ?_ ?_
            rotate_left 1
            · first
                | (refine Or.inl ⟨by rfl, ?_⟩; intro w9 hSw; have e9_0 := Bel.keep hSw k3; have e9_1 := Bel.keep hSw m0; have e9_2 := Bel.keep hSw m1; have e9_3 := Bel.keep hSw m2; go_simp; (try with_reducible rfl); done)
                | (refine Or.inr ⟨by rfl, ?_⟩; rfl)
            simp only [List.getElem_toArray, List.getElem_cons_succ, List.getElem_cons_zero, Act.put, List.setIfInBounds_toArray, List.set_cons_zero, List.set_cons_succ]
            refine tk 6 (v := ?_) ?_ ?_
            rotate_left 1
            · first
                | (refine Or.inl ⟨by rfl, ?_⟩; intro w9 hSw; have e9_0 := Bel.keep hSw k3; have e9_1 := Bel.keep hSw m0; have e9_2 := Bel.keep hSw m1; have e9_3 := Bel.keep hSw m2; go_simp; (try with_reducible rfl); done)
                | (refine Or.inr ⟨by rfl, ?_⟩; rfl)
            simp only [List.getElem_toArray, List.getElem_cons_succ, List.getElem_cons_zero, Act.put, List.setIfInBounds_toArray, List.set_cons_zero, List.set_cons_succ]
            refine tk 7 (v := ?_) ?_ ?_
            rotate_left 1
            · first
                | (refine Or.inl ⟨by rfl, ?_⟩; intro w9 hSw; have e9_0 := Bel.keep hSw k3; have e9_1 := Bel.keep hSw m0; have e9_2 := Bel.keep hSw m1; have e9_3 := Bel.keep hSw m2; go_simp; (try with_reducible rfl); done)
                | (refine Or.inr ⟨by rfl, ?_⟩; rfl)
            simp only [List.getElem_toArray, List.getElem_cons_succ, List.getElem_cons_zero, Act.put, List.setIfInBounds_toArray, List.set_cons_zero, List.set_cons_succ]
            refine tk 9 (v := ?_) ?_ ?_
            rotate_left 1
            · first
                | (refine Or.inl ⟨by rfl, ?_⟩; intro w9 hSw; have e9_0 := Bel.keep hSw k3; have e9_1 := Bel.keep hSw m0; have e9_2 := Bel.keep hSw m1; have e9_3 := Bel.keep hSw m2; go_simp; (try with_reducible rfl); done)
                | (refine Or.inr ⟨by rfl, ?_⟩; rfl)
            simp only [List.getElem_toArray, List.getElem_cons_succ, List.getElem_cons_zero, Act.put, List.setIfInBounds_toArray, List.set_cons_zero, List.set_cons_succ]
            refine tk 10 (v := ?_) ?_ ?_
            rotate_left 1
            · first
                | (refine Or.inl ⟨by rfl, ?_⟩; intro w9 hSw; have e9_0 := Bel.keep hSw k3; have e9_1 := Bel.keep hSw m0; have e9_2 := Bel.keep hSw m1; have e9_3 := Bel.keep hSw m2; go_simp; (try with_reducible rfl); done)
                | (refine Or.inr ⟨by rfl, ?_⟩; rfl)
            simp only [List.getElem_toArray, List.getElem_cons_succ, List.getElem_cons_zero, Act.put, List.setIfInBounds_toArray, List.set_cons_zero, List.set_cons_succ]
            refine tk 11 (v := ?_) ?_ ?_
            rotate_left 1
            · first
                | (refine Or.inl ⟨by rfl, ?_⟩; intro w9 hSw; have e9_0 := Bel.keep hSw k3; have e9_1 := Bel.keep hSw m0; have e9_2 := Bel.keep hSw m1; have e9_3 := Bel.keep hSw m2; go_simp; (try with_reducible rfl); done)
                | (refine Or.inr ⟨by rfl, ?_⟩; rfl)
            simp only [List.getElem_toArray, List.getElem_cons_succ, List.getElem_cons_zero, Act.put, List.setIfInBounds_toArray, List.set_cons_zero, List.set_cons_succ]
            refine tk 12 (v := ?_) ?_ ?_
            rotate_left 1
            · first
                | (refine Or.inl ⟨by rfl, ?_⟩; intro w9 hSw; have e9_0 := Bel.keep hSw k3; have e9_1 := Bel.keep hSw m0; have e9_2 := Bel.keep hSw m1; have e9_3 := Bel.keep hSw m2; go_simp; (try with_reducible rfl); done)
                | (refine Or.inr ⟨by rfl, ?_⟩; rfl)
            simp only [List.getElem_toArray, List.getElem_cons_succ, List.getElem_cons_zero, Act.put, List.setIfInBounds_toArray, List.set_cons_zero, List.set_cons_succ]
            refine tk 13 (v := ?_) ?_ ?_
            rotate_left 1
            · first
                | (refine Or.inl ⟨by rfl, ?_⟩; intro w9 hSw; have e9_0 := Bel.keep hSw k3; have e9_1 := Bel.keep hSw m0; have e9_2 := Bel.keep hSw m1; have e9_3 := Bel.keep hSw m2; go_simp; (try with_reducible rfl); done)
                | (refine Or.inr ⟨by rfl, ?_⟩; rfl)
            simp only [List.getElem_toArray, List.getElem_cons_succ, List.getElem_cons_zero, Act.put, List.setIfInBounds_toArray, List.set_cons_zero, List.set_cons_succ]
            refine tk 14 (v := ?_) ?_ ?_
            rotate_left 1
            · first
                | (refine Or.inl ⟨by rfl, ?_⟩; intro w9 hSw; have e9_0 := Bel.keep hSw k3; have e9_1 := Bel.keep hSw m0; have e9_2 := Bel.keep hSw m1; have e9_3 := Bel.keep hSw m2; go_simp; (try with_reducible rfl); done)
                | (refine Or.inr ⟨by rfl, ?_⟩; rfl)
            simp only [List.getElem_toArray, List.getElem_cons_succ, List.getElem_cons_zero, Act.put, List.setIfInBounds_toArray, List.set_cons_zero, List.set_cons_succ]
            refine wpAnyH_ready (rs := [8]) (by kernel_rfl) (by simp) ?_
            refine AllReadyH.cons (o := _) rfl (fun K hK => ?_) AllReadyH.nil
            go_simp
            refine (HCN.out _ (HBX.out.trans (by (repeat (first | exact Bel.refl _ | assumption | refine Bel.to_drewN ?_ _ | refine Bel.to_drew ?_ | refine Bel.to_setCell ?_ (by first | exact Nat.le_refl _ | (simp; done) | (simp; omega) | omega) _ | refine Bel.to_alloc ?_ _ | refine Bel.trans ?_ (by assumption)))))).mono ?_
            rintro e6 w6 ⟨rfl, hb6⟩
            dsimp only
            have hr6 : Bel wr w6 := by (repeat (first | exact Bel.refl _ | assumption | refine Bel.to_drewN ?_ _ | refine Bel.to_drew ?_ | refine Bel.to_setCell ?_ (by first | exact Nat.le_refl _ | (simp; done) | (simp; omega) | omega) _ | refine Bel.to_alloc ?_ _ | refine Bel.trans ?_ (by assumption)))
            refine hK.out _ _ hr6 (fun hHeld => ?_)
            clear hK K
            refine wpAnyH_ready (rs := [15]) (by kernel_rfl) (by simp) ?_
            refine AllReadyH.cons (o := _) rfl (fun K hK => ?_) AllReadyH.nil
            go_simp
            refine (HCV.out _).mono ?_
            rintro e7 w7 ⟨o7, rfl, ho7, hb7⟩
            dsimp only
            have hr7 : Bel wr w7 := hr6.trans hb7
            refine hK.out _ _ hr7 (fun hHeld => ?_)
            clear hK K
            have HON : Hid ((P ++ o7).data.toList ++ (atsL L (x.al.drop (i + 1)) ++ tailN L NB.data.toList x.ks) = R) := Lib.hid (by
              rw [← HOI2.out, app_list, ho7]
              simp)
            have hz1 : (P ++ o7).size ≤ 1073741824 := list_size HON.out HRZ.out
            rw [app_size] at hz1
            have hsO : ¬ (9223372036854775807 < P.size + o7.size) := by omega
            refine tk 16 (v := ?_) ?_ ?_
            rotate_left 1
            · first
                | (refine Or.inl ⟨by rfl, ?_⟩; intro w9 hSw; go_simp; (try with_reducible rfl); done)
                | (refine Or.inr ⟨by rfl, ?_⟩; rfl)
            simp only [List.getElem_toArray, List.getElem_cons_succ, List.getElem_cons_zero, Act.put, List.setIfInBounds_toArray, List.set_cons_zero, List.set_cons_succ]
            refine tk 17 (v := ?_) ?_ ?_
            rotate_left 1
            · first
                | (refine Or.inl ⟨by rfl, ?_⟩; intro w9 hSw; go_simp; (try with_reducible rfl); done)
                | (refine Or.inr ⟨by rfl, ?_⟩; rfl)
            simp only [List.getElem_toArray, List.getElem_cons_succ, List.getElem_cons_zero, Act.put, List.setIfInBounds_toArray, List.set_cons_zero, List.set_cons_succ]
            refine wpAnyH_done (by kernel_rfl) ?_ _
            have HB7 := Lib.hid (HBI.out.trans hr7)
            clear hHeld hr6 hr7 hb6 hb7 ho7 hz1 hsO m0 m1 m2 k3 k4 HOI2
            go_wp2_with fail
            exact ⟨⟨i + 1, _, rfl, by go_num, by omega, HON, HB7⟩, by simp [intOf]; omega⟩
          · have hlti : ¬ ((i : Int) < an) := by omega
            have HO3 : Hid (P.data.toList ++ tailN L NB.data.toList x.ks = R) := Lib.hid (by
              rw [← HOI.out, List.drop_eq_nil_of_le (by have := HAN.out; omega)]
              rfl)
            have hPz : P.size ≤ 1073741824 := list_size HO3.out HRZ.out
            have Q4 := Lib.hid (Q3.out.bel HBI.out)
            have HB4 := Lib.hid (HB3.out.trans HBI.out)
            have HW4 := Lib.hid (HW3.out.trans HBI.out)
            clear HOI HBI
            obtain ⟨w4, hw4⟩ : ∃ X, X = wr := ⟨_, rfl⟩
            subst hw4
            by_cases hk0 : kn = 0
            · subst hk0
              have hks : x.ks = [] := List.eq_nil_of_length_eq_zero HKN.out
              have HX4 : Hid (P.data.toList ++ [47, 62] = R) := Lib.hid (by
                rw [← HO3.out]
                unfold tailN
                rw [if_pos hks])
              have hs2 : ¬ (9223372036854775807 < P.size + (⟨#[47, 62]⟩ : ByteArray).size) := by show ¬ (9223372036854775807 < P.size + 2); omega
              clear hks HO3
              go_wp2_with fail
              go_ret
              exact ⟨_, rfl, by rw [app_list, ← HX4.out], HW4.out⟩
            · have hk0i : ((kn : Int) == 0) = false := by simpa using hk0
              have HX4 : Hid ((P ++ ⟨#[62]⟩).data.toList ++ (wrsN L (x.ks.drop 0) ++ ([60, 47] ++ (NB.data.toList ++ [62]))) = R) := Lib.hid (by
                rw [← HO3.out]
                unfold tailN
                rw [if_neg (fun e => hk0 (by have := HKN.out; rw [e] at this; exact this.symm)), app_list, List.drop_zero]
                simp)
              have hs2 : ¬ (9223372036854775807 < P.size + (⟨#[62]⟩ : ByteArray).size) := by show ¬ (9223372036854775807 < P.size + 1); omega
              obtain ⟨P2, hP2⟩ : ∃ O, P ++ (⟨#[62]⟩ : ByteArray) = O := ⟨_, rfl⟩
              rw [hP2] at HX4
              clear HO3
              go_wp2_with fail
              try rw [hP2]
              clear hP2 hs2
              go_loopw [9, 12] (fun s i wr => ∃ (j : Nat) (O : ByteArray), s = .string O ∧ i = .int .i64 j ∧ j ≤ kn ∧ Hid (O.data.toList ++ (wrsN L (x.ks.drop j) ++ ([60, 47] ++ (NB.data.toList ++ [62]))) = R) ∧ Hid (Bel w4 wr)) (fun _ i _ => kn - (intOf i).toNat)
              case atStart => exact ⟨0, P2, rfl, rfl, Nat.zero_le _, HX4, Lib.hid (Bel.refl _)⟩
              case round =>
                obtain ⟨k, S, rfl, rfl, hk, HOK, HBK⟩ := hrel
                have Q5 := Lib.hid (Q4.out.bel HBK.out)
                have l4 : wr.cell? ⟨w.heap.size, 4, none⟩ = some (.slice ka kn kc) := Q5.out.at 4
                by_cases hlk : k < kn
                · have hlki : (k : Int) < kn := by omega
                  obtain ⟨y, hy⟩ : ∃ y, x.ks[k]? = some y := ⟨_, List.getElem?_eq_getElem (by have := HKN.out; omega)⟩
                  obtain ⟨bb, off, yaa, yan, yac, yka, ykn, ykc, rfl, g0, g1, g2, g3, g4, g5, hyn⟩ := HK.out k y hy
                  have hbw := HB4.out.trans HBK.out
                  have f0 := hbw.keep g0
                  have f1 := hbw.keep g1
                  have f2 := hbw.keep g2
                  have f3 := hbw.keep g3
                  have f4 := hbw.keep g4
                  have f5 := hbw.keep g5
                  have HC := Lib.hid fun W (hW : Bel wr W) => HKID.out y (List.mem_of_getElem? hy) _ _ W hyn (hbw.trans hW)
                  unfold ndV at HC
                  have HOK2 := Lib.hid HOK.out
                  rw [kid_tail hy, wrs_cons] at HOK2
                  clear g0 g1 g2 g3 g4 g5 hy hyn hbw HOK
                  go_wp2_with fail
                  refine (HC.out _ (by (repeat (first | exact Bel.refl _ | assumption | refine Bel.to_drewN ?_ _ | refine Bel.to_drew ?_ | refine Bel.to_setCell ?_ (by first | exact Nat.le_refl _ | (simp; done) | (simp; omega) | omega) _ | refine Bel.to_alloc ?_ _ | refine Bel.trans ?_ (by assumption))))).mono ?_
                  rintro e6 w6 ⟨o6, rfl, ho6, hb6⟩
                  have HON : Hid ((S ++ o6).data.toList ++ (wrsN L (x.ks.drop (k + 1)) ++ ([60, 47] ++ (NB.data.toList ++ [62]))) = R) := Lib.hid (by
                    rw [← HOK2.out, app_list, ho6]
                    simp)
                  have hz1 : (S ++ o6).size ≤ 1073741824 := list_size HON.out HRZ.out
                  rw [app_size] at hz1
                  have hsO : ¬ (9223372036854775807 < S.size + o6.size) := by omega
                  have HB6 : Hid (Bel w4 w6) := Lib.hid (by have h1 := HBK.out; (repeat (first | exact Bel.refl _ | assumption | refine Bel.to_drewN ?_ _ | refine Bel.to_drew ?_ | refine Bel.to_setCell ?_ (by first | exact Nat.le_refl _ | (simp; done) | (simp; omega) | omega) _ | refine Bel.to_alloc ?_ _ | refine Bel.trans ?_ (by assumption))))
                  clear hb6 ho6 hz1 f0 f1 f2 f3 f4 f5 l4 HOK2 HC
                  go_wp2_with fail
                  exact ⟨⟨k + 1, _, rfl, by go_num, by omega, HON, HB6⟩, by simp [intOf]; omega⟩
                · have hlki : ¬ ((k : Int) < kn) := by omega
                  have HX5 : Hid (S.data.toList ++ ([60, 47] ++ (NB.data.toList ++ [62])) = R) := Lib.hid (by
                    rw [← HOK.out, List.drop_eq_nil_of_le (by have := HKN.out; omega), wrsN]
                    rfl)
                  have hSz : S.size ≤ 1073741824 := list_size HX5.out HRZ.out
                  have n1 : wr.cell? ⟨w.heap.size, 1, none⟩ = some (.string x.sp) := Q5.out.at 1
                  have n2 : wr.cell? ⟨w.heap.size, 2, none⟩ = some (.string x.lo) := Q5.out.at 2
                  have HC := Lib.hid fun W (hW : Bel wr W) => HCN2.out W ((HB4.out.trans HBK.out).trans hW)
                  have q1 : (⟨#[60, 47]⟩ : ByteArray).size = 2 := rfl
                  have q2 : (⟨#[62]⟩ : ByteArray).size = 1 := rfl
                  have r1 : (S ++ (⟨#[60, 47]⟩ : ByteArray)).size ≤ 1073741826 := by rw [app_size]; omega
                  have r2 : (S ++ (⟨#[60, 47]⟩ : ByteArray) ++ NB).size ≤ 2147483650 := by rw [app_size]; omega
                  have s1 : ¬ (9223372036854775807 < S.size + (⟨#[60, 47]⟩ : ByteArray).size) := by omega
                  have s2 : ¬ (9223372036854775807 < (S ++ (⟨#[60, 47]⟩ : ByteArray)).size + NB.size) := by omega
                  have s3 : ¬ (9223372036854775807 < (S ++ (⟨#[60, 47]⟩ : ByteArray) ++ NB).size + (⟨#[62]⟩ : ByteArray).size) := by omega
                  clear HOK
                  go_wp2_with fail
                  refine (HC.out _ (by (repeat (first | exact Bel.refl _ | assumption | refine Bel.to_drewN ?_ _ | refine Bel.to_drew ?_ | refine Bel.to_setCell ?_ (by first | exact Nat.le_refl _ | (simp; done) | (simp; omega) | omega) _ | refine Bel.to_alloc ?_ _ | refine Bel.trans ?_ (by assumption))))).mono ?_
                  rintro e6 w6 ⟨rfl, hb6⟩
                  have HB6 : Hid (Bel w w6) := Lib.hid (HW4.out.trans (HBK.out.trans (by (repeat (first | exact Bel.refl _ | assumption | refine Bel.to_drewN ?_ _ | refine Bel.to_drew ?_ | refine Bel.to_setCell ?_ (by first | exact Nat.le_refl _ | (simp; done) | (simp; omega) | omega) _ | refine Bel.to_alloc ?_ _ | refine Bel.trans ?_ (by assumption))))))
                  clear hb6 n1 n2
                  go_wp2_with fail
                  go_ret
                  exact ⟨_, rfl, by rw [app_list, app_list, app_list, ← HX5.out]; simp, HB6.out⟩
theorem d6wr_c (u : World) (L : List Pr6) (pa : Option Addr) (pn pc : Nat) (hP : PairsAt u (.slice pa pn pc) L) (hpn : pn ≤ 10000) (hL : ∀ p ∈ L, fineS p.2 = true ∧ p.2.size ≤ 10000 ∧ p.1.size ≤ 11) (hPO : PrefOK L) :
    ∀ (f : Nat) (x : Nd), x.bulk ≤ f → f ≤ 10000 → ∀ va vk w, NdAt u x va vk → FineN x → Bel u w → Calls Tryd.prog 23 #[ndV x va vk, .slice pa pn pc, .bool false] w (RetS (wrN L false x) w) := by
  intro f
  induction f with
  | zero => intro x hx; have := nd_pos x; omega
  | succ f ih =>
    intro x hx hf va vk w h1 h2 h3
    exact d6wrF_c u L pa pn pc hP hpn hL hPO f (fun y hy ya yk w' g1 g2 g3 => ih y hy (by omega) ya yk w' g1 g2 g3) x hx (by omega) false (by have := wr_len (fun p hp => (hL p hp).2.2) x; omega) va vk w h1 h2 h3
set_option maxRecDepth 100000 in
set_option maxHeartbeats 8000000 in
/-- The document's Write, of a right tree. -/
theorem d6Write_c (e : Nd) (va vk : Value) (w : World) (he : e.bulk ≤ 10000) (hc : CheckN e = 0) (h : NdAt w e va vk) :
    Calls Tryd.prog 11 #[ndV e va vk] w (RetS (WriteN e).data.toList w) := by
  have hd := (check_right hc).2.1
  obtain ⟨hpf, hpl⟩ := pref_facts hc he
  have HS := Lib.hid fun W (hW : Bel w W) => rsort_c e va vk W (by omega) hd (NdAt.bel hW e h)
  have HP := Lib.hid fun W (hW : Bel w W) => d6pref_c e va vk W (by omega) hd (NdAt.bel hW e h)
  have HW : Hid (∀ (u : World) pa pc xa xk W, PairsAt u (.slice pa (PrefN e).length pc) (PrefN e) → NdAt u (sortN e) xa xk → Bel u W → Calls Tryd.prog 23 #[ndV (sortN e) xa xk, .slice pa (PrefN e).length pc, .bool true] W (RetS (wrN (PrefN e) true (sortN e)) W)) := Lib.hid fun u pa pc xa xk W h1 h2 h3 =>
    d6wrF_c u (PrefN e) pa _ pc h1 hpl hpf (prefN_ok e) 10000 (fun y hy ya yk w' g1 g2 g3 => d6wr_c u (PrefN e) pa _ pc h1 hpl hpf (prefN_ok e) 10000 y hy (Nat.le_refl _) ya yk w' g1 g2 g3) (sortN e) (by rw [sortN_bulk]; omega) (Nat.le_refl _) true (write_len hc he) xa xk W h2 (fine_sort e (chk_fine e 1 false hc)) h3
  obtain ⟨R, hR⟩ : ∃ R, (WriteN e).data.toList = R := ⟨_, rfl⟩
  have hR2 : wrN (PrefN e) true (sortN e) = R := hR
  rw [hR]
  rw [hR2] at HW
  obtain ⟨aa, ka, an, ac, kn, kc, rfl, rfl, _⟩ := h.opened
  obtain ⟨S, hS⟩ : ∃ S, sortN e = S := ⟨_, rfl⟩
  obtain ⟨M, hM⟩ : ∃ S, PrefN e = S := ⟨_, rfl⟩
  rw [hS] at HS HW
  rw [hM] at HP HW
  unfold ndV at HS HP ⊢
  obtain ⟨t, ht⟩ : ∃ t, e.t = t := ⟨_, rfl⟩
  obtain ⟨sp, hsp⟩ : ∃ t, e.sp = t := ⟨_, rfl⟩
  obtain ⟨lo, hlo⟩ : ∃ t, e.lo = t := ⟨_, rfl⟩
  obtain ⟨tx, htx⟩ : ∃ t, e.tx = t := ⟨_, rfl⟩
  rw [ht, hsp, hlo, htx] at HS HP ⊢
  obtain ⟨V1, h1, q1, l1, s1⟩ := alloc_step w 27 [.int .i64 t, .string sp, .string lo, .slice aa an ac, .slice ka kn kc, .string tx]
  have c0 := q1.at 0
  have c1 := q1.at 1
  have c2 := q1.at 2
  have c3 := q1.at 3
  have c4 := q1.at 4
  have c5 := q1.at 5
  have Q1 := Lib.hid q1
  have L1 := Lib.hid l1
  have HV1 := Lib.hid h1
  clear h1 q1 l1 s1 h hR hR2 hS hM hd hc hpf hpl ht hsp hlo htx
  go_enter Tryd.func11, Tryd.ntmps11
  go_upto_region 1 with fail
  rw [show w.alloc (.cells #[.int .i64 t, .string sp, .string lo, .slice aa an ac, .slice ka kn kc, .string tx] 27) = V1 from HV1.out]
  clear HV1
  go_wp2_with fail
  refine (HS.out _ L1.out).mono ?_
  rintro e1 w1 ⟨xa, xk, rfl, hx1, hb1⟩
  obtain ⟨xaa, xka, xan, xac, xkn, xkc, rfl, rfl, _⟩ := hx1.opened
  obtain ⟨st, hst⟩ : ∃ t, S.t = t := ⟨_, rfl⟩
  obtain ⟨ssp, hssp⟩ : ∃ t, S.sp = t := ⟨_, rfl⟩
  obtain ⟨slo, hslo⟩ : ∃ t, S.lo = t := ⟨_, rfl⟩
  obtain ⟨stx, hstx⟩ : ∃ t, S.tx = t := ⟨_, rfl⟩
  have HW2 : Hid (∀ (u : World) pa pc W, PairsAt u (.slice pa M.length pc) M → NdAt u S (.slice xaa xan xac) (.slice xka xkn xkc) → Bel u W → Calls Tryd.prog 23 #[.agg #[.int .i64 st, .string ssp, .string slo, .slice xaa xan xac, .slice xka xkn xkc, .string stx], .slice pa M.length pc, .bool true] W (RetS R W)) := Lib.hid fun u pa pc W h1 h2 h3 => by
    have := HW.out u pa pc _ _ W h1 h2 h3
    unfold ndV at this
    rw [hst, hssp, hslo, hstx] at this
    exact this
  rw [hst, hssp, hslo, hstx]
  obtain ⟨V2, h2, q2, l2, s2⟩ := alloc_step w1 27 [.int .i64 st, .string ssp, .string slo, .slice xaa xan xac, .slice xka xkn xkc, .string stx]
  have HN2 := Lib.hid (NdAt.bel l2 S hx1)
  have HB2 := Lib.hid ((L1.out.trans hb1).trans l2)
  have Q3 := Lib.hid (Q1.out.bel (hb1.trans l2))
  have Q4 := Lib.hid q2
  have HV2 := Lib.hid h2
  clear h2 q2 l2 s2 hb1 hx1 c0 c1 c2 c3 c4 c5 hst hssp hslo hstx HW HS
  go_upto_region 2 with fail
  rw [show w1.alloc (.cells #[.int .i64 st, .string ssp, .string slo, .slice xaa xan xac, .slice xka xkn xkc, .string stx] 27) = V2 from HV2.out]
  clear HV2
  have c0 := Q3.out.at 0
  have c1 := Q3.out.at 1
  have c2 := Q3.out.at 2
  have c3 := Q3.out.at 3
  have c4 := Q3.out.at 4
  have c5 := Q3.out.at 5
  have d0 := Q4.out.at 0
  have d1 := Q4.out.at 1
  have d2 := Q4.out.at 2
  have d3 := Q4.out.at 3
  have d4 := Q4.out.at 4
  have d5 := Q4.out.at 5
  refine wp_region_held_drew (S := fun w' => Bel V2 w') (by kernel_rfl) (by (repeat (first | exact Bel.refl _ | assumption | refine Bel.to_drewN ?_ _ | refine Bel.to_drew ?_ | refine Bel.to_setCell ?_ (by first | exact Nat.le_refl _ | (simp; done) | (simp; omega) | omega) _ | refine Bel.to_alloc ?_ _ | refine Bel.trans ?_ (by assumption)))) (fun hHeld => ?_)
  refine tk 0 (v := ?_) ?_ ?_
  rotate_left 1
  · first
      | (refine Or.inl ⟨by rfl, ?_⟩; intro w9 hSw; have e9_0 := Bel.keep hSw c0; have e9_1 := Bel.keep hSw c1; have e9_2 := Bel.keep hSw c2; have e9_3 := Bel.keep hSw c3; have e9_4 := Bel.keep hSw c4; have e9_5 := Bel.keep hSw c5; have e9_6 := Bel.keep hSw d0; have e9_7 := Bel.keep hSw d1; have e9_8 := Bel.keep hSw d2; have e9_9 := Bel.keep hSw d3; have e9_10 := Bel.keep hSw d4; have e9_11 := Bel.keep hSw d5; go_simp; (try with_reducible rfl); done)
      | (refine Or.inr ⟨by rfl, ?_⟩; rfl)
  simp only [List.getElem_toArray, List.getElem_cons_zero, Act.put, List.setIfInBounds_toArray, List.set_cons_zero, List.set_cons_succ]
  refine tk 1 (v := ?_) ?_ ?_
  rotate_left 1
  · first
      | (refine Or.inl ⟨by rfl, ?_⟩; intro w9 hSw; have e9_0 := Bel.keep hSw c0; have e9_1 := Bel.keep hSw c1; have e9_2 := Bel.keep hSw c2; have e9_3 := Bel.keep hSw c3; have e9_4 := Bel.keep hSw c4; have e9_5 := Bel.keep hSw c5; have e9_6 := Bel.keep hSw d0; have e9_7 := Bel.keep hSw d1; have e9_8 := Bel.keep hSw d2; have e9_9 := Bel.keep hSw d3; have e9_10 := Bel.keep hSw d4; have e9_11 := Bel.keep hSw d5; go_simp; (try with_reducible rfl); done)
      | (refine Or.inr ⟨by rfl, ?_⟩; rfl)
  simp only [List.getElem_toArray, List.getElem_cons_succ, List.getElem_cons_zero, Act.put, List.setIfInBounds_toArray, List.set_cons_zero, List.set_cons_succ]
  refine wpAnyH_ready (rs := [2]) (by kernel_rfl) (by simp) ?_
  refine AllReadyH.cons (o := _) rfl (fun K hK => ?_) AllReadyH.nil
  go_simp
  refine (HP.out _ (HB2.out.trans (by (repeat (first | exact Bel.refl _ | assumption | refine Bel.to_drewN ?_ _ | refine Bel.to_drew ?_ | refine Bel.to_setCell ?_ (by first | exact Nat.le_refl _ | (simp; done) | (simp; omega) | omega) _ | refine Bel.to_alloc ?_ _ | refine Bel.trans ?_ (by assumption)))))).mono ?_
  rintro e3 w3 ⟨pa, pc, rfl, hp3, hb3⟩
  dsimp only
  have hr3 : Bel V2 w3 := by (repeat (first | exact Bel.refl _ | assumption | refine Bel.to_drewN ?_ _ | refine Bel.to_drew ?_ | refine Bel.to_setCell ?_ (by first | exact Nat.le_refl _ | (simp; done) | (simp; omega) | omega) _ | refine Bel.to_alloc ?_ _ | refine Bel.trans ?_ (by assumption)))
  refine hK.out _ _ hr3 (fun hHeld => ?_)
  clear hK K
  refine wpAnyH_ready (rs := [3]) (by kernel_rfl) (by simp) ?_
  refine AllReadyH.cons (o := _) rfl (fun K hK => ?_) AllReadyH.nil
  go_simp
  refine (HW2.out w3 pa pc _ hp3 (NdAt.bel hr3 S HN2.out) (Bel.refl _)).mono ?_
  rintro e4 w4 ⟨o, rfl, ho, hb4⟩
  dsimp only
  have hr4 := hr3.trans hb4
  refine hK.out _ _ hr4 (fun hHeld => ?_)
  clear hK K
  refine tk 4 (v := ?_) ?_ ?_
  rotate_left 1
  · first
      | (refine Or.inl ⟨by rfl, ?_⟩; intro w9 hSw; go_simp; (try with_reducible rfl); done)
      | (refine Or.inr ⟨by rfl, ?_⟩; rfl)
  simp only [List.getElem_toArray, List.getElem_cons_succ, List.getElem_cons_zero, Act.put, List.setIfInBounds_toArray, List.set_cons_zero, List.set_cons_succ]
  refine wpAnyH_done (by kernel_rfl) ?_ _
  have HB4 := Lib.hid (HB2.out.trans hr4)
  have HO := Lib.hid ho
  clear hHeld hr3 hr4 hb3 hb4 hp3 ho
  go_wp2_with fail
  go_ret
  exact ⟨o, rfl, HO.out, HB4.out⟩
end Go.Proofs.YtojeclfcgnamoaaDoor
