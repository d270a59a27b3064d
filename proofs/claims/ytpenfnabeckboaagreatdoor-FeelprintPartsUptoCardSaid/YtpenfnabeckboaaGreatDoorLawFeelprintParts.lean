/-
  The walk of the law FeelprintParts: whatever the expression: true.
-/
import Derived.Test.YtpenfnabeckboaaGreatDoorFPM
import Derived.Test.YtpenfnabeckboaaGreatDoorFPQ
import Derived.Test.YtpenfnabeckboaaGreatDoorFPR
import Derived.Test.YtpenfnabeckboaaGreatDoorRXA
import Derived.Test.YtpenfnabeckboaaGreatDoorEXE
import Derived.Test.YtpenfnabeckboaaGreatDoorEHW
namespace Go.Proofs.YtpenfnabeckboaaGreatDoor
open Go.RowKit

theorem greatE_no {e : Ex} (h : greatE e = false) : cE e ≤ 1500 ∧ bE e ≤ 8000 := by
  unfold greatE at h
  simp at h
  omega
theorem bts_text {e : Ex} {bare : Bool} (h : CheckE e = 0) : btsOf (textE2 bare e) = prE qB bare e := by
  unfold textE2
  rw [if_pos h]
  rfl
theorem bts_from (R : ByteArray) (n : Nat) : btsOf (R.extract n R.size) = (btsOf R).drop n := by
  unfold btsOf
  rw [tail_list]
theorem wrap_sum (i n p : Nat) (h : i + n = p) (hp : p ≤ 1073741824) : wrap64 ((i : Int) + (n : Int)) = (p : Int) := by unfold wrap64; omega
set_option maxRecDepth 100000 in
set_option maxHeartbeats 8000000 in
theorem feelprintParts_walk {w : World} (e : Ex) (en el : Value) (he : ExAt w e en el) (hbe : e.bulk ≤ 1048576) (hE : EnvX w) :
    Calls Tryz.prog 3 #[exV e en el] w (RetBel (.bool true) w) := by
  have HX := Lib.hid he
  have HE := Lib.hid hE
  obtain ⟨na, la, nn, nc, m, lc, rfl, rfl, _, hml, _, hmc, _, _, _, hpa⟩ := he.opened
  unfold exV
  have HRC := Lib.hid (fun W (hW : Bel w W) => rcheck_x e _ _ W (by omega) (ExAt.bel hW e he))
  have HPR := Lib.hid (fun W (hW : Bel w W) => print_c e _ _ _ _ _ _ W (HE.out.bel hW) (by omega) (ExAt.bel hW e he))
  have HPX := Lib.hid (fun (x : Ex) (hx : x ∈ e.l) na nn nc la ln lc W (hW : Bel w W) (hat : ExAt w x (.slice na nn nc) (.slice la ln lc)) => print_c x na nn nc la ln lc W (HE.out.bel hW) (by have := bulks_mem hx; have := bulk_parts e; omega) (ExAt.bel hW x hat))
  obtain ⟨c, hc⟩ : ∃ c, CheckE e = c := ⟨_, rfl⟩
  have hsz : c = 0 → e.l.length ≤ (textE2 false e).size := fun h => by
    rw [← btsOf_len, bts_text (hc.trans h)]
    exact pr_len qB qB_ne false e (okE_of (hc.trans h))
  have hsub : c = 0 → Sub (btsOf (textE2 false e)) (e.l.map (prE qB false)) := fun h => by
    rw [bts_text (hc.trans h)]
    exact pr_sub qB false e (okE_of (hc.trans h))
  have hbig : c = 0 → (textE2 false e).size ≤ 1073741824 := fun h => by
    rw [← btsOf_len, bts_text (hc.trans h)]
    have := pr_size false e.bulk e (Nat.le_refl _) (okE_of (hc.trans h))
    omega
  obtain ⟨TT, hTT⟩ : ∃ T, textE2 false e = T := ⟨_, rfl⟩
  rw [hc] at HRC HPR
  rw [hTT] at HPR hsz hsub hbig
  have HC := Lib.hid hc
  have HSZ := Lib.hid hsz
  have HSB := Lib.hid hsub
  have HBIG := Lib.hid hbig
  have HPA := Lib.hid hpa
  have HML := Lib.hid hml
  clear he hE hc hpa hml hsz hsub hTT hbig
  go_enter Tryz.func3, Tryz.ntmps3
  go_wp2_with fail
  obtain ⟨V1, h1, k1, l1, s1⟩ := alloc_step w 25 [.int .i64 e.k, .string e.s, .slice na nn nc, .slice la m lc]
  rw [h1]
  have BX := Lib.hid k1
  have HV := Lib.hid l1
  clear h1 k1 l1 s1
  refine (falive_c _ (HE.out.bel HV.out)).mono ?_
  rintro e1 w1 ⟨rfl, hb1⟩
  have c0 := hb1.keep (BX.out.at 0)
  have c1 := hb1.keep (BX.out.at 1)
  have c2 := hb1.keep (BX.out.at 2)
  have c3 := hb1.keep (BX.out.at 3)
  have HB1 := Lib.hid (HV.out.trans hb1)
  clear hb1
  go_wp2_with fail
  obtain ⟨V3, h3, k3, l3, s3⟩ := alloc_step w1 25 [.int .i64 e.k, .string e.s, .slice na nn nc, .slice la m lc]
  rw [h3]
  have hb3 := HB1.out.trans l3
  have HG := Lib.hid (egreat_c [e] (some ⟨w1.heap.size, 0, none⟩) 1 1 V3 rfl (by omega) (parts_of_exs (exs_one k3 rfl (ExAt.bel hb3 e HX.out))) (by intro x hx; simp at hx; subst hx; omega))
  have e0 := l3.keep c0
  have e1 := l3.keep c1
  have e2 := l3.keep c2
  have e3 := l3.keep c3
  have HB3 := Lib.hid hb3
  clear h3 k3 l3 s3 hb3 c0 c1 c2 c3
  refine HG.out.mono ?_
  rintro e4 w4 ⟨rfl, hb4⟩
  have c0 := hb4.keep e0
  have c1 := hb4.keep e1
  have c2 := hb4.keep e2
  have c3 := hb4.keep e3
  have HB4 := Lib.hid (HB3.out.trans hb4)
  obtain ⟨g, hg⟩ : ∃ g, [e].any greatE = g := ⟨_, rfl⟩
  rw [hg]
  rw [List.any_cons, List.any_nil, Bool.or_false] at hg
  have HGR := Lib.hid hg
  clear e0 e1 e2 e3 hb4 hg HG
  cases g with
  | true =>
    have h1 : oneIf true = 1 := rfl
    rw [h1]
    go_wp2_with fail
    refine (falive_c _ (HE.out.bel HB4.out)).mono ?_
    rintro e5 w5 ⟨rfl, hb5⟩
    go_wp2_with fail
    go_ret
    exact ⟨rfl, HB4.out.trans hb5⟩
  | false =>
  have h1 : oneIf false = 0 := rfl
  rw [h1]
  have HGF := Lib.hid (greatE_no HGR.out)
  clear h1 HGR
  go_wp2_with fail
  refine (HRC.out _ HB4.out).mono ?_
  rintro e6 w6 ⟨rfl, hb6⟩
  have d0 := hb6.keep c0
  have d1 := hb6.keep c1
  have d2 := hb6.keep c2
  have d3 := hb6.keep c3
  have HB6 := Lib.hid (HB4.out.trans hb6)
  clear c0 c1 c2 c3 hb6
  by_cases h0 : c = 0
  · subst h0
    go_wp2_with fail
    refine (HPR.out _ HB6.out).mono ?_
    rintro e7 w7 ⟨rfl, hb7⟩
    have c0 := hb7.keep d0
    have c1 := hb7.keep d1
    have c2 := hb7.keep d2
    have c3 := hb7.keep d3
    have HB7 := Lib.hid (HB6.out.trans hb7)
    have C3 := Lib.hid c3
    clear d0 d1 d2 d3 hb7
    go_wp2_with fail
    go_loopw [5, 36] (fun r i wr => ∃ (j : Nat) (R : ByteArray), j ≤ m ∧ i = .int .i64 j ∧ r = .string R ∧ R.size ≤ TT.size ∧ Sub (btsOf R) ((e.l.drop j).map (prE qB false)) ∧ Bel w7 wr) (fun _ i _ => m - (intOf i).toNat)
    case atStart => exact ⟨0, TT, Nat.zero_le _, rfl, rfl, Nat.le_refl _, by rw [List.drop_zero]; exact HSB.out (by trivial), Bel.refl _⟩
    case round =>
      obtain ⟨j, R, hj, rfl, rfl, hR, hsub, hbel⟩ := hrel
      by_cases hlt : j < m
      · have hji : (j : Int) < m := by omega
        obtain ⟨x, hx⟩ : ∃ x, e.l[j]? = some x := ⟨_, List.getElem?_eq_getElem (by have := HML.out; omega)⟩
        obtain ⟨pb, po, xna, xnn, xnc, xla, xln, xlc, rfl, g0, g1, g2, g3, ha⟩ := HPA.out j x hx
        have hbw := HB7.out.trans hbel
        have f0 := hbw.keep g0
        have f1 := hbw.keep g1
        have f2 := hbw.keep g2
        have f3 := hbw.keep g3
        have hcx : CheckE x = 0 := part_right HC.out hx
        have HQ := Lib.hid (fun W (hW : Bel w W) => HPX.out x (List.mem_of_getElem? hx) xna xnn xnc xla xln xlc W hW ha)
        obtain ⟨hi1, hi2⟩ := List.getElem?_eq_some_iff.1 hx
        rw [List.drop_eq_getElem_cons hi1, hi2, List.map_cons] at hsub
        rw [← bts_text (bare := false) hcx] at hsub
        rw [hcx] at HQ
        obtain ⟨Tx, hTx⟩ : ∃ T, textE2 false x = T := ⟨_, rfl⟩
        rw [hTx] at hsub HQ
        obtain ⟨i, ho, hn, hs⟩ := sub_greedy hsub
        have hit : i + Tx.size ≤ R.size := by have := ho.1; rwa [btsOf_len, btsOf_len] at this
        have hiti : (i : Int) + Tx.size ≤ R.size := by omega
        have hneg : ¬ ((i : Int) < 0) := by omega
        have hsm : R.size ≤ 1073741824 := by have := HBIG.out (by trivial); omega
        obtain ⟨p, hp⟩ : ∃ p : Nat, i + Tx.size = p := ⟨_, rfl⟩
        have hpR : (p : Int) ≤ R.size := by omega
        have hp0 : p ≤ R.size := by omega
        have HWR := Lib.hid (wrap_sum i Tx.size p hp (by omega))
        have HIX := Lib.hid (fun W => index_c R Tx i (by omega) ho hn W)
        rw [btsOf_len, ← bts_from, hp] at hs
        have HS := Lib.hid hs
        have HBL := Lib.hid hbel
        have HBW := Lib.hid hbw
        have HRL := Lib.hid hR
        clear g0 g1 g2 g3 ha hx hi1 hi2 hsub ho hn hs hTx hcx hbel hbw hR hp hit hsm
        obtain ⟨V1, h1, k1, l1, s1⟩ := alloc_step wr 25 [.int .i64 x.k, .string x.s, .slice xna xnn xnc, .slice xla xln xlc]
        have HV1 := Lib.hid h1
        have HL1 := Lib.hid l1
        have y0 := k1.at 0
        have y1 := k1.at 1
        have y2 := k1.at 2
        have y3 := k1.at 3
        clear h1 k1 l1 s1
        go_upto_region 10 with fail
        rw [show wr.alloc (.cells #[.int .i64 x.k, .string x.s, .slice xna xnn xnc, .slice xla xln xlc] 25) = V1 from HV1.out]
        clear f0 f1 f2 f3
        go_wp2_with fail
        refine (HQ.out _ (HBW.out.trans HL1.out)).mono ?_
        rintro e8 w8 ⟨rfl, hb8⟩
        have HB8 := Lib.hid (HBL.out.trans (HL1.out.trans hb8))
        clear hb8 y0 y1 y2 y3
        go_wp2_with fail
        refine (HIX.out _).mono ?_
        rintro e9 w9 ⟨rfl, hb9⟩
        have HB9 := Lib.hid (HB8.out.trans hb9)
        have hwr := HWR.out
        clear hb9
        go_wp2_with fail
        clear hwr
        exact ⟨⟨j + 1, R.extract p R.size, by omega, by go_num, rfl, by simp; have := HRL.out; omega, HS.out, HB9.out⟩, by simp [intOf]; omega⟩
      · obtain rfl : j = m := by omega
        have hfin : (j : Int) ≤ TT.size := by have := HSZ.out (by trivial); have := HML.out; omega
        have y3 := hbel.keep C3.out
        go_wp2_with fail
        go_ret
        exact ⟨rfl, HB7.out.trans hbel⟩
  · have hci : ((c : Int) != 0) = true := by simpa using h0
    go_wp2_with fail
    refine (falive_c _ (HE.out.bel HB6.out)).mono ?_
    rintro e7 w7 ⟨rfl, hb7⟩
    go_wp2_with fail
    go_ret
    exact ⟨rfl, HB6.out.trans hb7⟩
end Go.Proofs.YtpenfnabeckboaaGreatDoor
