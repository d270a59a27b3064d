/-
  xmltree's document: the walk of Same.
-/
import Derived.Test.YtojeclfcgnamoaaDoorXA
namespace Go.Proofs.YtojeclfcgnamoaaDoor
open Go.RowKit

theorem sameN_eq (pl : Bool) (x y : Nd) : sameN pl x y = (nmEq x.sp x.lo y.sp y.lo && (decide (x.tx = y.tx) && (decide (x.al = y.al) && ((!pl || decide (x.t = y.t)) && samesN pl x.ks y.ks)))) := by
  obtain ⟨t, sp, lo, al, ks, tx⟩ := x
  obtain ⟨t', sp', lo', al', ks', tx'⟩ := y
  rw [sameN]
  simp only [Nd.sp, Nd.lo, Nd.tx, Nd.al, Nd.t, Nd.ks, nmEq]
  rw [← Bool.and_assoc (decide (sp = sp')), ← Bool.decide_and]
  congr 1
theorem sames_len {pl : Bool} : ∀ {a b : List Nd}, samesN pl a b = true → a.length = b.length
  | [], [], _ => rfl
  | x :: r, y :: s, h => by
    rw [samesN, Bool.and_eq_true] at h
    rw [List.length_cons, List.length_cons, sames_len h.2]
  | [], _ :: _, h => by rw [samesN] at h; cases h
  | _ :: _, [], h => by rw [samesN] at h; cases h
set_option maxRecDepth 100000 in
set_option maxHeartbeats 16000000 in
theorem rsameF_c (f : Nat) (ih : ∀ (x y : Nd), x.bulk ≤ f → ∀ xa xk ya yk w (pl : Bool), NdAt w x xa xk → NdAt w y ya yk → y.bulk ≤ 1073741824 → Calls Tryd.prog 12 #[ndV x xa xk, ndV y ya yk, .bool pl] w (RetBel (.bool (sameN pl x y)) w))
    (x y : Nd) (hf : x.bulk ≤ f + 1) (hbk : f ≤ 1073741824) (xa xk ya yk : Value) (w : World) (pl : Bool) (hx : NdAt w x xa xk) (hy : NdAt w y ya yk) (hyb : y.bulk ≤ 1073741824) :
    Calls Tryd.prog 12 #[ndV x xa xk, ndV y ya yk, .bool pl] w (RetBel (.bool (sameN pl x y)) w) := by
  obtain ⟨aa, ka, an, ac, kn, kc, rfl, rfl, han, hkn, hac, hkc, hab, hkb, hatr, hkid⟩ := hx.opened
  obtain ⟨ba, ma, bn, bc, mn, mc, rfl, rfl, hbn, hmn, hbc, hmc, hbb, hmb, hatr', hkid'⟩ := hy.opened
  have HX : Hid (∀ u v : Nd, u ∈ x.ks → v ∈ y.ks → ∀ ua uk va vk W, Bel w W → NdAt W u ua uk → NdAt W v va vk → Calls Tryd.prog 12 #[ndV u ua uk, ndV v va vk, .bool pl] W (RetBel (.bool (sameN pl u v)) W)) := Lib.hid fun u v hu hv ua uk va vk W _ h1 h2 => ih u v (by have := nbulks_mem hu; have := nd_bulk x; omega) ua uk va vk W pl h1 h2 (by have := nbulks_mem hv; have := nd_bulk y; omega)
  have hsame := sameN_eq pl x y
  obtain ⟨R, hR⟩ : ∃ R, sameN pl x y = R := ⟨_, rfl⟩
  rw [hR] at hsame ⊢
  have HA := Lib.hid hatr
  have HK := Lib.hid hkid
  have HA' := Lib.hid hatr'
  have HK' := Lib.hid hkid'
  have HAN := Lib.hid han
  have HKN := Lib.hid hkn
  have HBN := Lib.hid hbn
  have HMN := Lib.hid hmn
  have han2 : an ≤ 1073741825 := by omega
  have hkn2 : kn ≤ 1073741825 := by omega
  have hbn2 : bn ≤ 1073741825 := by omega
  have hmn2 : mn ≤ 1073741825 := by omega
  have hnm := fun W => neq_nm x.sp x.lo y.sp y.lo W
  have htx := lequal x.tx y.tx
  obtain ⟨T, hT⟩ : ∃ t, x.t = t := ⟨_, rfl⟩
  obtain ⟨sp, hsp⟩ : ∃ t, x.sp = t := ⟨_, rfl⟩
  obtain ⟨lo, hlo⟩ : ∃ t, x.lo = t := ⟨_, rfl⟩
  obtain ⟨tx, htx2⟩ : ∃ t, x.tx = t := ⟨_, rfl⟩
  obtain ⟨T', hT'⟩ : ∃ t, y.t = t := ⟨_, rfl⟩
  obtain ⟨sp', hsp'⟩ : ∃ t, y.sp = t := ⟨_, rfl⟩
  obtain ⟨lo', hlo'⟩ : ∃ t, y.lo = t := ⟨_, rfl⟩
  obtain ⟨tx', htx2'⟩ : ∃ t, y.tx = t := ⟨_, rfl⟩
  obtain ⟨al, hal⟩ : ∃ t, x.al = t := ⟨_, rfl⟩
  obtain ⟨al', hal'⟩ : ∃ t, y.al = t := ⟨_, rfl⟩
  obtain ⟨ks, hks⟩ : ∃ t, x.ks = t := ⟨_, rfl⟩
  obtain ⟨ks', hks'⟩ : ∃ t, y.ks = t := ⟨_, rfl⟩
  unfold ndV
  rw [hT, hsp, hlo, htx2, hT', hsp', hlo', htx2']
  rw [hsp, hlo, hsp', hlo'] at hnm
  rw [htx2, htx2'] at htx
  rw [hsp, hlo, hsp', hlo', htx2, htx2', hT, hT', hal, hal', hks, hks'] at hsame
  rw [hal] at HA HAN
  rw [hal'] at HA' HBN
  rw [hks] at HX HK HKN
  rw [hks'] at HX HK' HMN
  obtain ⟨N, hN⟩ : ∃ N, nmEq sp lo sp' lo' = N := ⟨_, rfl⟩
  obtain ⟨X, hX⟩ : ∃ N, decide (tx = tx') = N := ⟨_, rfl⟩
  obtain ⟨P, hP⟩ : ∃ N, (T == T') = N := ⟨_, rfl⟩
  have hP2 : decide (T = T') = P := by rw [← hP]; rfl
  rw [hN] at hnm hsame
  rw [hX] at htx hsame
  rw [hP2] at hsame
  have HS := Lib.hid hsame
  obtain ⟨V0, h0, q0, l0, s0⟩ := alloc_step w 27 [.int .i64 T, .string sp, .string lo, .slice aa an ac, .slice ka kn kc, .string tx]
  obtain ⟨V1, h1, q1, l1, s1⟩ := alloc_step V0 27 [.int .i64 T', .string sp', .string lo', .slice ba bn bc, .slice ma mn mc, .string tx']
  rw [s0] at q1
  have c0 := (q0.bel l1).at 0
  have c1 := (q0.bel l1).at 1
  have c2 := (q0.bel l1).at 2
  have c3 := (q0.bel l1).at 3
  have c4 := (q0.bel l1).at 4
  have c5 := (q0.bel l1).at 5
  have d0 := q1.at 0
  have d1 := q1.at 1
  have d2 := q1.at 2
  have d3 := q1.at 3
  have d4 := q1.at 4
  have d5 := q1.at 5
  have L1 := Lib.hid (l0.trans l1)
  have HV0 := Lib.hid h0
  have HV1 := Lib.hid h1
  have HTP : Hid (pl = true → P = false → (T == T') = false) := Lib.hid fun _ h => by rw [hP, h]
  clear ih hsame hatr hkid hatr' hkid' han hkn hbn hmn hac hkc hbc hmc hab hkb hbb hmb hf hbk hyb hx hy h0 h1 q0 q1 l0 l1 s0 s1 hT hsp hlo htx2 hT' hsp' hlo' htx2' hal hal' hks hks' hN hX hP2 hR
  cases N with
  | false =>
    have HF : Hid (R = false) := Lib.hid (by rw [HS.out]; rfl)
    clear HS
    go_enter Tryd.func12, Tryd.ntmps12
    go_upto_region 1 with fail
    rw [show w.alloc (.cells #[.int .i64 T, .string sp, .string lo, .slice aa an ac, .slice ka kn kc, .string tx] 27) = V0 from HV0.out, show V0.alloc (.cells #[.int .i64 T', .string sp', .string lo', .slice ba bn bc, .slice ma mn mc, .string tx'] 27) = V1 from HV1.out]
    clear HV0 HV1
    go_wp2_with fail
    go_ret
    exact ⟨ret_bool (by rw [HF.out]), L1.out⟩
  | true =>
    cases X with
    | false =>
      have HF : Hid (R = false) := Lib.hid (by rw [HS.out]; rfl)
      clear HS
      go_enter Tryd.func12, Tryd.ntmps12
      go_upto_region 1 with fail
      rw [show w.alloc (.cells #[.int .i64 T, .string sp, .string lo, .slice aa an ac, .slice ka kn kc, .string tx] 27) = V0 from HV0.out, show V0.alloc (.cells #[.int .i64 T', .string sp', .string lo', .slice ba bn bc, .slice ma mn mc, .string tx'] 27) = V1 from HV1.out]
      clear HV0 HV1
      go_wp2_with fail
      go_ret
      exact ⟨ret_bool (by rw [HF.out]), L1.out⟩
    | true =>
      by_cases hA : an = bn
      · subst hA
        by_cases hM : kn = mn
        · subst hM
          have HS2 : Hid (R = (decide (al = al') && ((!pl || P) && samesN pl ks ks'))) := Lib.hid (by rw [HS.out]; rfl)
          by_cases hp : pl = true ∧ P = false
          · obtain ⟨rfl, rfl⟩ := hp
            have e1 : (T != T') = true := by unfold bne; rw [hP]; rfl
            have HF : Hid (R = false) := Lib.hid (by rw [HS2.out]; simp)
            clear HS HS2
            go_enter Tryd.func12, Tryd.ntmps12
            go_upto_region 1 with fail
            rw [show w.alloc (.cells #[.int .i64 T, .string sp, .string lo, .slice aa an ac, .slice ka kn kc, .string tx] 27) = V0 from HV0.out, show V0.alloc (.cells #[.int .i64 T', .string sp', .string lo', .slice ba an bc, .slice ma kn mc, .string tx'] 27) = V1 from HV1.out]
            clear HV0 HV1
            go_wp2_with fail
            go_ret
            exact ⟨ret_bool (by rw [HF.out]), L1.out⟩
          · have HS3 : Hid (R = (decide (al = al') && samesN pl ks ks')) := Lib.hid (by
              rw [HS2.out]
              cases pl <;> cases P <;> simp_all)
            clear HS HS2
            cases pl with
            | false =>
              go_enter Tryd.func12, Tryd.ntmps12
              go_upto_region 1 with fail
              rw [show w.alloc (.cells #[.int .i64 T, .string sp, .string lo, .slice aa an ac, .slice ka kn kc, .string tx] 27) = V0 from HV0.out, show V0.alloc (.cells #[.int .i64 T', .string sp', .string lo', .slice ba an bc, .slice ma kn mc, .string tx'] 27) = V1 from HV1.out]
              clear HV0 HV1
              go_wp2_with fail
              go_loopw [7] (fun i wr => ∃ (j : Nat), i = .int .i64 j ∧ j ≤ an ∧ Hid (al.take j = al'.take j) ∧ Hid (Bel V1 wr)) (fun i _ => an - (intOf i).toNat)
              case atStart => exact ⟨0, rfl, Nat.zero_le _, Lib.hid rfl, Lib.hid (Bel.refl _)⟩
              case round =>
                obtain ⟨j, rfl, hj, HTJ, HBJ⟩ := hrel
                by_cases hlt : j < an
                · have hlti : (j : Int) < an := by omega
                  obtain ⟨u, hu⟩ : ∃ u, al[j]? = some u := ⟨_, List.getElem?_eq_getElem (by have := HAN.out; omega)⟩
                  obtain ⟨v, hv⟩ : ∃ v, al'[j]? = some v := ⟨_, List.getElem?_eq_getElem (by have := HBN.out; omega)⟩
                  obtain ⟨b1, o1, rfl, g0, g1, g2⟩ := HA.out j u hu
                  obtain ⟨b2, o2, rfl, k0, k1, k2⟩ := HA'.out j v hv
                  have hbw := L1.out.trans HBJ.out
                  have f0 := hbw.keep g0
                  have f1 := hbw.keep g1
                  have f2 := hbw.keep g2
                  have m0 := hbw.keep k0
                  have m1 := hbw.keep k1
                  have m2 := hbw.keep k2
                  have e3 := HBJ.out.keep c3
                  have e3' := HBJ.out.keep d3
                  have hat := fun W => neq_at u v W
                  obtain ⟨Q, hQ⟩ : ∃ Q, atEq u v = Q := ⟨_, rfl⟩
                  rw [hQ] at hat
                  have htk1 : al.take (j + 1) = al.take j ++ [u] := by rw [List.take_add_one, hu]; rfl
                  have htk2 : al'.take (j + 1) = al'.take j ++ [v] := by rw [List.take_add_one, hv]; rfl
                  cases Q with
                  | true =>
                    have HT2 : Hid (al.take (j + 1) = al'.take (j + 1)) := Lib.hid (by rw [htk1, htk2, HTJ.out, of_decide_eq_true hQ])
                    obtain ⟨ua, ub, uc⟩ := u
                    obtain ⟨va, vb, vc⟩ := v
                    dsimp only at f0 f1 f2 m0 m1 m2 hat
                    clear g0 g1 g2 k0 k1 k2 hu hv hbw htk1 htk2 hQ
                    go_upto_region 6 with fail
                    go_quiet (fail)
                    go_wp2_with fail
                    exact ⟨⟨j + 1, by go_num, by omega, HT2, Lib.hid (HBJ.out.trans (Bel.drewN _ _))⟩, by simp [intOf]; omega⟩
                  | false =>
                    have HF : Hid (R = false) := Lib.hid (by
                      rw [HS3.out, decide_eq_false (fun e => by
                        rw [e, hv] at hu
                        injection hu with hu
                        exact of_decide_eq_false hQ hu.symm)]
                      rfl)
                    obtain ⟨ua, ub, uc⟩ := u
                    obtain ⟨va, vb, vc⟩ := v
                    dsimp only at f0 f1 f2 m0 m1 m2 hat
                    clear g0 g1 g2 k0 k1 k2 hu hv hbw htk1 htk2 hQ
                    go_upto_region 6 with fail
                    go_quiet (fail)
                    go_wp2_with fail
                    go_ret
                    exact ⟨ret_bool (by rw [HF.out]), (L1.out.trans HBJ.out).trans (Bel.drewN _ _)⟩
                · have hlti : ¬ ((j : Int) < an) := by omega
                  have HAL : Hid (al = al') := Lib.hid (by have := HTJ.out; rwa [List.take_of_length_le (by have := HAN.out; omega), List.take_of_length_le (by have := HBN.out; omega)] at this)
                  have HS4 : Hid (samesN false (ks.drop 0) (ks'.drop 0) = R) := Lib.hid (by rw [HS3.out, decide_eq_true HAL.out, List.drop_zero, List.drop_zero]; rfl)
                  have e3 := HBJ.out.keep c3
                  clear HTJ
                  go_wp2_with fail
                  go_loopw [8] (fun i wr => ∃ (j : Nat), i = .int .i64 j ∧ j ≤ kn ∧ Hid (samesN false (ks.drop j) (ks'.drop j) = R) ∧ Hid (Bel V1 wr)) (fun i _ => kn - (intOf i).toNat)
                  case atStart => exact ⟨0, rfl, Nat.zero_le _, HS4, HBJ⟩
                  case round =>
                    obtain ⟨j, rfl, hj, HRJ, HBJ⟩ := hrel
                    have e4 := HBJ.out.keep c4
                    have e4' := HBJ.out.keep d4
                    by_cases hlt : j < kn
                    · have hlti : (j : Int) < kn := by omega
                      obtain ⟨u, hu⟩ : ∃ u, ks[j]? = some u := ⟨_, List.getElem?_eq_getElem (by have := HKN.out; omega)⟩
                      obtain ⟨v, hv⟩ : ∃ v, ks'[j]? = some v := ⟨_, List.getElem?_eq_getElem (by have := HMN.out; omega)⟩
                      obtain ⟨b1, o1, uaa, uan, uac, uka, ukn, ukc, rfl, g0, g1, g2, g3, g4, g5, hun⟩ := HK.out j u hu
                      obtain ⟨b2, o2, vaa, van, vac, vka, vkn, vkc, rfl, k0, k1, k2, k3, k4, k5, hvn⟩ := HK'.out j v hv
                      have hbw := L1.out.trans HBJ.out
                      have f0 := hbw.keep g0
                      have f1 := hbw.keep g1
                      have f2 := hbw.keep g2
                      have f3 := hbw.keep g3
                      have f4 := hbw.keep g4
                      have f5 := hbw.keep g5
                      have m0 := hbw.keep k0
                      have m1 := hbw.keep k1
                      have m2 := hbw.keep k2
                      have m3 := hbw.keep k3
                      have m4 := hbw.keep k4
                      have m5 := hbw.keep k5
                      have hrj := HRJ.out
                      rw [drop_tail hu, drop_tail hv, samesN] at hrj
                      have HC := Lib.hid fun W (hW : Bel w W) => HX.out u v (List.mem_of_getElem? hu) (List.mem_of_getElem? hv) _ _ _ _ W hW (NdAt.bel hW u hun) (NdAt.bel hW v hvn)
                      unfold ndV at HC
                      obtain ⟨Q, hQ⟩ : ∃ Q, sameN false u v = Q := ⟨_, rfl⟩
                      rw [hQ] at HC hrj
                      have HRK := Lib.hid hrj
                      have HBW := Lib.hid hbw
                      clear g0 g1 g2 g3 g4 g5 k0 k1 k2 k3 k4 k5 hu hv hun hvn hbw hrj hQ
                      go_upto_region 11 with fail
                      refine wp_region_held_drew (S := fun w' => Bel wr w') (by kernel_rfl) (by (repeat (first | exact Bel.refl _ | assumption | refine Bel.to_drewN ?_ _ | refine Bel.to_drew ?_ | refine Bel.to_setCell ?_ (by first | exact Nat.le_refl _ | (simp; done) | (simp; omega) | omega) _ | refine Bel.to_alloc ?_ _ | refine Bel.trans ?_ (by assumption)))) (fun hHeld => ?_)
                      refine tk 0 (v := ?_) ?_ ?_
                      rotate_left 1
                      · first
                          | (refine Or.inl ⟨by rfl, ?_⟩; intro w9 hSw; have e9_0 := Bel.keep hSw e4; have e9_1 := Bel.keep hSw e4'; have e9_2 := Bel.keep hSw f0; have e9_3 := Bel.keep hSw f1; have e9_4 := Bel.keep hSw f2; have e9_5 := Bel.keep hSw f3; have e9_6 := Bel.keep hSw f4; have e9_7 := Bel.keep hSw f5; have e9_8 := Bel.keep hSw m0; have e9_9 := Bel.keep hSw m1; have e9_10 := Bel.keep hSw m2; have e9_11 := Bel.keep hSw m3; have e9_12 := Bel.keep hSw m4; have e9_13 := Bel.keep hSw m5; go_simp; (try with_reducible rfl); done)
                          | (refine Or.inr ⟨by rfl, ?_⟩; rfl)
                      simp only [List.getElem_toArray, List.getElem_cons_zero, Act.put, List.setIfInBounds_toArray, List.set_cons_zero, List.set_cons_succ]
                      refine tk 1 (v := ?_) ?_ ?_
                      rotate_left 1
                      · first
                          | (refine Or.inl ⟨by rfl, ?_⟩; intro w9 hSw; have e9_0 := Bel.keep hSw e4; have e9_1 := Bel.keep hSw e4'; have e9_2 := Bel.keep hSw f0; have e9_3 := Bel.keep hSw f1; have e9_4 := Bel.keep hSw f2; have e9_5 := Bel.keep hSw f3; have e9_6 := Bel.keep hSw f4; have e9_7 := Bel.keep hSw f5; have e9_8 := Bel.keep hSw m0; have e9_9 := Bel.keep hSw m1; have e9_10 := Bel.keep hSw m2; have e9_11 := Bel.keep hSw m3; have e9_12 := Bel.keep hSw m4; have e9_13 := Bel.keep hSw m5; go_simp; (try with_reducible rfl); done)
                          | (refine Or.inr ⟨by rfl, ?_⟩; rfl)
                      simp only [List.getElem_toArray, List.getElem_cons_succ, List.getElem_cons_zero, Act.put, List.setIfInBounds_toArray, List.set_cons_zero, List.set_cons_succ]
                      refine tk 2 (v := ?_) ?_ ?_
                      rotate_left 1
                      · first
                          | (refine Or.inl ⟨by rfl, ?_⟩; intro w9 hSw; have e9_0 := Bel.keep hSw e4; have e9_1 := Bel.keep hSw e4'; have e9_2 := Bel.keep hSw f0; have e9_3 := Bel.keep hSw f1; have e9_4 := Bel.keep hSw f2; have e9_5 := Bel.keep hSw f3; have e9_6 := Bel.keep hSw f4; have e9_7 := Bel.keep hSw f5; have e9_8 := Bel.keep hSw m0; have e9_9 := Bel.keep hSw m1; have e9_10 := Bel.keep hSw m2; have e9_11 := Bel.keep hSw m3; have e9_12 := Bel.keep hSw m4; have e9_13 := Bel.keep hSw m5; go_simp; (try with_reducible rfl); done)
                          | (refine Or.inr ⟨by rfl, ?_⟩; rfl)
                      simp only [List.getElem_toArray, List.getElem_cons_succ, List.getElem_cons_zero, Act.put, List.setIfInBounds_toArray, List.set_cons_zero, List.set_cons_succ]
                      refine tk 3 (v := ?_) ?_ ?_
                      rotate_left 1
                      · first
                          | (refine Or.inl ⟨by rfl, ?_⟩; intro w9 hSw; have e9_0 := Bel.keep hSw e4; have e9_1 := Bel.keep hSw e4'; have e9_2 := Bel.keep hSw f0; have e9_3 := Bel.keep hSw f1; have e9_4 := Bel.keep hSw f2; have e9_5 := Bel.keep hSw f3; have e9_6 := Bel.keep hSw f4; have e9_7 := Bel.keep hSw f5; have e9_8 := Bel.keep hSw m0; have e9_9 := Bel.keep hSw m1; have e9_10 := Bel.keep hSw m2; have e9_11 := Bel.keep hSw m3; have e9_12 := Bel.keep hSw m4; have e9_13 := Bel.keep hSw m5; go_simp; (try with_reducible rfl); done)
                          | (refine Or.inr ⟨by rfl, ?_⟩; rfl)
                      simp only [List.getElem_toArray, List.getElem_cons_succ, List.getElem_cons_zero, Act.put, List.setIfInBounds_toArray, List.set_cons_zero, List.set_cons_succ]
                      refine tk 4 (v := ?_) ?_ ?_
                      rotate_left 1
                      · first
                          | (refine Or.inl ⟨by rfl, ?_⟩; intro w9 hSw; have e9_0 := Bel.keep hSw e4; have e9_1 := Bel.keep hSw e4'; have e9_2 := Bel.keep hSw f0; have e9_3 := Bel.keep hSw f1; have e9_4 := Bel.keep hSw f2; have e9_5 := Bel.keep hSw f3; have e9_6 := Bel.keep hSw f4; have e9_7 := Bel.keep hSw f5; have e9_8 := Bel.keep hSw m0; have e9_9 := Bel.keep hSw m1; have e9_10 := Bel.keep hSw m2; have e9_11 := Bel.keep hSw m3; have e9_12 := Bel.keep hSw m4; have e9_13 := Bel.keep hSw m5; go_simp; (try with_reducible rfl); done)
                          | (refine Or.inr ⟨by rfl, ?_⟩; rfl)
                      simp only [List.getElem_toArray, List.getElem_cons_succ, List.getElem_cons_zero, Act.put, List.setIfInBounds_toArray, List.set_cons_zero, List.set_cons_succ]
                      refine tk 5 (v := ?_) ?_ ?_
                      rotate_left 1
                      · first
                          | (refine Or.inl ⟨by rfl, ?_⟩; intro w9 hSw; have e9_0 := Bel.keep hSw e4; have e9_1 := Bel.keep hSw e4'; have e9_2 := Bel.keep hSw f0; have e9_3 := Bel.keep hSw f1; have e9_4 := Bel.keep hSw f2; have e9_5 := Bel.keep hSw f3; have e9_6 := Bel.keep hSw f4; have e9_7 := Bel.keep hSw f5; have e9_8 := Bel.keep hSw m0; have e9_9 := Bel.keep hSw m1; have e9_10 := Bel.keep hSw m2; have e9_11 := Bel.keep hSw m3; have e9_12 := Bel.keep hSw m4; have e9_13 := Bel.keep hSw m5; go_simp; (try with_reducible rfl); done)
                          | (refine Or.inr ⟨by rfl, ?_⟩; rfl)
                      simp only [List.getElem_toArray, List.getElem_cons_succ, List.getElem_cons_zero, Act.put, List.setIfInBounds_toArray, List.set_cons_zero, List.set_cons_succ]
                      refine tk 6 (v := ?_) ?_ ?_
                      rotate_left 1
                      · first
                          | (refine Or.inl ⟨by rfl, ?_⟩; intro w9 hSw; have e9_0 := Bel.keep hSw e4; have e9_1 := Bel.keep hSw e4'; have e9_2 := Bel.keep hSw f0; have e9_3 := Bel.keep hSw f1; have e9_4 := Bel.keep hSw f2; have e9_5 := Bel.keep hSw f3; have e9_6 := Bel.keep hSw f4; have e9_7 := Bel.keep hSw f5; have e9_8 := Bel.keep hSw m0; have e9_9 := Bel.keep hSw m1; have e9_10 := Bel.keep hSw m2; have e9_11 := Bel.keep hSw m3; have e9_12 := Bel.keep hSw m4; have e9_13 := Bel.keep hSw m5; go_simp; (try with_reducible rfl); done)
                          | (refine Or.inr ⟨by rfl, ?_⟩; rfl)
                      simp only [List.getElem_toArray, List.getElem_cons_succ, List.getElem_cons_zero, Act.put, List.setIfInBounds_toArray, List.set_cons_zero, List.set_cons_succ]
                      refine tk 7 (v := ?_) ?_ ?_
                      rotate_left 1
                      · first
                          | (refine Or.inl ⟨by rfl, ?_⟩; intro w9 hSw; have e9_0 := Bel.keep hSw e4; have e9_1 := Bel.keep hSw e4'; have e9_2 := Bel.keep hSw f0; have e9_3 := Bel.keep hSw f1; have e9_4 := Bel.keep hSw f2; have e9_5 := Bel.keep hSw f3; have e9_6 := Bel.keep hSw f4; have e9_7 := Bel.keep hSw f5; have e9_8 := Bel.keep hSw m0; have e9_9 := Bel.keep hSw m1; have e9_10 := Bel.keep hSw m2; have e9_11 := Bel.keep hSw m3; have e9_12 := Bel.keep hSw m4; have e9_13 := Bel.keep hSw m5; go_simp; (try with_reducible rfl); done)
                          | (refine Or.inr ⟨by rfl, ?_⟩; rfl)
                      simp only [List.getElem_toArray, List.getElem_cons_succ, List.getElem_cons_zero, Act.put, List.setIfInBounds_toArray, List.set_cons_zero, List.set_cons_succ]
                      refine tk 8 (v := ?_) ?_ ?_
                      rotate_left 1
                      · first
                          | (refine Or.inl ⟨by rfl, ?_⟩; intro w9 hSw; have e9_0 := Bel.keep hSw e4; have e9_1 := Bel.keep hSw e4'; have e9_2 := Bel.keep hSw f0; have e9_3 := Bel.keep hSw f1; have e9_4 := Bel.keep hSw f2; have e9_5 := Bel.keep hSw f3; have e9_6 := Bel.keep hSw f4; have e9_7 := Bel.keep hSw f5; have e9_8 := Bel.keep hSw m0; have e9_9 := Bel.keep hSw m1; have e9_10 := Bel.keep hSw m2; have e9_11 := Bel.keep hSw m3; have e9_12 := Bel.keep hSw m4; have e9_13 := Bel.keep hSw m5; go_simp; (try with_reducible rfl); done)
                          | (refine Or.inr ⟨by rfl, ?_⟩; rfl)
                      simp only [List.getElem_toArray, List.getElem_cons_succ, List.getElem_cons_zero, Act.put, List.setIfInBounds_toArray, List.set_cons_zero, List.set_cons_succ]
                      refine tk 9 (v := ?_) ?_ ?_
                      rotate_left 1
                      · first
                          | (refine Or.inl ⟨by rfl, ?_⟩; intro w9 hSw; have e9_0 := Bel.keep hSw e4; have e9_1 := Bel.keep hSw e4'; have e9_2 := Bel.keep hSw f0; have e9_3 := Bel.keep hSw f1; have e9_4 := Bel.keep hSw f2; have e9_5 := Bel.keep hSw f3; have e9_6 := Bel.keep hSw f4; have e9_7 := Bel.keep hSw f5; have e9_8 := Bel.keep hSw m0; have e9_9 := Bel.keep hSw m1; have e9_10 := Bel.keep hSw m2; have e9_11 := Bel.keep hSw m3; have e9_12 := Bel.keep hSw m4; have e9_13 := Bel.keep hSw m5; go_simp; (try with_reducible rfl); done)
                          | (refine Or.inr ⟨by rfl, ?_⟩; rfl)
                      simp only [List.getElem_toArray, List.getElem_cons_succ, List.getElem_cons_zero, Act.put, List.setIfInBounds_toArray, List.set_cons_zero, List.set_cons_succ]
                      refine tk 10 (v := ?_) ?_ ?_
                      rotate_left 1
                      · first
                          | (refine Or.inl ⟨by rfl, ?_⟩; intro w9 hSw; have e9_0 := Bel.keep hSw e4; have e9_1 := Bel.keep hSw e4'; have e9_2 := Bel.keep hSw f0; have e9_3 := Bel.keep hSw f1; have e9_4 := Bel.keep hSw f2; have e9_5 := Bel.keep hSw f3; have e9_6 := Bel.keep hSw f4; have e9_7 := Bel.keep hSw f5; have e9_8 := Bel.keep hSw m0; have e9_9 := Bel.keep hSw m1; have e9_10 := Bel.keep hSw m2; have e9_11 := Bel.keep hSw m3; have e9_12 := Bel.keep hSw m4; have e9_13 := Bel.keep hSw m5; go_simp; (try with_reducible rfl); done)
                          | (refine Or.inr ⟨by rfl, ?_⟩; rfl)
                      simp only [List.getElem_toArray, List.getElem_cons_succ, List.getElem_cons_zero, Act.put, List.setIfInBounds_toArray, List.set_cons_zero, List.set_cons_succ]
                      refine wpAnyH_ready (rs := [11]) (by kernel_rfl) (by simp) ?_
                      refine AllReadyH.cons (o := _) rfl (fun K hK => ?_) AllReadyH.nil
                      go_simp
                      go_at_call 12
                      refine (HC.out _ (HBW.out.trans (by (repeat (first | exact Bel.refl _ | assumption | refine Bel.to_drewN ?_ _ | refine Bel.to_drew ?_ | refine Bel.to_setCell ?_ (by first | exact Nat.le_refl _ | (simp; done) | (simp; omega) | omega) _ | refine Bel.to_alloc ?_ _ | refine Bel.trans ?_ (by assumption)))))).mono ?_
                      rintro e5 w5 ⟨rfl, hb5⟩
                      dsimp only
                      have hh5 : Bel wr w5 := Bel.trans (by (repeat (first | exact Bel.refl _ | assumption | refine Bel.to_drewN ?_ _ | refine Bel.to_drew ?_ | refine Bel.to_setCell ?_ (by first | exact Nat.le_refl _ | (simp; done) | (simp; omega) | omega) _ | refine Bel.to_alloc ?_ _ | refine Bel.trans ?_ (by assumption)))) hb5
                      refine hK.out _ _ hh5 (fun hHeld => ?_)
                      clear hK K
                      refine tk 12 (v := ?_) ?_ ?_
                      rotate_left 1
                      · first
                          | (refine Or.inl ⟨by rfl, ?_⟩; intro w9 hSw; go_simp; (try with_reducible rfl); done)
                          | (refine Or.inr ⟨by rfl, ?_⟩; rfl)
                      simp only [List.getElem_toArray, List.getElem_cons_succ, List.getElem_cons_zero, Act.put, List.setIfInBounds_toArray, List.set_cons_zero, List.set_cons_succ]
                      refine wpAnyH_done (by kernel_rfl) ?_ _
                      have HB5 := Lib.hid (HBJ.out.trans hh5)
                      clear hHeld hb5 hh5 HC f0 f1 f2 f3 f4 f5 m0 m1 m2 m3 m4 m5 e4 e4'
                      cases Q with
                      | true =>
                        have HX2 : Hid (samesN false (ks.drop (j + 1)) (ks'.drop (j + 1)) = R) := Lib.hid (by rw [← HRK.out]; rfl)
                        clear HRK HRJ
                        go_wp2_with fail
                        exact ⟨⟨j + 1, by go_num, by omega, HX2, HB5⟩, by simp [intOf]; omega⟩
                      | false =>
                        have HF : Hid (R = false) := Lib.hid (by rw [← HRK.out]; rfl)
                        clear HRK HRJ
                        go_wp2_with fail
                        go_ret
                        exact ⟨ret_bool (by rw [HF.out]), L1.out.trans HB5.out⟩
                    · have hlti : ¬ ((j : Int) < kn) := by omega
                      have HF : Hid (R = true) := Lib.hid (by have := HRJ.out; rw [List.drop_eq_nil_of_le (by have := HKN.out; omega), List.drop_eq_nil_of_le (by have := HMN.out; omega), samesN] at this; exact this.symm)
                      clear HRJ
                      go_wp2_with fail
                      go_ret
                      exact ⟨ret_bool (by rw [HF.out]), L1.out.trans HBJ.out⟩
            | true =>
              have hPt : P = true := by cases P <;> simp_all
              subst hPt
              have e1 : (T != T') = false := by unfold bne; rw [hP]; rfl
              go_enter Tryd.func12, Tryd.ntmps12
              go_upto_region 1 with fail
              rw [show w.alloc (.cells #[.int .i64 T, .string sp, .string lo, .slice aa an ac, .slice ka kn kc, .string tx] 27) = V0 from HV0.out, show V0.alloc (.cells #[.int .i64 T', .string sp', .string lo', .slice ba an bc, .slice ma kn mc, .string tx'] 27) = V1 from HV1.out]
              clear HV0 HV1
              go_wp2_with fail
              go_loopw [7] (fun i wr => ∃ (j : Nat), i = .int .i64 j ∧ j ≤ an ∧ Hid (al.take j = al'.take j) ∧ Hid (Bel V1 wr)) (fun i _ => an - (intOf i).toNat)
              case atStart => exact ⟨0, rfl, Nat.zero_le _, Lib.hid rfl, Lib.hid (Bel.refl _)⟩
              case round =>
                obtain ⟨j, rfl, hj, HTJ, HBJ⟩ := hrel
                by_cases hlt : j < an
                · have hlti : (j : Int) < an := by omega
                  obtain ⟨u, hu⟩ : ∃ u, al[j]? = some u := ⟨_, List.getElem?_eq_getElem (by have := HAN.out; omega)⟩
                  obtain ⟨v, hv⟩ : ∃ v, al'[j]? = some v := ⟨_, List.getElem?_eq_getElem (by have := HBN.out; omega)⟩
                  obtain ⟨b1, o1, rfl, g0, g1, g2⟩ := HA.out j u hu
                  obtain ⟨b2, o2, rfl, k0, k1, k2⟩ := HA'.out j v hv
                  have hbw := L1.out.trans HBJ.out
                  have f0 := hbw.keep g0
                  have f1 := hbw.keep g1
                  have f2 := hbw.keep g2
                  have m0 := hbw.keep k0
                  have m1 := hbw.keep k1
                  have m2 := hbw.keep k2
                  have e3 := HBJ.out.keep c3
                  have e3' := HBJ.out.keep d3
                  have hat := fun W => neq_at u v W
                  obtain ⟨Q, hQ⟩ : ∃ Q, atEq u v = Q := ⟨_, rfl⟩
                  rw [hQ] at hat
                  have htk1 : al.take (j + 1) = al.take j ++ [u] := by rw [List.take_add_one, hu]; rfl
                  have htk2 : al'.take (j + 1) = al'.take j ++ [v] := by rw [List.take_add_one, hv]; rfl
                  cases Q with
                  | true =>
                    have HT2 : Hid (al.take (j + 1) = al'.take (j + 1)) := Lib.hid (by rw [htk1, htk2, HTJ.out, of_decide_eq_true hQ])
                    obtain ⟨ua, ub, uc⟩ := u
                    obtain ⟨va, vb, vc⟩ := v
                    dsimp only at f0 f1 f2 m0 m1 m2 hat
                    clear g0 g1 g2 k0 k1 k2 hu hv hbw htk1 htk2 hQ
                    go_upto_region 6 with fail
                    go_quiet (fail)
                    go_wp2_with fail
                    exact ⟨⟨j + 1, by go_num, by omega, HT2, Lib.hid (HBJ.out.trans (Bel.drewN _ _))⟩, by simp [intOf]; omega⟩
                  | false =>
                    have HF : Hid (R = false) := Lib.hid (by
                      rw [HS3.out, decide_eq_false (fun e => by
                        rw [e, hv] at hu
                        injection hu with hu
                        exact of_decide_eq_false hQ hu.symm)]
                      rfl)
                    obtain ⟨ua, ub, uc⟩ := u
                    obtain ⟨va, vb, vc⟩ := v
                    dsimp only at f0 f1 f2 m0 m1 m2 hat
                    clear g0 g1 g2 k0 k1 k2 hu hv hbw htk1 htk2 hQ
                    go_upto_region 6 with fail
                    go_quiet (fail)
                    go_wp2_with fail
                    go_ret
                    exact ⟨ret_bool (by rw [HF.out]), (L1.out.trans HBJ.out).trans (Bel.drewN _ _)⟩
                · have hlti : ¬ ((j : Int) < an) := by omega
                  have HAL : Hid (al = al') := Lib.hid (by have := HTJ.out; rwa [List.take_of_length_le (by have := HAN.out; omega), List.take_of_length_le (by have := HBN.out; omega)] at this)
                  have HS4 : Hid (samesN true (ks.drop 0) (ks'.drop 0) = R) := Lib.hid (by rw [HS3.out, decide_eq_true HAL.out, List.drop_zero, List.drop_zero]; rfl)
                  have e3 := HBJ.out.keep c3
                  clear HTJ
                  go_wp2_with fail
                  go_loopw [8] (fun i wr => ∃ (j : Nat), i = .int .i64 j ∧ j ≤ kn ∧ Hid (samesN true (ks.drop j) (ks'.drop j) = R) ∧ Hid (Bel V1 wr)) (fun i _ => kn - (intOf i).toNat)
                  case atStart => exact ⟨0, rfl, Nat.zero_le _, HS4, HBJ⟩
                  case round =>
                    obtain ⟨j, rfl, hj, HRJ, HBJ⟩ := hrel
                    have e4 := HBJ.out.keep c4
                    have e4' := HBJ.out.keep d4
                    by_cases hlt : j < kn
                    · have hlti : (j : Int) < kn := by omega
                      obtain ⟨u, hu⟩ : ∃ u, ks[j]? = some u := ⟨_, List.getElem?_eq_getElem (by have := HKN.out; omega)⟩
                      obtain ⟨v, hv⟩ : ∃ v, ks'[j]? = some v := ⟨_, List.getElem?_eq_getElem (by have := HMN.out; omega)⟩
                      obtain ⟨b1, o1, uaa, uan, uac, uka, ukn, ukc, rfl, g0, g1, g2, g3, g4, g5, hun⟩ := HK.out j u hu
                      obtain ⟨b2, o2, vaa, van, vac, vka, vkn, vkc, rfl, k0, k1, k2, k3, k4, k5, hvn⟩ := HK'.out j v hv
                      have hbw := L1.out.trans HBJ.out
                      have f0 := hbw.keep g0
                      have f1 := hbw.keep g1
                      have f2 := hbw.keep g2
                      have f3 := hbw.keep g3
                      have f4 := hbw.keep g4
                      have f5 := hbw.keep g5
                      have m0 := hbw.keep k0
                      have m1 := hbw.keep k1
                      have m2 := hbw.keep k2
                      have m3 := hbw.keep k3
                      have m4 := hbw.keep k4
                      have m5 := hbw.keep k5
                      have hrj := HRJ.out
                      rw [drop_tail hu, drop_tail hv, samesN] at hrj
                      have HC := Lib.hid fun W (hW : Bel w W) => HX.out u v (List.mem_of_getElem? hu) (List.mem_of_getElem? hv) _ _ _ _ W hW (NdAt.bel hW u hun) (NdAt.bel hW v hvn)
                      unfold ndV at HC
                      obtain ⟨Q, hQ⟩ : ∃ Q, sameN true u v = Q := ⟨_, rfl⟩
                      rw [hQ] at HC hrj
                      have HRK := Lib.hid hrj
                      have HBW := Lib.hid hbw
                      clear g0 g1 g2 g3 g4 g5 k0 k1 k2 k3 k4 k5 hu hv hun hvn hbw hrj hQ
                      go_upto_region 11 with fail
                      refine wp_region_held_drew (S := fun w' => Bel wr w') (by kernel_rfl) (by (repeat (first | exact Bel.refl _ | assumption | refine Bel.to_drewN ?_ _ | refine Bel.to_drew ?_ | refine Bel.to_setCell ?_ (by first | exact Nat.le_refl _ | (simp; done) | (simp; omega) | omega) _ | refine Bel.to_alloc ?_ _ | refine Bel.trans ?_ (by assumption)))) (fun hHeld => ?_)
                      refine tk 0 (v := ?_) ?_ ?_
                      rotate_left 1
                      · first
                          | (refine Or.inl ⟨by rfl, ?_⟩; intro w9 hSw; have e9_0 := Bel.keep hSw e4; have e9_1 := Bel.keep hSw e4'; have e9_2 := Bel.keep hSw f0; have e9_3 := Bel.keep hSw f1; have e9_4 := Bel.keep hSw f2; have e9_5 := Bel.keep hSw f3; have e9_6 := Bel.keep hSw f4; have e9_7 := Bel.keep hSw f5; have e9_8 := Bel.keep hSw m0; have e9_9 := Bel.keep hSw m1; have e9_10 := Bel.keep hSw m2; have e9_11 := Bel.keep hSw m3; have e9_12 := Bel.keep hSw m4; have e9_13 := Bel.keep hSw m5; go_simp; (try with_reducible rfl); done)
                          | (refine Or.inr ⟨by rfl, ?_⟩; rfl)
                      simp only [List.getElem_toArray, List.getElem_cons_zero, Act.put, List.setIfInBounds_toArray, List.set_cons_zero, List.set_cons_succ]
                      refine tk 1 (v := ?_) ?_ ?_
                      rotate_left 1
                      · first
                          | (refine Or.inl ⟨by rfl, ?_⟩; intro w9 hSw; have e9_0 := Bel.keep hSw e4; have e9_1 := Bel.keep hSw e4'; have e9_2 := Bel.keep hSw f0; have e9_3 := Bel.keep hSw f1; have e9_4 := Bel.keep hSw f2; have e9_5 := Bel.keep hSw f3; have e9_6 := Bel.keep hSw f4; have e9_7 := Bel.keep hSw f5; have e9_8 := Bel.keep hSw m0; have e9_9 := Bel.keep hSw m1; have e9_10 := Bel.keep hSw m2; have e9_11 := Bel.keep hSw m3; have e9_12 := Bel.keep hSw m4; have e9_13 := Bel.keep hSw m5; go_simp; (try with_reducible rfl); done)
                          | (refine Or.inr ⟨by rfl, ?_⟩; rfl)
                      simp only [List.getElem_toArray, List.getElem_cons_succ, List.getElem_cons_zero, Act.put, List.setIfInBounds_toArray, List.set_cons_zero, List.set_cons_succ]
                      refine tk 2 (v := ?_) ?_ ?_
                      rotate_left 1
                      · first
                          | (refine Or.inl ⟨by rfl, ?_⟩; intro w9 hSw; have e9_0 := Bel.keep hSw e4; have e9_1 := Bel.keep hSw e4'; have e9_2 := Bel.keep hSw f0; have e9_3 := Bel.keep hSw f1; have e9_4 := Bel.keep hSw f2; have e9_5 := Bel.keep hSw f3; have e9_6 := Bel.keep hSw f4; have e9_7 := Bel.keep hSw f5; have e9_8 := Bel.keep hSw m0; have e9_9 := Bel.keep hSw m1; have e9_10 := Bel.keep hSw m2; have e9_11 := Bel.keep hSw m3; have e9_12 := Bel.keep hSw m4; have e9_13 := Bel.keep hSw m5; go_simp; (try with_reducible rfl); done)
                          | (refine Or.inr ⟨by rfl, ?_⟩; rfl)
                      simp only [List.getElem_toArray, List.getElem_cons_succ, List.getElem_cons_zero, Act.put, List.setIfInBounds_toArray, List.set_cons_zero, List.set_cons_succ]
                      refine tk 3 (v := ?_) ?_ ?_
                      rotate_left 1
                      · first
                          | (refine Or.inl ⟨by rfl, ?_⟩; intro w9 hSw; have e9_0 := Bel.keep hSw e4; have e9_1 := Bel.keep hSw e4'; have e9_2 := Bel.keep hSw f0; have e9_3 := Bel.keep hSw f1; have e9_4 := Bel.keep hSw f2; have e9_5 := Bel.keep hSw f3; have e9_6 := Bel.keep hSw f4; have e9_7 := Bel.keep hSw f5; have e9_8 := Bel.keep hSw m0; have e9_9 := Bel.keep hSw m1; have e9_10 := Bel.keep hSw m2; have e9_11 := Bel.keep hSw m3; have e9_12 := Bel.keep hSw m4; have e9_13 := Bel.keep hSw m5; go_simp; (try with_reducible rfl); done)
                          | (refine Or.inr ⟨by rfl, ?_⟩; rfl)
                      simp only [List.getElem_toArray, List.getElem_cons_succ, List.getElem_cons_zero, Act.put, List.setIfInBounds_toArray, List.set_cons_zero, List.set_cons_succ]
                      refine tk 4 (v := ?_) ?_ ?_
                      rotate_left 1
                      · first
                          | (refine Or.inl ⟨by rfl, ?_⟩; intro w9 hSw; have e9_0 := Bel.keep hSw e4; have e9_1 := Bel.keep hSw e4'; have e9_2 := Bel.keep hSw f0; have e9_3 := Bel.keep hSw f1; have e9_4 := Bel.keep hSw f2; have e9_5 := Bel.keep hSw f3; have e9_6 := Bel.keep hSw f4; have e9_7 := Bel.keep hSw f5; have e9_8 := Bel.keep hSw m0; have e9_9 := Bel.keep hSw m1; have e9_10 := Bel.keep hSw m2; have e9_11 := Bel.keep hSw m3; have e9_12 := Bel.keep hSw m4; have e9_13 := Bel.keep hSw m5; go_simp; (try with_reducible rfl); done)
                          | (refine Or.inr ⟨by rfl, ?_⟩; rfl)
                      simp only [List.getElem_toArray, List.getElem_cons_succ, List.getElem_cons_zero, Act.put, List.setIfInBounds_toArray, List.set_cons_zero, List.set_cons_succ]
                      refine tk 5 (v := ?_) ?_ ?_
                      rotate_left 1
                      · first
                          | (refine Or.inl ⟨by rfl, ?_⟩; intro w9 hSw; have e9_0 := Bel.keep hSw e4; have e9_1 := Bel.keep hSw e4'; have e9_2 := Bel.keep hSw f0; have e9_3 := Bel.keep hSw f1; have e9_4 := Bel.keep hSw f2; have e9_5 := Bel.keep hSw f3; have e9_6 := Bel.keep hSw f4; have e9_7 := Bel.keep hSw f5; have e9_8 := Bel.keep hSw m0; have e9_9 := Bel.keep hSw m1; have e9_10 := Bel.keep hSw m2; have e9_11 := Bel.keep hSw m3; have e9_12 := Bel.keep hSw m4; have e9_13 := Bel.keep hSw m5; go_simp; (try with_reducible rfl); done)
                          | (refine Or.inr ⟨by rfl, ?_⟩; rfl)
                      simp only [List.getElem_toArray, List.getElem_cons_succ, List.getElem_cons_zero, Act.put, List.setIfInBounds_toArray, List.set_cons_zero, List.set_cons_succ]
                      refine tk 6 (v := ?_) ?_ ?_
                      rotate_left 1
                      · first
                          | (refine Or.inl ⟨by rfl, ?_⟩; intro w9 hSw; have e9_0 := Bel.keep hSw e4; have e9_1 := Bel.keep hSw e4'; have e9_2 := Bel.keep hSw f0; have e9_3 := Bel.keep hSw f1; have e9_4 := Bel.keep hSw f2; have e9_5 := Bel.keep hSw f3; have e9_6 := Bel.keep hSw f4; have e9_7 := Bel.keep hSw f5; have e9_8 := Bel.keep hSw m0; have e9_9 := Bel.keep hSw m1; have e9_10 := Bel.keep hSw m2; have e9_11 := Bel.keep hSw m3; have e9_12 := Bel.keep hSw m4; have e9_13 := Bel.keep hSw m5; go_simp; (try with_reducible rfl); done)
                          | (refine Or.inr ⟨by rfl, ?_⟩; rfl)
                      simp only [List.getElem_toArray, List.getElem_cons_succ, List.getElem_cons_zero, Act.put, List.setIfInBounds_toArray, List.set_cons_zero, List.set_cons_succ]
                      refine tk 7 (v := ?_) ?_ ?_
                      rotate_left 1
                      · first
                          | (refine Or.inl ⟨by rfl, ?_⟩; intro w9 hSw; have e9_0 := Bel.keep hSw e4; have e9_1 := Bel.keep hSw e4'; have e9_2 := Bel.keep hSw f0; have e9_3 := Bel.keep hSw f1; have e9_4 := Bel.keep hSw f2; have e9_5 := Bel.keep hSw f3; have e9_6 := Bel.keep hSw f4; have e9_7 := Bel.keep hSw f5; have e9_8 := Bel.keep hSw m0; have e9_9 := Bel.keep hSw m1; have e9_10 := Bel.keep hSw m2; have e9_11 := Bel.keep hSw m3; have e9_12 := Bel.keep hSw m4; have e9_13 := Bel.keep hSw m5; go_simp; (try with_reducible rfl); done)
                          | (refine Or.inr ⟨by rfl, ?_⟩; rfl)
                      simp only [List.getElem_toArray, List.getElem_cons_succ, List.getElem_cons_zero, Act.put, List.setIfInBounds_toArray, List.set_cons_zero, List.set_cons_succ]
                      refine tk 8 (v := ?_) ?_ ?_
                      rotate_left 1
                      · first
                          | (refine Or.inl ⟨by rfl, ?_⟩; intro w9 hSw; have e9_0 := Bel.keep hSw e4; have e9_1 := Bel.keep hSw e4'; have e9_2 := Bel.keep hSw f0; have e9_3 := Bel.keep hSw f1; have e9_4 := Bel.keep hSw f2; have e9_5 := Bel.keep hSw f3; have e9_6 := Bel.keep hSw f4; have e9_7 := Bel.keep hSw f5; have e9_8 := Bel.keep hSw m0; have e9_9 := Bel.keep hSw m1; have e9_10 := Bel.keep hSw m2; have e9_11 := Bel.keep hSw m3; have e9_12 := Bel.keep hSw m4; have e9_13 := Bel.keep hSw m5; go_simp; (try with_reducible rfl); done)
                          | (refine Or.inr ⟨by rfl, ?_⟩; rfl)
                      simp only [List.getElem_toArray, List.getElem_cons_succ, List.getElem_cons_zero, Act.put, List.setIfInBounds_toArray, List.set_cons_zero, List.set_cons_succ]
                      refine tk 9 (v := ?_) ?_ ?_
                      rotate_left 1
                      · first
                          | (refine Or.inl ⟨by rfl, ?_⟩; intro w9 hSw; have e9_0 := Bel.keep hSw e4; have e9_1 := Bel.keep hSw e4'; have e9_2 := Bel.keep hSw f0; have e9_3 := Bel.keep hSw f1; have e9_4 := Bel.keep hSw f2; have e9_5 := Bel.keep hSw f3; have e9_6 := Bel.keep hSw f4; have e9_7 := Bel.keep hSw f5; have e9_8 := Bel.keep hSw m0; have e9_9 := Bel.keep hSw m1; have e9_10 := Bel.keep hSw m2; have e9_11 := Bel.keep hSw m3; have e9_12 := Bel.keep hSw m4; have e9_13 := Bel.keep hSw m5; go_simp; (try with_reducible rfl); done)
                          | (refine Or.inr ⟨by rfl, ?_⟩; rfl)
                      simp only [List.getElem_toArray, List.getElem_cons_succ, List.getElem_cons_zero, Act.put, List.setIfInBounds_toArray, List.set_cons_zero, List.set_cons_succ]
                      refine tk 10 (v := ?_) ?_ ?_
                      rotate_left 1
                      · first
                          | (refine Or.inl ⟨by rfl, ?_⟩; intro w9 hSw; have e9_0 := Bel.keep hSw e4; have e9_1 := Bel.keep hSw e4'; have e9_2 := Bel.keep hSw f0; have e9_3 := Bel.keep hSw f1; have e9_4 := Bel.keep hSw f2; have e9_5 := Bel.keep hSw f3; have e9_6 := Bel.keep hSw f4; have e9_7 := Bel.keep hSw f5; have e9_8 := Bel.keep hSw m0; have e9_9 := Bel.keep hSw m1; have e9_10 := Bel.keep hSw m2; have e9_11 := Bel.keep hSw m3; have e9_12 := Bel.keep hSw m4; have e9_13 := Bel.keep hSw m5; go_simp; (try with_reducible rfl); done)
                          | (refine Or.inr ⟨by rfl, ?_⟩; rfl)
                      simp only [List.getElem_toArray, List.getElem_cons_succ, List.getElem_cons_zero, Act.put, List.setIfInBounds_toArray, List.set_cons_zero, List.set_cons_succ]
                      refine wpAnyH_ready (rs := [11]) (by kernel_rfl) (by simp) ?_
                      refine AllReadyH.cons (o := _) rfl (fun K hK => ?_) AllReadyH.nil
                      go_simp
                      go_at_call 12
                      refine (HC.out _ (HBW.out.trans (by (repeat (first | exact Bel.refl _ | assumption | refine Bel.to_drewN ?_ _ | refine Bel.to_drew ?_ | refine Bel.to_setCell ?_ (by first | exact Nat.le_refl _ | (simp; done) | (simp; omega) | omega) _ | refine Bel.to_alloc ?_ _ | refine Bel.trans ?_ (by assumption)))))).mono ?_
                      rintro e5 w5 ⟨rfl, hb5⟩
                      dsimp only
                      have hh5 : Bel wr w5 := Bel.trans (by (repeat (first | exact Bel.refl _ | assumption | refine Bel.to_drewN ?_ _ | refine Bel.to_drew ?_ | refine Bel.to_setCell ?_ (by first | exact Nat.le_refl _ | (simp; done) | (simp; omega) | omega) _ | refine Bel.to_alloc ?_ _ | refine Bel.trans ?_ (by assumption)))) hb5
                      refine hK.out _ _ hh5 (fun hHeld => ?_)
                      clear hK K
                      refine tk 12 (v := ?_) ?_ ?_
                      rotate_left 1
                      · first
                          | (refine Or.inl ⟨by rfl, ?_⟩; intro w9 hSw; go_simp; (try with_reducible rfl); done)
                          | (refine Or.inr ⟨by rfl, ?_⟩; rfl)
                      simp only [List.getElem_toArray, List.getElem_cons_succ, List.getElem_cons_zero, Act.put, List.setIfInBounds_toArray, List.set_cons_zero, List.set_cons_succ]
                      refine wpAnyH_done (by kernel_rfl) ?_ _
                      have HB5 := Lib.hid (HBJ.out.trans hh5)
                      clear hHeld hb5 hh5 HC f0 f1 f2 f3 f4 f5 m0 m1 m2 m3 m4 m5 e4 e4'
                      cases Q with
                      | true =>
                        have HX2 : Hid (samesN true (ks.drop (j + 1)) (ks'.drop (j + 1)) = R) := Lib.hid (by rw [← HRK.out]; rfl)
                        clear HRK HRJ
                        go_wp2_with fail
                        exact ⟨⟨j + 1, by go_num, by omega, HX2, HB5⟩, by simp [intOf]; omega⟩
                      | false =>
                        have HF : Hid (R = false) := Lib.hid (by rw [← HRK.out]; rfl)
                        clear HRK HRJ
                        go_wp2_with fail
                        go_ret
                        exact ⟨ret_bool (by rw [HF.out]), L1.out.trans HB5.out⟩
                    · have hlti : ¬ ((j : Int) < kn) := by omega
                      have HF : Hid (R = true) := Lib.hid (by have := HRJ.out; rw [List.drop_eq_nil_of_le (by have := HKN.out; omega), List.drop_eq_nil_of_le (by have := HMN.out; omega), samesN] at this; exact this.symm)
                      clear HRJ
                      go_wp2_with fail
                      go_ret
                      exact ⟨ret_bool (by rw [HF.out]), L1.out.trans HBJ.out⟩
        · have e1 : ((kn : Int) == mn) = false := beq_eq_false_iff_ne.2 (by omega)
          have e2 : ((kn : Int) != mn) = true := bne_iff_ne.2 (by omega)
          have HF : Hid (R = false) := Lib.hid (by
            rw [HS.out]
            cases hs : samesN pl ks ks' with
            | false => simp
            | true => exact absurd (HKN.out.symm.trans ((sames_len hs).trans HMN.out)) hM)
          clear HS hM
          go_enter Tryd.func12, Tryd.ntmps12
          go_upto_region 1 with fail
          rw [show w.alloc (.cells #[.int .i64 T, .string sp, .string lo, .slice aa an ac, .slice ka kn kc, .string tx] 27) = V0 from HV0.out, show V0.alloc (.cells #[.int .i64 T', .string sp', .string lo', .slice ba an bc, .slice ma mn mc, .string tx'] 27) = V1 from HV1.out]
          clear HV0 HV1
          go_wp2_with fail
          go_ret
          exact ⟨ret_bool (by rw [HF.out]), L1.out⟩
      · have e1 : ((an : Int) == bn) = false := beq_eq_false_iff_ne.2 (by omega)
        have e2 : ((an : Int) != bn) = true := bne_iff_ne.2 (by omega)
        have HF : Hid (R = false) := Lib.hid (by
          rw [HS.out]
          have : ¬ al = al' := fun e => hA (HAN.out.symm.trans ((congrArg List.length e).trans HBN.out))
          rw [decide_eq_false this]
          simp)
        clear HS hA
        go_enter Tryd.func12, Tryd.ntmps12
        go_upto_region 1 with fail
        rw [show w.alloc (.cells #[.int .i64 T, .string sp, .string lo, .slice aa an ac, .slice ka kn kc, .string tx] 27) = V0 from HV0.out, show V0.alloc (.cells #[.int .i64 T', .string sp', .string lo', .slice ba bn bc, .slice ma mn mc, .string tx'] 27) = V1 from HV1.out]
        clear HV0 HV1
        go_wp2_with fail
        go_ret
        exact ⟨ret_bool (by rw [HF.out]), L1.out⟩
theorem rsame_c : ∀ (f : Nat) (x y : Nd), x.bulk ≤ f → f ≤ 1073741824 → ∀ (xa xk ya yk : Value) w (pl : Bool), NdAt w x xa xk → NdAt w y ya yk → y.bulk ≤ 1073741824 → Calls Tryd.prog 12 #[ndV x xa xk, ndV y ya yk, .bool pl] w (RetBel (.bool (sameN pl x y)) w) := by
  intro f
  induction f with
  | zero => intro x y hx; have := nd_pos x; omega
  | succ f ih => exact fun x y hx hf xa xk ya yk w pl h1 h2 h3 => rsameF_c f (fun x' y' hx' xa' xk' ya' yk' w' pl' g1 g2 g3 => ih x' y' hx' (by omega) xa' xk' ya' yk' w' pl' g1 g2 g3) x y hx (by omega) xa xk ya yk w pl h1 h2 h3
end Go.Proofs.YtojeclfcgnamoaaDoor
