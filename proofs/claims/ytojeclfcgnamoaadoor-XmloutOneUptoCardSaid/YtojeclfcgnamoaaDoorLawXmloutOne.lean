/-
  XmloutOne: the walk.
-/
import Derived.Test.YtojeclfcgnamoaaDoorXDE
import Derived.Test.YtojeclfcgnamoaaDoorRB
import Derived.Test.YtojeclfcgnamoaaDoorXB
import Derived.Deep.RegionWith
namespace Go.Proofs.YtojeclfcgnamoaaDoor
open Go.RowKit Go.Maps

theorem kids_two {W : World} {b : Nat} {x y : Nd} {aa ka ba la : Option Addr} {an ac kn kc bn bc ln lc : Nat} (h : Blk W b 27 [.int .i64 x.t, .string x.sp, .string x.lo, .slice aa an ac, .slice ka kn kc, .string x.tx, .int .i64 y.t, .string y.sp, .string y.lo, .slice ba bn bc, .slice la ln lc, .string y.tx])
    (hx : NdAt W x (.slice aa an ac) (.slice ka kn kc)) (hy : NdAt W y (.slice ba bn bc) (.slice la ln lc)) : KidsAt W (some ⟨b, 0, none⟩) [x, y] := fun i z hz => by
  cases i with
  | zero =>
    simp at hz
    subst hz
    exact ⟨b, 0, aa, an, ac, ka, kn, kc, rfl, h.at 0, h.at 1, h.at 2, h.at 3, h.at 4, h.at 5, hx⟩
  | succ i =>
    cases i with
    | zero =>
      simp at hz
      subst hz
      exact ⟨b, 0, ba, bn, bc, la, ln, lc, rfl, h.at 6, h.at 7, h.at 8, h.at 9, h.at 10, h.at 11, hy⟩
    | succ i => simp at hz
def IsNd (w : World) (v : Value) (X : Nd) : Prop := ∃ a b, v = ndV X a b ∧ NdAt w X a b
theorem IsNd.bel {w w' : World} {v : Value} {X : Nd} (hb : Bel w w') (h : IsNd w v X) : IsNd w' v X := by
  obtain ⟨a, b, h1, h2⟩ := h
  exact ⟨a, b, h1, NdAt.bel hb X h2⟩
set_option maxRecDepth 100000 in
set_option maxHeartbeats 16000000 in
theorem xmloutOne_walk {W : World} (x : Nd) (va vk : Value) (h : NdAt W x va vk) (hm : x.bulk ≤ 1048576) (y : Nd) (ua uk : Value) (h' : NdAt W y ua uk) (hm' : y.bulk ≤ 1048576) (hE : EnvT W) : Calls Tryd.prog 4 #[ndV x va vk, ndV y ua uk] W (RetBel (.bool true) W) := by
  have HAL := Lib.hid fun V (hV : Bel W V) => xalive_c V (hE.bel hV)
  have HNA := Lib.hid fun V (hV : Bel W V) => NdAt.bel hV x h
  have HNB := Lib.hid fun V (hV : Bel W V) => NdAt.bel hV y h'
  have HE := Lib.hid fun V (hV : Bel W V) => hE.bel hV
  obtain ⟨aa, ka, an, ac, kn, kc, rfl, rfl, _⟩ := h.opened
  obtain ⟨ba, la, bn, bc, ln, lc, rfl, rfl, _⟩ := h'.opened
  obtain ⟨V0, h0, q0, l0, s0⟩ := alloc_step W 27 [.int .i64 x.t, .string x.sp, .string x.lo, .slice aa an ac, .slice ka kn kc, .string x.tx]
  obtain ⟨V1, h1, q1, l1, s1⟩ := alloc_step V0 27 [.int .i64 y.t, .string y.sp, .string y.lo, .slice ba bn bc, .slice la ln lc, .string y.tx]
  rw [s0] at q1
  have HQ0 := Lib.hid (q0.bel l1)
  have HQ1 := Lib.hid q1
  have L1 := Lib.hid (l0.trans l1)
  have HV0 := Lib.hid h0
  have HV1 := Lib.hid h1
  have HM := Lib.hid (And.intro hm hm')
  unfold ndV
  clear h0 h1 q0 q1 l0 l1 s0 s1 h h' hm hm' hE
  go_enter Tryd.func4, Tryd.ntmps4
  go_upto_region 1 with fail
  rw [show W.alloc (.cells #[.int .i64 x.t, .string x.sp, .string x.lo, .slice aa an ac, .slice ka kn kc, .string x.tx] 27) = V0 from HV0.out]
  rw [show V0.alloc (.cells #[.int .i64 y.t, .string y.sp, .string y.lo, .slice ba bn bc, .slice la ln lc, .string y.tx] 27) = V1 from HV1.out]
  clear HV0 HV1
  go_wp2_with fail
  refine (HAL.out _ L1.out).mono ?_
  rintro e2 w2 ⟨rfl, hb2⟩
  have Q02 := HQ0.out.bel hb2
  have Q12 := HQ1.out.bel hb2
  have f0 := Q02.at 0
  have f1 := Q02.at 1
  have f2 := Q02.at 2
  have f3 := Q02.at 3
  have f4 := Q02.at 4
  have f5 := Q02.at 5
  have g0 := Q12.at 0
  have g1 := Q12.at 1
  have g2 := Q12.at 2
  have g3 := Q12.at 3
  have g4 := Q12.at 4
  have g5 := Q12.at 5
  obtain ⟨V2, h2, q2, l2, s2⟩ := alloc_step w2 27 [.int .i64 x.t, .string x.sp, .string x.lo, .slice aa an ac, .slice ka kn kc, .string x.tx, .int .i64 y.t, .string y.sp, .string y.lo, .slice ba bn bc, .slice la ln lc, .string y.tx]
  have HG := Lib.hid (great_c [x, y] (some ⟨w2.heap.size, 0, none⟩) 2 2 V2 rfl (by omega) (by simp; have := HM.out; omega) (kids_two q2 (HNA.out _ ((L1.out.trans hb2).trans l2)) (HNB.out _ ((L1.out.trans hb2).trans l2))))
  have HV2 := Lib.hid h2
  have HB2 := Lib.hid ((L1.out.trans hb2).trans l2)
  have HB12 := Lib.hid (hb2.trans l2)
  clear hb2 h2 q2 l2 s2 Q02 Q12
  go_wp2_with fail
  rw [show w2.alloc (.cells #[.int .i64 x.t, .string x.sp, .string x.lo, .slice aa an ac, .slice ka kn kc, .string x.tx, .int .i64 y.t, .string y.sp, .string y.lo, .slice ba bn bc, .slice la ln lc, .string y.tx] 27) = V2 from HV2.out]
  clear HV2
  refine HG.out.mono ?_
  rintro e3 w3 ⟨rfl, hb3⟩
  have Q03 := Lib.hid (HQ0.out.bel (HB12.out.trans hb3))
  have Q13 := Lib.hid (HQ1.out.bel (HB12.out.trans hb3))
  have HB3 := Lib.hid (HB2.out.trans hb3)
  clear HG hb3 f0 f1 f2 f3 f4 f5 g0 g1 g2 g3 g4 g5 HB12 HB2
  by_cases hgr : greatN [x, y] = 0
  · have hx4 := greatN_zero hgr x (by simp)
    have hy4 := greatN_zero hgr y (by simp)
    obtain ⟨G, hG⟩ : ∃ g, greatN [x, y] = g := ⟨_, rfl⟩
    rw [hG] at hgr ⊢
    subst hgr
    clear hG
    have c0 := Q03.out.at 0
    have c1 := Q03.out.at 1
    have c2 := Q03.out.at 2
    have c3 := Q03.out.at 3
    have c4 := Q03.out.at 4
    have c5 := Q03.out.at 5
    have HWX := Lib.hid (xWrite_c x _ _ w3 (by omega) (HE.out _ HB3.out) (HNA.out _ HB3.out))
    unfold ndV at HWX
    go_wp2_with fail
    refine HWX.out.mono ?_
    rintro e4 w4 ⟨⟨v, rfl, hv⟩, hb4⟩
    have Q04 := Lib.hid (Q03.out.bel hb4)
    have Q14 := Lib.hid (Q13.out.bel hb4)
    have HB4 := Lib.hid (HB3.out.trans hb4)
    have HVX := Lib.hid hv
    clear HWX c0 c1 c2 c3 c4 c5 hv hb4
    have d0 := Q14.out.at 0
    have d1 := Q14.out.at 1
    have d2 := Q14.out.at 2
    have d3 := Q14.out.at 3
    have d4 := Q14.out.at 4
    have d5 := Q14.out.at 5
    have HWY := Lib.hid (xWrite_c y _ _ w4 (by omega) (HE.out _ HB4.out) (HNB.out _ HB4.out))
    unfold ndV at HWY
    obtain ⟨K, hK⟩ : ∃ K, CheckN x = K := ⟨_, rfl⟩
    obtain ⟨F, hF⟩ : ∃ F, CheckN y = F := ⟨_, rfl⟩
    rw [hK] at HVX ⊢
    rw [hF] at HWY
    have HKF := Lib.hid (And.intro hK hF)
    clear hK hF
    go_wp2_with fail
    refine HWY.out.mono ?_
    rintro e5 w5 ⟨⟨u, rfl, hu⟩, hb5⟩
    have HVY := Lib.hid hu
    have HB45 := Lib.hid hb5
    have HB5 := Lib.hid (HB4.out.trans hb5)
    have Q05 := Q04.out.bel hb5
    have Q15 := Q14.out.bel hb5
    clear HWY d0 d1 d2 d3 d4 d5 hu hb5
    by_cases hk : K = 0
    · by_cases hf : F = 0
      · subst hk hf
        obtain ⟨hK, hF⟩ := HKF.out
        have hvx := (HVX.out.resolve_left fun e => e.1 rfl).2.bel HB45.out
        have hvy := (HVY.out.resolve_left fun e => e.1 rfl).2
        obtain ⟨wx, hwx⟩ : ∃ s, WriteN x = s := ⟨_, rfl⟩
        obtain ⟨wy, hwy⟩ : ∃ s, WriteN y = s := ⟨_, rfl⟩
        have hone := write_one hK hF
        rw [hwx, hwy] at hone
        rw [hwx] at hvx
        rw [hwy] at hvy
        have HCX := Lib.hid fun V (hV : Bel w5 V) => bytes_string V v wx (hvx.bel hV)
        have HCY := Lib.hid fun V (hV : Bel w5 V) => bytes_string V u wy (hvy.bel hV)
        have hle := lequal wx wy
        have HSX := Lib.hid fun V (hV : Bel w5 V) => rsort_c x _ _ V (by omega) (check_right hK).2.1 (HNA.out _ (HB5.out.trans hV))
        have HSY := Lib.hid fun V (hV : Bel w5 V) => rsort_c y _ _ V (by omega) (check_right hF).2.1 (HNB.out _ (HB5.out.trans hV))
        have HSM := Lib.hid fun V xa xk ya yk (g1 : NdAt V (sortN x) xa xk) (g2 : NdAt V (sortN y) ya yk) => rsame_c (sortN x).bulk (sortN x) (sortN y) (Nat.le_refl _) (by rw [sortN_bulk]; omega) xa xk ya yk V false g1 g2 (by rw [sortN_bulk]; omega)
        obtain ⟨D, hD⟩ : ∃ D, decide (wx = wy) = D := ⟨_, rfl⟩
        rw [hone] at HSM
        rw [hD] at HSM hle
        obtain ⟨X, hX⟩ : ∃ X, sortN x = X := ⟨_, rfl⟩
        obtain ⟨Y, hY⟩ : ∃ Y, sortN y = Y := ⟨_, rfl⟩
        rw [hX] at HSX HSM
        rw [hY] at HSY HSM
        obtain ⟨t1, ht1⟩ : ∃ t, x.t = t := ⟨_, rfl⟩
        obtain ⟨sp1, hsp1⟩ : ∃ t, x.sp = t := ⟨_, rfl⟩
        obtain ⟨lo1, hlo1⟩ : ∃ t, x.lo = t := ⟨_, rfl⟩
        obtain ⟨tx1, htx1⟩ : ∃ t, x.tx = t := ⟨_, rfl⟩
        obtain ⟨t2, ht2⟩ : ∃ t, y.t = t := ⟨_, rfl⟩
        obtain ⟨sp2, hsp2⟩ : ∃ t, y.sp = t := ⟨_, rfl⟩
        obtain ⟨lo2, hlo2⟩ : ∃ t, y.lo = t := ⟨_, rfl⟩
        obtain ⟨tx2, htx2⟩ : ∃ t, y.tx = t := ⟨_, rfl⟩
        have HSX2 : Hid (∀ V, Bel w5 V → Calls Tryd.prog 13 #[.agg #[.int .i64 t1, .string sp1, .string lo1, .slice aa an ac, .slice ka kn kc, .string tx1]] V fun r w' => ∃ v, r = .returned v ∧ IsNd w' v X ∧ Bel V w') := Lib.hid (by rw [← ht1, ← hsp1, ← hlo1, ← htx1]; exact fun V hV => (HSX.out V hV).mono (by rintro r w' ⟨a, b, g1, g2, g3⟩; exact ⟨_, g1, ⟨a, b, rfl, g2⟩, g3⟩))
        have HSY2 : Hid (∀ V, Bel w5 V → Calls Tryd.prog 13 #[.agg #[.int .i64 t2, .string sp2, .string lo2, .slice ba bn bc, .slice la ln lc, .string tx2]] V fun r w' => ∃ v, r = .returned v ∧ IsNd w' v Y ∧ Bel V w') := Lib.hid (by rw [← ht2, ← hsp2, ← hlo2, ← htx2]; exact fun V hV => (HSY.out V hV).mono (by rintro r w' ⟨a, b, g1, g2, g3⟩; exact ⟨_, g1, ⟨a, b, rfl, g2⟩, g3⟩))
        have HSM2 : Hid (∀ V v u, IsNd V v X → IsNd V u Y → Calls Tryd.prog 12 #[v, u, .bool false] V (RetBel (.bool D) V)) := Lib.hid fun V v u h1 h2 => by obtain ⟨a, b, rfl, g1⟩ := h1; obtain ⟨c, d, rfl, g2⟩ := h2; exact HSM.out V a b c d g1 g2
        rw [ht1, hsp1, hlo1, htx1, ht2, hsp2, hlo2, htx2]
        rw [ht1, hsp1, hlo1, htx1] at Q05
        rw [ht2, hsp2, hlo2, htx2] at Q15
        have c0 := Q05.at 0
        have c1 := Q05.at 1
        have c2 := Q05.at 2
        have c3 := Q05.at 3
        have c4 := Q05.at 4
        have c5 := Q05.at 5
        have d0 := Q15.at 0
        have d1 := Q15.at 1
        have d2 := Q15.at 2
        have d3 := Q15.at 3
        have d4 := Q15.at 4
        have d5 := Q15.at 5
        have HFIN := Lib.hid HB5.out
        have hdw := Bel.drew w5
        obtain ⟨vb, vn, vc, rfl, -⟩ := hvx
        obtain ⟨ub, un, uc, rfl, -⟩ := hvy
        clear hK hF hwx hwy hD hone Q05 Q15 HVX HVY HSX HSY HSM ht1 hsp1 hlo1 htx1 ht2 hsp2 hlo2 htx2 hX hY HKF HB45 HB5 HNA HNB HE HAL Q03 Q13 Q04 Q14 HB3 HB4 HM hx4 hy4 HQ0 HQ1 L1
        go_wp2_with fail
        refine wp_region_held_drew (S := fun w' => Bel w5 w') (by kernel_rfl) (by (repeat (first | exact Bel.refl _ | assumption | refine Bel.to_drewN ?_ _ | refine Bel.to_drew ?_ | refine Bel.to_setCell ?_ (by first | exact Nat.le_refl _ | (simp; done) | (simp; omega) | omega) _ | refine Bel.to_alloc ?_ _ | refine Bel.trans ?_ (by assumption)))) (fun hHeld => ?_)
        refine wpAnyH_take (i := 0) (oi := _) (v := ?_) rfl (by kernel_rfl) (by kernel_rfl) (by kernel_rfl) (fun _ _ _ h => h) ?_ (by assumption) ?_
        rotate_left 1
        · first
            | (refine Or.inl ⟨by rfl, ?_⟩; intro w9 hSw; (try dsimp only at hSw); have e9_0 := Bel.keep hSw c0; have e9_1 := Bel.keep hSw c1; have e9_2 := Bel.keep hSw c2; have e9_3 := Bel.keep hSw c3; have e9_4 := Bel.keep hSw c4; have e9_5 := Bel.keep hSw c5; go_simp; (try with_reducible rfl); done)
            | (refine Or.inr ⟨by rfl, ?_⟩; rfl)
        simp only [List.getElem_toArray, List.getElem_cons_zero, Act.put, List.setIfInBounds_toArray, List.set_cons_zero, List.set_cons_succ]
        refine wpAnyH_take (i := 2) (oi := _) (v := ?_) rfl (by kernel_rfl) (by kernel_rfl) (by kernel_rfl) (fun _ _ _ h => h) ?_ (by assumption) ?_
        rotate_left 1
        · first
            | (refine Or.inl ⟨by rfl, ?_⟩; intro w9 hSw; (try dsimp only at hSw); have e9_0 := Bel.keep hSw d0; have e9_1 := Bel.keep hSw d1; have e9_2 := Bel.keep hSw d2; have e9_3 := Bel.keep hSw d3; have e9_4 := Bel.keep hSw d4; have e9_5 := Bel.keep hSw d5; go_simp; (try with_reducible rfl); done)
            | (refine Or.inr ⟨by rfl, ?_⟩; rfl)
        simp only [List.getElem_toArray, List.getElem_cons_succ, List.getElem_cons_zero, Act.put, List.setIfInBounds_toArray, List.set_cons_zero, List.set_cons_succ]
        refine wpAnyH_ready (rs := [1]) (by kernel_rfl) (by simp) ?_
        refine AllReadyH.cons (o := _) rfl (fun K hK => ?_) AllReadyH.nil
        go_simp
        refine (HSX2.out _ hdw).mono ?_
        rintro e6 w6 ⟨nx, rfl, hxn, hb6⟩
        dsimp only
        have hr6 := hdw.trans hb6
        refine hK.out _ _ hr6 (fun hHeld => ?_)
        clear hK K
        refine wpAnyH_ready (rs := [3]) (by kernel_rfl) (by simp) ?_
        refine AllReadyH.cons (o := _) rfl (fun K hK => ?_) AllReadyH.nil
        go_simp
        refine (HSY2.out _ hr6).mono ?_
        rintro e7 w7 ⟨ny, rfl, hyn, hb7⟩
        dsimp only
        have hr7 := hr6.trans hb7
        refine hK.out _ _ hr7 (fun hHeld => ?_)
        clear hK K
        refine wpAnyH_ready (rs := [4]) (by kernel_rfl) (by simp) ?_
        refine AllReadyH.cons (o := _) rfl (fun K hK => ?_) AllReadyH.nil
        go_simp
        refine (HSM2.out _ _ _ (hxn.bel hb7) hyn).mono ?_
        rintro e8 w8 ⟨rfl, hb8⟩
        dsimp only
        have hr8 := hr7.trans hb8
        refine hK.out _ _ hr8 (fun hHeld => ?_)
        clear hK K
        refine wpAnyH_take (i := 5) (oi := _) (v := ?_) rfl (by kernel_rfl) (by kernel_rfl) (by kernel_rfl) (fun _ _ _ h => h) ?_ (by assumption) ?_
        rotate_left 1
        · first
            | (refine Or.inl ⟨by rfl, ?_⟩; intro w9 hSw; (try dsimp only at hSw); go_simp; (try with_reducible rfl); done)
            | (refine Or.inr ⟨by rfl, ?_⟩; rfl)
        simp only [List.getElem_toArray, List.getElem_cons_succ, List.getElem_cons_zero, Act.put, List.setIfInBounds_toArray, List.set_cons_zero, List.set_cons_succ]
        refine wpAnyH_done (by kernel_rfl) ?_ _
        have hcx := HCX.out w8 hr8
        have hcy := HCY.out w8 hr8
        have HB8 := Lib.hid (HFIN.out.trans hr8)
        clear hHeld hr6 hr7 hr8 hb6 hb7 hb8 hxn hyn
        cases D <;>
        · go_wp2_with fail
          go_ret
          exact ⟨rfl, HB8.out⟩
      · subst hk
        have hfi : ¬ ((F : Int) = 0) := by omega
        go_wp2_with fail
        go_ret
        exact ⟨rfl, HB5.out⟩
    · have hki : ¬ ((K : Int) = 0) := by omega
      go_wp2_with fail
      go_ret
      exact ⟨rfl, HB5.out⟩
  · obtain ⟨G, hG⟩ : ∃ g, greatN [x, y] = g := ⟨_, rfl⟩
    rw [hG] at hgr ⊢
    have hgi : (0 : Int) < G := by omega
    clear hG hgr
    have HA3 := Lib.hid (HAL.out _ HB3.out)
    go_wp2_with fail
    refine HA3.out.mono ?_
    rintro e4 w4 ⟨rfl, hb4⟩
    have HB4 := Lib.hid (HB3.out.trans hb4)
    clear hb4 HA3
    go_wp2_with fail
    go_ret
    exact ⟨rfl, HB4.out⟩
end Go.Proofs.YtojeclfcgnamoaaDoor
