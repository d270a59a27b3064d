/-
  XmloutWrites: the walk.
-/
import Derived.Test.YtojeclfcgnamoaaDoorRW
namespace Go.Proofs.YtojeclfcgnamoaaDoor
open Go.RowKit Go.Maps

theorem kids_one {W : World} {b : Nat} {x : Nd} {aa ka : Option Addr} {an ac kn kc : Nat} (h : Blk W b 27 [.int .i64 x.t, .string x.sp, .string x.lo, .slice aa an ac, .slice ka kn kc, .string x.tx]) (hx : NdAt W x (.slice aa an ac) (.slice ka kn kc)) :
    KidsAt W (some ⟨b, 0, none⟩) [x] := fun i y hy => by
  cases i with
  | succ i => simp at hy
  | zero =>
    simp at hy
    subst hy
    exact ⟨b, 0, aa, an, ac, ka, kn, kc, rfl, h.at 0, h.at 1, h.at 2, h.at 3, h.at 4, h.at 5, hx⟩
set_option maxRecDepth 100000 in
set_option maxHeartbeats 16000000 in
theorem xmloutWrites_walk {W : World} (x : Nd) (va vk : Value) (h : NdAt W x va vk) (hm : x.bulk ≤ 1048576) (hE : EnvT W) : Calls Tryd.prog 3 #[ndV x va vk] W (RetBel (.bool true) W) := by
  have HAL := Lib.hid fun V (hV : Bel W V) => xalive_c V (hE.bel hV)
  have HNA := Lib.hid fun V (hV : Bel W V) => NdAt.bel hV x h
  have HE := Lib.hid fun V (hV : Bel W V) => hE.bel hV
  obtain ⟨aa, ka, an, ac, kn, kc, rfl, rfl, _⟩ := h.opened
  obtain ⟨V1, h1, q1, l1, s1⟩ := alloc_step W 27 [.int .i64 x.t, .string x.sp, .string x.lo, .slice aa an ac, .slice ka kn kc, .string x.tx]
  have c0 := q1.at 0
  have c1 := q1.at 1
  have c2 := q1.at 2
  have c3 := q1.at 3
  have c4 := q1.at 4
  have c5 := q1.at 5
  have Q1 := Lib.hid q1
  have L1 := Lib.hid l1
  have HV1 := Lib.hid h1
  have HM := Lib.hid hm
  unfold ndV
  clear h1 q1 l1 s1 h hm hE
  go_enter Tryd.func3, Tryd.ntmps3
  go_upto_region 1 with fail
  rw [show W.alloc (.cells #[.int .i64 x.t, .string x.sp, .string x.lo, .slice aa an ac, .slice ka kn kc, .string x.tx] 27) = V1 from HV1.out]
  clear HV1
  go_wp2_with fail
  refine (HAL.out _ L1.out).mono ?_
  rintro e2 w2 ⟨rfl, hb2⟩
  have f0 := hb2.keep c0
  have f1 := hb2.keep c1
  have f2 := hb2.keep c2
  have f3 := hb2.keep c3
  have f4 := hb2.keep c4
  have f5 := hb2.keep c5
  obtain ⟨V2, h2, q2, l2, s2⟩ := alloc_step w2 27 [.int .i64 x.t, .string x.sp, .string x.lo, .slice aa an ac, .slice ka kn kc, .string x.tx]
  have HG := Lib.hid (great_c [x] (some ⟨w2.heap.size, 0, none⟩) 1 1 V2 rfl (by omega) (by simp; have := HM.out; omega) (kids_one q2 (HNA.out _ ((L1.out.trans hb2).trans l2))))
  have HV2 := Lib.hid h2
  have HB2 := Lib.hid ((L1.out.trans hb2).trans l2)
  have HB12 := Lib.hid (hb2.trans l2)
  clear hb2 h2 q2 l2 s2 c0 c1 c2 c3 c4 c5
  go_wp2_with fail
  rw [show w2.alloc (.cells #[.int .i64 x.t, .string x.sp, .string x.lo, .slice aa an ac, .slice ka kn kc, .string x.tx] 27) = V2 from HV2.out]
  clear HV2
  refine HG.out.mono ?_
  rintro e3 w3 ⟨rfl, hb3⟩
  have Q3 := Lib.hid (Q1.out.bel (HB12.out.trans hb3))
  have HB3 := Lib.hid (HB2.out.trans hb3)
  clear HG hb3 f0 f1 f2 f3 f4 f5 HB12 HB2
  by_cases hgr : greatN [x] = 0
  · have hx4 := greatN_zero hgr x (List.mem_singleton.2 rfl)
    obtain ⟨G, hG⟩ : ∃ g, greatN [x] = g := ⟨_, rfl⟩
    rw [hG] at hgr ⊢
    subst hgr
    clear hG
    have c0 := Q3.out.at 0
    have c1 := Q3.out.at 1
    have c2 := Q3.out.at 2
    have c3 := Q3.out.at 3
    have c4 := Q3.out.at 4
    have c5 := Q3.out.at 5
    have HCK := Lib.hid (d6Check_c x _ _ w3 (by omega) (HNA.out _ HB3.out))
    unfold ndV at HCK
    obtain ⟨k, hk⟩ : ∃ k, CheckN x = k := ⟨_, rfl⟩
    have HK := Lib.hid hk
    rw [hk] at HCK
    clear hk
    go_wp2_with fail
    refine HCK.out.mono ?_
    rintro e4 w4 ⟨rfl, hb4⟩
    have Q4 := Lib.hid (Q3.out.bel hb4)
    have HB4 := Lib.hid (HB3.out.trans hb4)
    clear HCK c0 c1 c2 c3 c4 c5 hb4
    have c0 := Q4.out.at 0
    have c1 := Q4.out.at 1
    have c2 := Q4.out.at 2
    have c3 := Q4.out.at 3
    have c4 := Q4.out.at 4
    have c5 := Q4.out.at 5
    have HWR := Lib.hid (xWrite_c x _ _ w4 (by omega) (HE.out _ HB4.out) (HNA.out _ HB4.out))
    unfold ndV at HWR
    rw [HK.out] at HWR
    go_wp2_with fail
    refine HWR.out.mono ?_
    rintro e5 w5 ⟨⟨v, rfl, hv⟩, hb5⟩
    have HV := Lib.hid hv
    have Q5 := Lib.hid (Q4.out.bel hb5)
    have HB5 := Lib.hid (HB4.out.trans hb5)
    clear HWR c0 c1 c2 c3 c4 c5 hb5 hv
    have c0 := Q5.out.at 0
    have c1 := Q5.out.at 1
    have c2 := Q5.out.at 2
    have c3 := Q5.out.at 3
    have c4 := Q5.out.at 4
    have c5 := Q5.out.at 5
    have HXC := Lib.hid (xCheck_c x _ _ w5 (by omega) (HE.out _ HB5.out).1 (HNA.out _ HB5.out))
    unfold ndV at HXC
    rw [HK.out] at HXC
    go_wp2_with fail
    refine HXC.out.mono ?_
    rintro e6 w6 ⟨rfl, hb6⟩
    have Q6 := Lib.hid (Q5.out.bel hb6)
    have HB6 := Lib.hid (HB5.out.trans hb6)
    have HB56 := Lib.hid hb6
    clear HXC c0 c1 c2 c3 c4 c5 hb6
    by_cases hk0 : k = 0
    · subst hk0
      have hby := (HV.out.resolve_left fun e => e.1 rfl).2
      have HCV := Lib.hid fun V (hV : Bel w6 V) => bytes_string V v (WriteN x) (hby.bel (HB56.out.trans hV))
      have HWC := Lib.hid fun V (hV : Bel w6 V) => d6Write_c x _ _ V (by omega) HK.out (HNA.out _ (HB6.out.trans hV))
      unfold ndV at HWC
      obtain ⟨WX, hWX⟩ : ∃ s, WriteN x = s := ⟨_, rfl⟩
      rw [hWX] at HCV HWC
      obtain ⟨vb, vn, vc, rfl, -⟩ := hby
      have c0 := Q6.out.at 0
      have c1 := Q6.out.at 1
      have c2 := Q6.out.at 2
      have c3 := Q6.out.at 3
      have c4 := Q6.out.at 4
      have c5 := Q6.out.at 5
      clear hWX HV HK hx4
      go_wp2_with fail
      refine wp_region_held_drew (S := fun w' => Bel w6 w') (by kernel_rfl) (by (repeat (first | exact Bel.refl _ | assumption | refine Bel.to_drewN ?_ _ | refine Bel.to_drew ?_ | refine Bel.to_setCell ?_ (by first | exact Nat.le_refl _ | (simp; done) | (simp; omega) | omega) _ | refine Bel.to_alloc ?_ _ | refine Bel.trans ?_ (by assumption)))) (fun hHeld => ?_)
      refine tk 0 (v := ?_) ?_ ?_
      rotate_left 1
      · first
          | (refine Or.inl ⟨by rfl, ?_⟩; intro w9 hSw; have e9_0 := Bel.keep hSw c0; have e9_1 := Bel.keep hSw c1; have e9_2 := Bel.keep hSw c2; have e9_3 := Bel.keep hSw c3; have e9_4 := Bel.keep hSw c4; have e9_5 := Bel.keep hSw c5; go_simp; (try with_reducible rfl); done)
          | (refine Or.inr ⟨by rfl, ?_⟩; rfl)
      simp only [List.getElem_toArray, List.getElem_cons_zero, Act.put, List.setIfInBounds_toArray, List.set_cons_zero, List.set_cons_succ]
      refine tk 1 (v := ?_) ?_ ?_
      rotate_left 1
      · first
          | (refine Or.inl ⟨by rfl, ?_⟩; intro w9 hSw; have e9_0 := Bel.keep hSw c0; have e9_1 := Bel.keep hSw c1; have e9_2 := Bel.keep hSw c2; have e9_3 := Bel.keep hSw c3; have e9_4 := Bel.keep hSw c4; have e9_5 := Bel.keep hSw c5; go_simp; (try with_reducible rfl); done)
          | (refine Or.inr ⟨by rfl, ?_⟩; rfl)
      simp only [List.getElem_toArray, List.getElem_cons_succ, List.getElem_cons_zero, Act.put, List.setIfInBounds_toArray, List.set_cons_zero, List.set_cons_succ]
      refine tk 2 (v := ?_) ?_ ?_
      rotate_left 1
      · first
          | (refine Or.inl ⟨by rfl, ?_⟩; intro w9 hSw; have e9_0 := Bel.keep hSw c0; have e9_1 := Bel.keep hSw c1; have e9_2 := Bel.keep hSw c2; have e9_3 := Bel.keep hSw c3; have e9_4 := Bel.keep hSw c4; have e9_5 := Bel.keep hSw c5; go_simp; (try with_reducible rfl); done)
          | (refine Or.inr ⟨by rfl, ?_⟩; rfl)
      simp only [List.getElem_toArray, List.getElem_cons_succ, List.getElem_cons_zero, Act.put, List.setIfInBounds_toArray, List.set_cons_zero, List.set_cons_succ]
      refine tk 3 (v := ?_) ?_ ?_
      rotate_left 1
      · first
          | (refine Or.inl ⟨by rfl, ?_⟩; intro w9 hSw; have e9_0 := Bel.keep hSw c0; have e9_1 := Bel.keep hSw c1; have e9_2 := Bel.keep hSw c2; have e9_3 := Bel.keep hSw c3; have e9_4 := Bel.keep hSw c4; have e9_5 := Bel.keep hSw c5; go_simp; (try with_reducible rfl); done)
          | (refine Or.inr ⟨by rfl, ?_⟩; rfl)
      simp only [List.getElem_toArray, List.getElem_cons_succ, List.getElem_cons_zero, Act.put, List.setIfInBounds_toArray, List.set_cons_zero, List.set_cons_succ]
      refine tk 4 (v := ?_) ?_ ?_
      rotate_left 1
      · first
          | (refine Or.inl ⟨by rfl, ?_⟩; intro w9 hSw; have e9_0 := Bel.keep hSw c0; have e9_1 := Bel.keep hSw c1; have e9_2 := Bel.keep hSw c2; have e9_3 := Bel.keep hSw c3; have e9_4 := Bel.keep hSw c4; have e9_5 := Bel.keep hSw c5; go_simp; (try with_reducible rfl); done)
          | (refine Or.inr ⟨by rfl, ?_⟩; rfl)
      simp only [List.getElem_toArray, List.getElem_cons_succ, List.getElem_cons_zero, Act.put, List.setIfInBounds_toArray, List.set_cons_zero, List.set_cons_succ]
      refine tk 5 (v := ?_) ?_ ?_
      rotate_left 1
      · first
          | (refine Or.inl ⟨by rfl, ?_⟩; intro w9 hSw; have e9_0 := Bel.keep hSw c0; have e9_1 := Bel.keep hSw c1; have e9_2 := Bel.keep hSw c2; have e9_3 := Bel.keep hSw c3; have e9_4 := Bel.keep hSw c4; have e9_5 := Bel.keep hSw c5; go_simp; (try with_reducible rfl); done)
          | (refine Or.inr ⟨by rfl, ?_⟩; rfl)
      simp only [List.getElem_toArray, List.getElem_cons_succ, List.getElem_cons_zero, Act.put, List.setIfInBounds_toArray, List.set_cons_zero, List.set_cons_succ]
      refine tk 6 (v := ?_) ?_ ?_
      rotate_left 1
      · first
          | (refine Or.inl ⟨by rfl, ?_⟩; intro w9 hSw; have e9_0 := Bel.keep hSw c0; have e9_1 := Bel.keep hSw c1; have e9_2 := Bel.keep hSw c2; have e9_3 := Bel.keep hSw c3; have e9_4 := Bel.keep hSw c4; have e9_5 := Bel.keep hSw c5; go_simp; (try with_reducible rfl); done)
          | (refine Or.inr ⟨by rfl, ?_⟩; rfl)
      simp only [List.getElem_toArray, List.getElem_cons_succ, List.getElem_cons_zero, Act.put, List.setIfInBounds_toArray, List.set_cons_zero, List.set_cons_succ]
      refine tk 7 (v := ?_) ?_ ?_
      rotate_left 1
      · first
          | (refine Or.inl ⟨by rfl, ?_⟩; intro w9 hSw; have e9_0 := Bel.keep hSw c0; have e9_1 := Bel.keep hSw c1; have e9_2 := Bel.keep hSw c2; have e9_3 := Bel.keep hSw c3; have e9_4 := Bel.keep hSw c4; have e9_5 := Bel.keep hSw c5; go_simp; (try with_reducible rfl); done)
          | (refine Or.inr ⟨by rfl, ?_⟩; rfl)
      simp only [List.getElem_toArray, List.getElem_cons_succ, List.getElem_cons_zero, Act.put, List.setIfInBounds_toArray, List.set_cons_zero, List.set_cons_succ]
      refine tk 8 (v := ?_) ?_ ?_
      rotate_left 1
      · first
          | (refine Or.inl ⟨by rfl, ?_⟩; intro w9 hSw; have e9_0 := Bel.keep hSw c0; have e9_1 := Bel.keep hSw c1; have e9_2 := Bel.keep hSw c2; have e9_3 := Bel.keep hSw c3; have e9_4 := Bel.keep hSw c4; have e9_5 := Bel.keep hSw c5; go_simp; (try with_reducible rfl); done)
          | (refine Or.inr ⟨by rfl, ?_⟩; rfl)
      simp only [List.getElem_toArray, List.getElem_cons_succ, List.getElem_cons_zero, Act.put, List.setIfInBounds_toArray, List.set_cons_zero, List.set_cons_succ]
      refine tk 9 (v := ?_) ?_ ?_
      rotate_left 1
      · first
          | (refine Or.inl ⟨by rfl, ?_⟩; intro w9 hSw; have e9_0 := Bel.keep hSw c0; have e9_1 := Bel.keep hSw c1; have e9_2 := Bel.keep hSw c2; have e9_3 := Bel.keep hSw c3; have e9_4 := Bel.keep hSw c4; have e9_5 := Bel.keep hSw c5; go_simp; (try with_reducible rfl); done)
          | (refine Or.inr ⟨by rfl, ?_⟩; rfl)
      simp only [List.getElem_toArray, List.getElem_cons_succ, List.getElem_cons_zero, Act.put, List.setIfInBounds_toArray, List.set_cons_zero, List.set_cons_succ]
      refine tk 10 (v := ?_) ?_ ?_
      rotate_left 1
      · first
          | (refine Or.inl ⟨by rfl, ?_⟩; intro w9 hSw; have e9_0 := Bel.keep hSw c0; have e9_1 := Bel.keep hSw c1; have e9_2 := Bel.keep hSw c2; have e9_3 := Bel.keep hSw c3; have e9_4 := Bel.keep hSw c4; have e9_5 := Bel.keep hSw c5; go_simp; (try with_reducible rfl); done)
          | (refine Or.inr ⟨by rfl, ?_⟩; rfl)
      simp only [List.getElem_toArray, List.getElem_cons_succ, List.getElem_cons_zero, Act.put, List.setIfInBounds_toArray, List.set_cons_zero, List.set_cons_succ]
      refine tk 11 (v := ?_) ?_ ?_
      rotate_left 1
      · first
          | (refine Or.inl ⟨by rfl, ?_⟩; intro w9 hSw; have e9_0 := Bel.keep hSw c0; have e9_1 := Bel.keep hSw c1; have e9_2 := Bel.keep hSw c2; have e9_3 := Bel.keep hSw c3; have e9_4 := Bel.keep hSw c4; have e9_5 := Bel.keep hSw c5; go_simp; (try with_reducible rfl); done)
          | (refine Or.inr ⟨by rfl, ?_⟩; rfl)
      simp only [List.getElem_toArray, List.getElem_cons_succ, List.getElem_cons_zero, Act.put, List.setIfInBounds_toArray, List.set_cons_zero, List.set_cons_succ]
      refine tk 12 (v := ?_) ?_ ?_
      rotate_left 1
      · refine Or.inl ⟨by rfl, ?_⟩
        intro w9 hSw
        have e9 := HCV.out w9 hSw
        go_simp
        (try with_reducible rfl)
        done
      simp only [List.getElem_toArray, List.getElem_cons_succ, List.getElem_cons_zero, Act.put, List.setIfInBounds_toArray, List.set_cons_zero, List.set_cons_succ]
      refine tk 13 (v := ?_) ?_ ?_
      rotate_left 1
      · first
          | (refine Or.inl ⟨by rfl, ?_⟩; intro w9 hSw; have e9_0 := Bel.keep hSw c0; have e9_1 := Bel.keep hSw c1; have e9_2 := Bel.keep hSw c2; have e9_3 := Bel.keep hSw c3; have e9_4 := Bel.keep hSw c4; have e9_5 := Bel.keep hSw c5; go_simp; (try with_reducible rfl); done)
          | (refine Or.inr ⟨by rfl, ?_⟩; rfl)
      simp only [List.getElem_toArray, List.getElem_cons_succ, List.getElem_cons_zero, Act.put, List.setIfInBounds_toArray, List.set_cons_zero, List.set_cons_succ]
      refine wpAnyH_ready (rs := [14]) (by kernel_rfl) (by simp) ?_
      refine AllReadyH.cons (o := _) rfl (fun K hK => ?_) AllReadyH.nil
      go_simp
      refine (HWC.out _ (by (repeat (first | exact Bel.refl _ | assumption | refine Bel.to_drewN ?_ _ | refine Bel.to_drew ?_ | refine Bel.to_setCell ?_ (by first | exact Nat.le_refl _ | (simp; done) | (simp; omega) | omega) _ | refine Bel.to_alloc ?_ _ | refine Bel.trans ?_ (by assumption))))).mono ?_
      rintro e7 w7 ⟨o, rfl, ho, hb7⟩
      obtain rfl : o = WX := bytes_inj ho
      dsimp only
      have hr7 : Bel w6 w7 := by (repeat (first | exact Bel.refl _ | assumption | refine Bel.to_drewN ?_ _ | refine Bel.to_drew ?_ | refine Bel.to_setCell ?_ (by first | exact Nat.le_refl _ | (simp; done) | (simp; omega) | omega) _ | refine Bel.to_alloc ?_ _ | refine Bel.trans ?_ (by assumption)))
      refine hK.out _ _ hr7 (fun hHeld => ?_)
      clear hK K
      refine tk 15 (v := ?_) ?_ ?_
      rotate_left 1
      · first
          | (refine Or.inl ⟨by rfl, ?_⟩; intro w9 hSw; go_simp; (try with_reducible rfl); done)
          | (refine Or.inr ⟨by rfl, ?_⟩; rfl)
      simp only [List.getElem_toArray, List.getElem_cons_succ, List.getElem_cons_zero, Act.put, List.setIfInBounds_toArray, List.set_cons_zero, List.set_cons_succ]
      refine tk 16 (v := ?_) ?_ ?_
      rotate_left 1
      · first
          | (refine Or.inl ⟨by rfl, ?_⟩; intro w9 hSw; go_simp; (try with_reducible rfl); done)
          | (refine Or.inr ⟨by rfl, ?_⟩; rfl)
      simp only [List.getElem_toArray, List.getElem_cons_succ, List.getElem_cons_zero, Act.put, List.setIfInBounds_toArray, List.set_cons_zero, List.set_cons_succ]
      refine tk 17 (v := ?_) ?_ ?_
      rotate_left 1
      · first
          | (refine Or.inl ⟨by rfl, ?_⟩; intro w9 hSw; go_simp; (try with_reducible rfl); done)
          | (refine Or.inr ⟨by rfl, ?_⟩; rfl)
      simp only [List.getElem_toArray, List.getElem_cons_succ, List.getElem_cons_zero, Act.put, List.setIfInBounds_toArray, List.set_cons_zero, List.set_cons_succ]
      refine tk 18 (v := ?_) ?_ ?_
      rotate_left 1
      · first
          | (refine Or.inl ⟨by rfl, ?_⟩; intro w9 hSw; go_simp; (try with_reducible rfl); done)
          | (refine Or.inr ⟨by rfl, ?_⟩; rfl)
      simp only [List.getElem_toArray, List.getElem_cons_succ, List.getElem_cons_zero, Act.put, List.setIfInBounds_toArray, List.set_cons_zero, List.set_cons_succ]
      refine wpAnyH_done (by kernel_rfl) ?_ _
      have HB7 := Lib.hid (HB6.out.trans hr7)
      clear hHeld hr7 hb7
      go_wp2_with fail
      go_ret
      exact ⟨rfl, HB7.out⟩
    · obtain ⟨-, rfl⟩ := HV.out.resolve_right fun e => hk0 e.1
      have hki : ¬ ((k : Int) = 0) := by omega
      have hk2 : ((k : Int) == 0) = false := by simpa using hk0
      have hk3 : ((k : Int) != 0) = true := by simpa using hk0
      clear hk0 HV HK
      go_wp2_with fail
      refine wp_region_held_drew (S := fun w' => Bel w6 w') (by kernel_rfl) (by (repeat (first | exact Bel.refl _ | assumption | refine Bel.to_drewN ?_ _ | refine Bel.to_drew ?_ | refine Bel.to_setCell ?_ (by first | exact Nat.le_refl _ | (simp; done) | (simp; omega) | omega) _ | refine Bel.to_alloc ?_ _ | refine Bel.trans ?_ (by assumption)))) (fun hHeld => ?_)
      refine tk 0 (v := ?_) ?_ ?_
      rotate_left 1
      · first
          | (refine Or.inl ⟨by rfl, ?_⟩; intro w9 hSw; go_simp; (try with_reducible rfl); done)
          | (refine Or.inr ⟨by rfl, ?_⟩; rfl)
      simp only [List.getElem_toArray, List.getElem_cons_zero, Act.put, List.setIfInBounds_toArray, List.set_cons_zero, List.set_cons_succ]
      refine tk 1 (v := ?_) ?_ ?_
      rotate_left 1
      · first
          | (refine Or.inl ⟨by rfl, ?_⟩; intro w9 hSw; go_simp; (try with_reducible rfl); done)
          | (refine Or.inr ⟨by rfl, ?_⟩; rfl)
      simp only [List.getElem_toArray, List.getElem_cons_succ, List.getElem_cons_zero, Act.put, List.setIfInBounds_toArray, List.set_cons_zero, List.set_cons_succ]
      refine tk 2 (v := ?_) ?_ ?_
      rotate_left 1
      · first
          | (refine Or.inl ⟨by rfl, ?_⟩; intro w9 hSw; go_simp; (try with_reducible rfl); done)
          | (refine Or.inr ⟨by rfl, ?_⟩; rfl)
      simp only [List.getElem_toArray, List.getElem_cons_succ, List.getElem_cons_zero, Act.put, List.setIfInBounds_toArray, List.set_cons_zero, List.set_cons_succ]
      refine tk 3 (v := ?_) ?_ ?_
      rotate_left 1
      · first
          | (refine Or.inl ⟨by rfl, ?_⟩; intro w9 hSw; go_simp; (try with_reducible rfl); done)
          | (refine Or.inr ⟨by rfl, ?_⟩; rfl)
      simp only [List.getElem_toArray, List.getElem_cons_succ, List.getElem_cons_zero, Act.put, List.setIfInBounds_toArray, List.set_cons_zero, List.set_cons_succ]
      refine tk 4 (v := ?_) ?_ ?_
      rotate_left 1
      · first
          | (refine Or.inl ⟨by rfl, ?_⟩; intro w9 hSw; go_simp; (try with_reducible rfl); done)
          | (refine Or.inr ⟨by rfl, ?_⟩; rfl)
      simp only [List.getElem_toArray, List.getElem_cons_succ, List.getElem_cons_zero, Act.put, List.setIfInBounds_toArray, List.set_cons_zero, List.set_cons_succ]
      refine tk 5 (v := ?_) ?_ ?_
      rotate_left 1
      · first
          | (refine Or.inl ⟨by rfl, ?_⟩; intro w9 hSw; go_simp; (try with_reducible rfl); done)
          | (refine Or.inr ⟨by rfl, ?_⟩; rfl)
      simp only [List.getElem_toArray, List.getElem_cons_succ, List.getElem_cons_zero, Act.put, List.setIfInBounds_toArray, List.set_cons_zero, List.set_cons_succ]
      refine tk 6 (v := ?_) ?_ ?_
      rotate_left 1
      · first
          | (refine Or.inl ⟨by rfl, ?_⟩; intro w9 hSw; go_simp; (try with_reducible rfl); done)
          | (refine Or.inr ⟨by rfl, ?_⟩; rfl)
      simp only [List.getElem_toArray, List.getElem_cons_succ, List.getElem_cons_zero, Act.put, List.setIfInBounds_toArray, List.set_cons_zero, List.set_cons_succ]
      refine tk 7 (v := ?_) ?_ ?_
      rotate_left 1
      · first
          | (refine Or.inl ⟨by rfl, ?_⟩; intro w9 hSw; go_simp; (try with_reducible rfl); done)
          | (refine Or.inr ⟨by rfl, ?_⟩; rfl)
      simp only [List.getElem_toArray, List.getElem_cons_succ, List.getElem_cons_zero, Act.put, List.setIfInBounds_toArray, List.set_cons_zero, List.set_cons_succ]
      refine tk 8 (v := ?_) ?_ ?_
      rotate_left 1
      · first
          | (refine Or.inl ⟨by rfl, ?_⟩; intro w9 hSw; go_simp; (try with_reducible rfl); done)
          | (refine Or.inr ⟨by rfl, ?_⟩; rfl)
      simp only [List.getElem_toArray, List.getElem_cons_succ, List.getElem_cons_zero, Act.put, List.setIfInBounds_toArray, List.set_cons_zero, List.set_cons_succ]
      refine tk 9 (v := ?_) ?_ ?_
      rotate_left 1
      · first
          | (refine Or.inl ⟨by rfl, ?_⟩; intro w9 hSw; go_simp; (try with_reducible rfl); done)
          | (refine Or.inr ⟨by rfl, ?_⟩; rfl)
      simp only [List.getElem_toArray, List.getElem_cons_succ, List.getElem_cons_zero, Act.put, List.setIfInBounds_toArray, List.set_cons_zero, List.set_cons_succ]
      refine tk 10 (v := ?_) ?_ ?_
      rotate_left 1
      · first
          | (refine Or.inl ⟨by rfl, ?_⟩; intro w9 hSw; go_simp; (try with_reducible rfl); done)
          | (refine Or.inr ⟨by rfl, ?_⟩; rfl)
      simp only [List.getElem_toArray, List.getElem_cons_succ, List.getElem_cons_zero, Act.put, List.setIfInBounds_toArray, List.set_cons_zero, List.set_cons_succ]
      refine tk 11 (v := ?_) ?_ ?_
      rotate_left 1
      · first
          | (refine Or.inl ⟨by rfl, ?_⟩; intro w9 hSw; go_simp; (try with_reducible rfl); done)
          | (refine Or.inr ⟨by rfl, ?_⟩; rfl)
      simp only [List.getElem_toArray, List.getElem_cons_succ, List.getElem_cons_zero, Act.put, List.setIfInBounds_toArray, List.set_cons_zero, List.set_cons_succ]
      refine tk 12 (v := ?_) ?_ ?_
      rotate_left 1
      · first
          | (refine Or.inl ⟨by rfl, ?_⟩; intro w9 hSw; go_simp; (try with_reducible rfl); done)
          | (refine Or.inr ⟨by rfl, ?_⟩; rfl)
      simp only [List.getElem_toArray, List.getElem_cons_succ, List.getElem_cons_zero, Act.put, List.setIfInBounds_toArray, List.set_cons_zero, List.set_cons_succ]
      refine tk 13 (v := ?_) ?_ ?_
      rotate_left 1
      · first
          | (refine Or.inl ⟨by rfl, ?_⟩; intro w9 hSw; go_simp; (try with_reducible rfl); done)
          | (refine Or.inr ⟨by rfl, ?_⟩; rfl)
      simp only [List.getElem_toArray, List.getElem_cons_succ, List.getElem_cons_zero, Act.put, List.setIfInBounds_toArray, List.set_cons_zero, List.set_cons_succ]
      refine tk 14 (v := ?_) ?_ ?_
      rotate_left 1
      · first
          | (refine Or.inl ⟨by rfl, ?_⟩; intro w9 hSw; go_simp; (try with_reducible rfl); done)
          | (refine Or.inr ⟨by rfl, ?_⟩; rfl)
      simp only [List.getElem_toArray, List.getElem_cons_succ, List.getElem_cons_zero, Act.put, List.setIfInBounds_toArray, List.set_cons_zero, List.set_cons_succ]
      refine tk 15 (v := ?_) ?_ ?_
      rotate_left 1
      · first
          | (refine Or.inl ⟨by rfl, ?_⟩; intro w9 hSw; go_simp; (try with_reducible rfl); done)
          | (refine Or.inr ⟨by rfl, ?_⟩; rfl)
      simp only [List.getElem_toArray, List.getElem_cons_succ, List.getElem_cons_zero, Act.put, List.setIfInBounds_toArray, List.set_cons_zero, List.set_cons_succ]
      refine tk 16 (v := ?_) ?_ ?_
      rotate_left 1
      · first
          | (refine Or.inl ⟨by rfl, ?_⟩; intro w9 hSw; go_simp; (try with_reducible rfl); done)
          | (refine Or.inr ⟨by rfl, ?_⟩; rfl)
      simp only [List.getElem_toArray, List.getElem_cons_succ, List.getElem_cons_zero, Act.put, List.setIfInBounds_toArray, List.set_cons_zero, List.set_cons_succ]
      refine tk 17 (v := ?_) ?_ ?_
      rotate_left 1
      · first
          | (refine Or.inl ⟨by rfl, ?_⟩; intro w9 hSw; go_simp; (try with_reducible rfl); done)
          | (refine Or.inr ⟨by rfl, ?_⟩; rfl)
      simp only [List.getElem_toArray, List.getElem_cons_succ, List.getElem_cons_zero, Act.put, List.setIfInBounds_toArray, List.set_cons_zero, List.set_cons_succ]
      refine tk 18 (v := ?_) ?_ ?_
      rotate_left 1
      · first
          | (refine Or.inl ⟨by rfl, ?_⟩; intro w9 hSw; go_simp; (try with_reducible rfl); done)
          | (refine Or.inr ⟨by rfl, ?_⟩; rfl)
      simp only [List.getElem_toArray, List.getElem_cons_succ, List.getElem_cons_zero, Act.put, List.setIfInBounds_toArray, List.set_cons_zero, List.set_cons_succ]
      refine wpAnyH_done (by kernel_rfl) ?_ _
      have HB7 : Hid (Bel W w6.drew) := Lib.hid (HB6.out.trans (by (repeat (first | exact Bel.refl _ | assumption | refine Bel.to_drewN ?_ _ | refine Bel.to_drew ?_ | refine Bel.to_setCell ?_ (by first | exact Nat.le_refl _ | (simp; done) | (simp; omega) | omega) _ | refine Bel.to_alloc ?_ _ | refine Bel.trans ?_ (by assumption)))))
      clear hHeld
      go_wp2_with fail
      go_ret
      exact ⟨rfl, HB7.out⟩
  · obtain ⟨G, hG⟩ : ∃ g, greatN [x] = g := ⟨_, rfl⟩
    rw [hG] at hgr ⊢
    have hgi : (0 : Int) < G := by omega
    clear hG hgr
    have HA3 := Lib.hid (HAL.out _ HB3.out)
    go_wp2_with fail
    refine HA3.out.mono ?_
    rintro e4 w4 ⟨rfl, hb4⟩
    have HB4 := Lib.hid (HB3.out.trans hb4)
    clear hb4 HA3
    go_wp2_with fail
    go_ret
    exact ⟨rfl, HB4.out⟩
end Go.Proofs.YtojeclfcgnamoaaDoor
